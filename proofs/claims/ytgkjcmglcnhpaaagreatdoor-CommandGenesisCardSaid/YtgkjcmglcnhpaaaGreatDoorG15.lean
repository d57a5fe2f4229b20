/-
  What the statements of the chapter share, part 15: LA5, LB1, LB2.
-/
import Derived.Test.YtgkjcmglcnhpaaaGreatDoorG14
set_option linter.unusedVariables false
set_option linter.unusedSimpArgs false
set_option maxRecDepth 100000
set_option maxHeartbeats 8000000
namespace Go.Proofs.YtgkjcmglcnhpaaaGreatDoor
open Go.RowKit
section
set_option maxRecDepth 100000
set_option maxHeartbeats 8000000
attribute [local irreducible] on aOp
attribute [local go_sem] decide_true decide_false Bool.not_true Bool.not_false
attribute [local simp] byD_len
def walkG (g : Lat → Nat → Nat × Int) : List Lat → Nat → Nat × Int
 | [], n => (n, 0)
 | p :: t, n => if (g p n).2 ≠ 0 then (n, (g p n).2) else walkG g t (g p n).1
def walkF : Nat → Lat → Nat → Nat × Int
 | 0, l, n => (n, nodeR l 7 n)
 | f + 1, l, n => if nodeR l (6 - f) n ≠ 0 then (n, nodeR l (6 - f) n) else walkG (walkF f) l.parts (n + 1)
theorem walkG_go {g : Lat → Nat → Nat × Int} {v : Lat → Nat → Int × Nat} : ∀ (ps : List Lat) (n : Nat), (∀ p ∈ ps, ∀ n, (g p n).2 = (v p n).1 ∧ ((v p n).1 = 0 → (g p n).1 = (v p n).2)) → (walkG g ps n).2 = (goL v ps n).1 ∧ ((goL v ps n).1 = 0 → (walkG g ps n).1 = (goL v ps n).2)
 | [], n, _ => ⟨rfl, fun _ => rfl⟩
 | p :: t, n, h => by
  obtain ⟨h1, h2⟩ := h p (by simp) n
  rw [walkG, goL, h1]
  by_cases h0 : (v p n).1 = 0
  · rw [if_neg (fun q => q h0), if_neg (fun q => q h0), h2 h0]
    exact walkG_go t _ fun q hq => h q (by simp [hq])
  · rw [if_pos h0, if_pos h0]
    exact ⟨rfl, fun q => absurd q h0⟩
theorem walkF_visit : ∀ (f : Nat) (l : Lat) (n : Nat), f ≤ 6 → (walkF f l n).2 = (visitF f l n).1 ∧ ((visitF f l n).1 = 0 → (walkF f l n).1 = (visitF f l n).2)
 | 0, l, n, _ => by
  rcases node_visit 0 l n 7 (by omega) (by omega) with ⟨h1, h2⟩ | ⟨_, g, hg, _⟩
  · exact ⟨h2.symm, fun q => absurd (h2 ▸ q) h1⟩
  · omega
 | f + 1, l, n, hf => by
  rw [walkF]
  rcases node_visit (f + 1) l n (6 - f) (by omega) hf with ⟨h1, h2⟩ | ⟨h1, g, hg, h2⟩
  · rw [if_pos h1]; exact ⟨h2.symm, fun q => absurd (h2 ▸ q) h1⟩
  · obtain rfl : f = g := by omega
    rw [if_neg (fun q => q h1), h2]
    exact walkG_go l.parts (n + 1) fun p _ m => walkF_visit f p m (by omega)
theorem walkF_le {f : Nat} {l : Lat} {n : Nat} (hf : f ≤ 6) (hn : n ≤ 64) (h : (walkF f l n).2 = 0) : (walkF f l n).1 ≤ 64 := by
 obtain ⟨h1, h2⟩ := walkF_visit f l n hf
 rw [h2 (h1 ▸ h)]
 exact visit_le f l n hn
theorem walkF_chk (l : Lat) : (walkF 6 l 0).2 = chkE l := (walkF_visit 6 l 0 (Nat.le_refl _)).1
theorem nodeR_lt {l : Lat} {d : Int} {n : Nat} (h : nodeR l d n = 0) : n < 64 := by
 unfold nodeR at h
 by_cases h1 : 6 < d ∨ 64 ≤ n
 · rw [if_pos h1] at h; exact absurd h (by decide)
 · omega
variable (G : Nat → D) (hG : ∀ g, low 0 (G g))
include hG
theorem rNode_d (l : Lat) (hsm : Sm l) (d : Int) (n : Nat) (hd : 0 ≤ d ∧ d ≤ 7) (hn : n ≤ 64) (h : List Ob) : Does Tryz.prog G 108 h [.agg (latX l), .v (.int .i64 d), .v (.int .i64 n)] (fun h' r => h' = h ∧ r = .v (.int .i64 (nodeR l d n))) := by
 refine does_any G hG (by rw [lowL, lowL, lowL, lowL, low]; exact ⟨low_lat _ l, by simp [low], by simp [low], trivial⟩) (by rw [low]; trivial) ?_ h
 clear h
 have hpl := hsm.parts
 have hnl := hsm.names
 have hrl := hsm.rules
 have hsh := rShape_d G hG l hsm
 have hnm := rNamed_d G hG l hsm
 have hp0 : l.kind = 7 → shapeB l = false → ∃ p, l.parts[0]? = some p ∧ l.parts.length = 2 ∧ chainsB l = !chainB p ∧ ∀ (b : Bool), chainB p = b → ∀ (h : List Ob), Does Tryz.prog G 132 h [.agg (latX p)] (fun h' r => h' = h ∧ r = .v (.bool b)) := fun h7 hs => by
  have h2 := shapeB_lex l hs h7
  match hm : l.parts, h2 with
  | [a, b], _ => exact ⟨a, rfl, rfl, by unfold chainsB; rw [h7, hm]; rfl, fun c hc h => hc ▸ rChain_d G hG _ a (Nat.le_refl _) (hsm.part a (by rw [hm]; simp)) h⟩
 have hnc : l.kind ≠ 7 → chainsB l = false := fun h7 => by unfold chainsB; rw [decide_eq_false h7, Bool.false_and]
 simp only [latX_eq l] at hsh hnm
 unfold nodeR limitsB
 generalize hsb : shapeB l = sb at *
 generalize hnb : namedR l.kind l.names l.rules = nb at *
 generalize hcb : chainsB l = cb at *
 generalize hkk : l.kind = k at *
 generalize hlo : l.lo = lo at *
 generalize hhi : l.hi = hi at *
 generalize hnn : l.names.length = nn at *
 generalize hnr : l.rules.length = nr at *
 refine does_of_aw Tryz.func108 rfl (Nat.le_of_ble_eq_true rfl) hG fun hl0 _ => ?_
 simp only [Tryz.ntmps108]
 by_cases h7 : k = 7
 · subst h7
   cases sb
   · obtain ⟨p, hp, hp2, hpc, hpd⟩ := hp0 rfl rfl
     cases hcp : chainB p <;> rw [hcp] at hpc
     all_goals
      cases nb
     all_goals
      skip
      repeat' first
       | (with_reducible refine gd_aw ?_; first
        | refine aw_seq' ?_
        | refine aw_region' ?_
        | refine aw_block ?_
        | refine aw_if1 rfl ?_
        | refine aw_if0 rfl ?_
        | refine aw_skip ?_
        | refine aw_ret ?_)
       | (with_reducible refine gd_ao ?_; first
        | refine ao_nil ?_
        | (refine ao1 rfl rfl fun K HK => ?_; (first | refine aOp_pick rfl ?_ | skip); simp only [go_sem, ↓reduceIte, Nat.reduceEqDiff, Nat.reduceAdd, Nat.reduceLeDiff, Nat.reduceBEq, Nat.reduceMul, Int.reduceEq, Int.reduceLT, Int.reduceLE, latX_eq l, latX_len, latX_take, List.length_map, hkk, hlo, hhi, hnn, hnr, hp2, Int.toNat_zero, Bool.false_eq_true]; (first | refine splitB (fun hq => ?_) (fun hq => ?_) | (refine ⟨by omega, ?_⟩; refine row_at (by assumption) ?_) | skip) <;> (refine HK _ _ ?_; clear HK K))
        | refine ao0 rfl rfl ?_
        | (refine ao2 rfl rfl rfl ent_130 (hsh _) ?_; rintro _ _ ⟨rfl, rfl⟩)
        | (refine ao2 rfl rfl rfl ent_131 (hnm _) ?_; rintro _ _ ⟨rfl, rfl⟩)
        | (refine ao2 rfl rfl rfl ent_132 (hpd _ hcp _) ?_; rintro _ _ ⟨rfl, rfl⟩))
       | (with_reducible refine gd_th ?_; first
        | refine thenS_n ?_
        | refine thenS_r ?_)
       | (with_reducible refine gd_iB ?_; first
        | refine inB_n ?_
        | refine inB_r ?_)
      all_goals first | (exfalso; omega) | refine ⟨.inr rfl, endD (r := .v _) hl0 rfl (by simp) (by simp) rfl (by rw [low]; trivial) ⟨rfl, congrArg (fun b => D.v (.int .i64 b)) ?_⟩⟩
      all_goals (clear hl0; simp [mostN]; repeat' split) <;> first | rfl | omega | (simp_all; done) | (simp_all; omega) | (simp_all; intros; omega)
   · skip
     repeat' first
      | (with_reducible refine gd_aw ?_; first
       | refine aw_seq' ?_
       | refine aw_region' ?_
       | refine aw_block ?_
       | refine aw_if1 rfl ?_
       | refine aw_if0 rfl ?_
       | refine aw_skip ?_
       | refine aw_ret ?_)
      | (with_reducible refine gd_ao ?_; first
       | refine ao_nil ?_
       | (refine ao1 rfl rfl fun K HK => ?_; (first | refine aOp_pick rfl ?_ | skip); simp only [go_sem, ↓reduceIte, Nat.reduceEqDiff, Nat.reduceAdd, Nat.reduceLeDiff, Nat.reduceBEq, Nat.reduceMul, Int.reduceEq, Int.reduceLT, Int.reduceLE, latX_eq l, List.length_map, hkk, hlo, hhi, hnn, hnr, Bool.false_eq_true]; (first | refine splitB (fun hq => ?_) (fun hq => ?_) | skip) <;> (refine HK _ _ ?_; clear HK K))
       | refine ao0 rfl rfl ?_
       | (refine ao2 rfl rfl rfl ent_130 (hsh _) ?_; rintro _ _ ⟨rfl, rfl⟩))
      | (with_reducible refine gd_th ?_; first
       | refine thenS_n ?_
       | refine thenS_r ?_)
      | (with_reducible refine gd_iB ?_; first
       | refine inB_r ?_)
     all_goals first | (exfalso; omega) | refine ⟨.inr rfl, endD (r := .v _) hl0 rfl (by simp) (by simp) rfl (by rw [low]; trivial) ⟨rfl, congrArg (fun b => D.v (.int .i64 b)) ?_⟩⟩
     all_goals (clear hl0; simp [mostN]; repeat' split) <;> first | rfl | omega | (simp_all; done) | (simp_all; omega) | (simp_all; intros; omega)
 · obtain rfl := hnc h7
   cases sb
   · cases nb
     all_goals
      skip
      repeat' first
       | (with_reducible refine gd_aw ?_; first
        | refine aw_seq' ?_
        | refine aw_region' ?_
        | refine aw_block ?_
        | refine aw_if1 rfl ?_
        | refine aw_if0 rfl ?_
        | refine aw_skip ?_
        | refine aw_ret ?_)
       | (with_reducible refine gd_ao ?_; first
        | refine ao_nil ?_
        | (refine ao1 rfl rfl fun K HK => ?_; (first | refine aOp_pick rfl ?_ | skip); simp only [go_sem, ↓reduceIte, Nat.reduceEqDiff, Nat.reduceAdd, Nat.reduceLeDiff, Nat.reduceBEq, Nat.reduceMul, Int.reduceEq, Int.reduceLT, Int.reduceLE, latX_eq l, List.length_map, hkk, hlo, hhi, hnn, hnr, h7, Bool.false_eq_true]; (first | refine splitB (fun hq => ?_) (fun hq => ?_) | skip) <;> (refine HK _ _ ?_; clear HK K))
        | refine ao0 rfl rfl ?_
        | (refine ao2 rfl rfl rfl ent_130 (hsh _) ?_; rintro _ _ ⟨rfl, rfl⟩)
        | (refine ao2 rfl rfl rfl ent_131 (hnm _) ?_; rintro _ _ ⟨rfl, rfl⟩))
       | (with_reducible refine gd_th ?_; first
        | refine thenS_n ?_
        | refine thenS_r ?_)
       | (with_reducible refine gd_iB ?_; first
        | refine inB_n ?_
        | refine inB_r ?_)
       | (exfalso; omega)
      all_goals first | (exfalso; omega) | refine ⟨.inr rfl, endD (r := .v _) hl0 rfl (by simp) (by simp) rfl (by rw [low]; trivial) ⟨rfl, congrArg (fun b => D.v (.int .i64 b)) ?_⟩⟩
      all_goals (clear hl0; simp [mostN]; repeat' split) <;> first | rfl | omega | (simp_all; done) | (simp_all; omega) | (simp_all; intros; omega)
   · skip
     repeat' first
      | (with_reducible refine gd_aw ?_; first
       | refine aw_seq' ?_
       | refine aw_region' ?_
       | refine aw_block ?_
       | refine aw_if1 rfl ?_
       | refine aw_if0 rfl ?_
       | refine aw_skip ?_
       | refine aw_ret ?_)
      | (with_reducible refine gd_ao ?_; first
       | refine ao_nil ?_
       | (refine ao1 rfl rfl fun K HK => ?_; (first | refine aOp_pick rfl ?_ | skip); simp only [go_sem, ↓reduceIte, Nat.reduceEqDiff, Nat.reduceAdd, Nat.reduceLeDiff, Nat.reduceBEq, Nat.reduceMul, Int.reduceEq, Int.reduceLT, Int.reduceLE, latX_eq l, List.length_map, hkk, hlo, hhi, hnn, hnr, h7, Bool.false_eq_true]; (first | refine splitB (fun hq => ?_) (fun hq => ?_) | skip) <;> (refine HK _ _ ?_; clear HK K))
       | refine ao0 rfl rfl ?_
       | (refine ao2 rfl rfl rfl ent_130 (hsh _) ?_; rintro _ _ ⟨rfl, rfl⟩))
      | (with_reducible refine gd_th ?_; first
       | refine thenS_n ?_
       | refine thenS_r ?_)
      | (with_reducible refine gd_iB ?_; first
       | refine inB_r ?_)
      | (exfalso; omega)
     all_goals first | (exfalso; omega) | refine ⟨.inr rfl, endD (r := .v _) hl0 rfl (by simp) (by simp) rfl (by rw [low]; trivial) ⟨rfl, congrArg (fun b => D.v (.int .i64 b)) ?_⟩⟩
     all_goals (clear hl0; simp [mostN]; repeat' split) <;> first | rfl | omega | (simp_all; done) | (simp_all; omega) | (simp_all; intros; omega)
theorem rWalk_d : ∀ (f : Nat) (l : Lat) (n : Nat) (d : Int), f ≤ 6 → d = 7 - f → Sm l → n ≤ 64 → ∀ (h : List Ob), Does Tryz.prog G 78 h [.agg (latX l), .v (.int .i64 d), .v (.int .i64 n)] (fun h' r => h' = h ∧ r = .tup [.v (.int .i64 (walkF f l n).1), .v (.int .i64 (walkF f l n).2)]) := by
 intro f
 induction f with
 | zero =>
   intro l n d hf hd hsm hn h
   refine does_any G hG (by rw [lowL, lowL, lowL, lowL, low]; exact ⟨low_lat _ l, by simp [low], by simp [low], trivial⟩) (by simp [low, lowL]) ?_ h
   clear h
   obtain rfl : d = 7 := by omega
   have hnd := rNode_d G hG l hsm 7 n (by omega) hn
   simp only [latX_eq l] at hnd
   have hne : nodeR l 7 n ≠ 0 := by unfold nodeR; rw [if_pos (.inl (by omega))]; decide
   rw [walkF]
   generalize nodeR l 7 n = e at *
   refine does_of_aw Tryz.func78 rfl (Nat.le_of_ble_eq_true rfl) hG fun hl0 _ => ?_
   simp only [Tryz.ntmps78]
   repeat' first
    | (with_reducible refine gd_aw ?_; first
     | refine aw_seq' ?_
     | refine aw_region' ?_
     | refine aw_if1 rfl ?_
     | refine aw_ret ?_)
    | (with_reducible refine gd_ao ?_; first
     | refine ao_nil ?_
     | (refine ao1 rfl rfl fun K HK => ?_; simp only [go_sem, ↓reduceIte, Nat.reduceEqDiff, Nat.reduceAdd, Nat.reduceLeDiff, Nat.reduceBEq, Nat.reduceMul, Int.reduceEq, Int.reduceLT, Int.reduceLE, latX_eq l, hne] <;> (refine HK _ _ ?_; clear HK K))
     | (refine ao2 rfl rfl rfl ent_108 (hnd _) ?_; rintro _ _ ⟨rfl, rfl⟩))
    | (with_reducible refine gd_th ?_; first
     | refine thenS_n ?_
     | refine thenS_r ?_)
   exact ⟨.inr rfl, endD (r := .tup [.v _, .v _]) hl0 rfl (by simp) (by simp) rfl (by simp [low, lowL]) ⟨rfl, rfl⟩⟩
 | succ f ih =>
   intro l n d hf hd hsm hn h
   refine does_any G hG (by rw [lowL, lowL, lowL, lowL, low]; exact ⟨low_lat _ l, by simp [low], by simp [low], trivial⟩) (by simp [low, lowL]) ?_ h
   clear h
   obtain rfl : d = 6 - f := by omega
   have hnd := rNode_d G hG l hsm (6 - f) n (by omega) hn
   simp only [latX_eq l] at hnd
   have hpl := hsm.parts
   rw [walkF]
   have hlt64 := nodeR_lt (l := l) (d := 6 - f) (n := n)
   generalize nodeR l (6 - f) n = e at *
   refine does_of_aw Tryz.func78 rfl (Nat.le_of_ble_eq_true rfl) hG fun hl0 _ => ?_
   simp only [Tryz.ntmps78]
   by_cases he : e = 0
   rotate_left
   · rw [if_pos he]
     repeat' first
      | (with_reducible refine gd_aw ?_; first
       | refine aw_seq' ?_
       | refine aw_region' ?_
       | refine aw_if1 rfl ?_
       | refine aw_ret ?_)
      | (with_reducible refine gd_ao ?_; first
       | refine ao_nil ?_
       | (refine ao1 rfl rfl fun K HK => ?_; simp only [go_sem, ↓reduceIte, Nat.reduceEqDiff, Nat.reduceAdd, Nat.reduceLeDiff, Nat.reduceBEq, Nat.reduceMul, Int.reduceEq, Int.reduceLT, Int.reduceLE, latX_eq l, he] <;> (refine HK _ _ ?_; clear HK K))
       | (refine ao2 rfl rfl rfl ent_108 (hnd _) ?_; rintro _ _ ⟨rfl, rfl⟩))
      | (with_reducible refine gd_th ?_; first
       | refine thenS_n ?_
       | refine thenS_r ?_)
     exact ⟨.inr rfl, endD (r := .tup [.v _, .v _]) hl0 rfl (by simp) (by simp) rfl (by simp [low, lowL]) ⟨rfl, rfl⟩⟩
   rw [if_neg (fun q => q he)]
   have hn64 := hlt64 he
   subst he
   have wn : IntKind.i64.wrap ((n : Int) + 1) = ((n + 1 : Nat) : Int) := IntWalk.i64_in _ (by omega)
   have wd : IntKind.i64.wrap (6 - (f : Int) + 1) = 6 - (f : Int) + 1 := IntWalk.i64_in _ (by omega)
   repeat' first
    | (with_reducible refine gd_aw ?_; first
     | refine aw_seq' ?_
     | refine aw_region' ?_
     | refine aw_block ?_
     | refine aw_if0 rfl ?_
     | refine aw_skip ?_)
    | (with_reducible refine gd_ao ?_; first
     | refine ao_nil ?_
     | (refine ao1 rfl rfl fun K HK => ?_; simp only [go_sem, ↓reduceIte, Nat.reduceEqDiff, Nat.reduceAdd, Nat.reduceLeDiff, Nat.reduceBEq, Nat.reduceMul, Int.reduceEq, Int.reduceLT, Int.reduceLE, latX_eq l, wn] <;> (refine HK _ _ ?_; clear HK K))
     | (refine ao2 rfl rfl rfl ent_108 (hnd _) ?_; rintro _ _ ⟨rfl, rfl⟩))
    | (with_reducible refine gd_th ?_; first
     | refine thenS_n ?_)
   refine aw_for (fun m e h' => ∃ k c : Nat, k ≤ l.parts.length ∧ m = l.parts.length - k ∧ c ≤ 64 ∧ walkG (walkF f) l.parts (n + 1) = walkG (walkF f) (l.parts.drop k) c ∧ h' = [.cells (latX l)] ∧ e 1 = .v (.int .i64 (6 - f)) ∧ e 3 = .ptr 0 0 ∧ e 9 = .v (.int .i64 c) ∧ e 10 = .v (.int .i64 k)) l.parts.length ⟨0, n + 1, Nat.zero_le _, rfl, by omega, rfl, (by rw [latX_eq]), rfl, rfl, rfl, rfl⟩ ?_
   clear hnd
   rintro m e h' ⟨k, c, hk, rfl, hc, ho, rfl, e1, e3, e9, e10⟩
   by_cases hlt : k < l.parts.length
   rotate_left
   · skip
     repeat' first
      | (with_reducible refine gd_aw ?_; first
       | refine aw_seq' ?_
       | refine aw_region' ?_
       | refine aw_block ?_
       | refine aw_if1 rfl ?_
       | refine aw_if0 rfl ?_
       | refine aw_skip ?_
       | refine aw_exit ?_
       | refine aw_ret ?_)
      | (with_reducible refine gd_ao ?_; first
       | refine ao_nil ?_
       | (refine ao1 rfl rfl fun K HK => ?_; simp only [go_sem, ↓reduceIte, Nat.reduceEqDiff, Nat.reduceAdd, Nat.reduceLeDiff, Nat.reduceBEq, Nat.reduceMul, Int.reduceEq, Int.reduceLT, Int.reduceLE, latX_eq l, e1, e3, e9, e10, List.length_map]; (first | refine splitB (fun hq => ?_) (fun hq => ?_) | (refine ⟨by omega, by omega, ?_⟩; intro row hrow; obtain ⟨x, hx, rfl⟩ := row_inv hrow; clear hrow) | skip) <;> (refine HK _ _ ?_; clear HK K)))
      | (with_reducible refine gd_th ?_; first
       | refine thenS_n ?_
       | refine thenS_x ?_)
      | (with_reducible refine gd_iB ?_; first
       | refine inB_x ?_)
      | (exfalso; omega)
     exact ⟨.inr rfl, endD (r := .tup [.v _, .v _]) hl0 rfl (by simp) (by simp) rfl (by simp [low, lowL]) ⟨rfl, by rw [ho, List.drop_eq_nil_of_le (by omega)]; rfl⟩⟩
   have hx : l.parts[k]? = some l.parts[k] := List.getElem?_eq_getElem hlt
   have wk : IntKind.i64.wrap ((k : Int) + 1) = (k : Int) + 1 := IntWalk.i64_in _ (by omega)
   rw [List.drop_eq_getElem_cons hlt, walkG] at ho
   have hr := ih l.parts[k] c (6 - (f : Int) + 1) (by omega) (by omega) (hsm.part _ (List.getElem_mem hlt)) hc
   have hle := walkF_le (f := f) (l := l.parts[k]) (by omega) hc
   generalize l.parts[k] = x at hx ho hr hle
   generalize walkF f x c = y at *
   obtain ⟨y1, y2⟩ := y
   simp only at ho hr hle
   by_cases hy : y2 = 0
   · rw [if_neg (fun q => q hy)] at ho
     have hle := hle hy
     repeat' first
      | (with_reducible refine gd_aw ?_; first
       | refine aw_seq' ?_
       | refine aw_region' ?_
       | refine aw_block ?_
       | refine aw_if1 rfl ?_
       | refine aw_if0 rfl ?_
       | refine aw_skip ?_
       | refine aw_exit ?_
       | refine aw_ret ?_)
      | (with_reducible refine gd_ao ?_; first
       | refine ao_nil ?_
       | (refine ao1 rfl rfl fun K HK => ?_; simp only [go_sem, ↓reduceIte, Nat.reduceEqDiff, Nat.reduceAdd, Nat.reduceLeDiff, Nat.reduceBEq, Nat.reduceMul, Int.reduceEq, Int.reduceLT, Int.reduceLE, latX_eq l, latX_len, latX_take, e1, e3, e9, e10, List.length_map, Int.toNat_natCast, wk, wd, hy]; (first | refine splitB (fun hq => ?_) (fun hq => ?_) | (refine ⟨by omega, by omega, ?_⟩; refine row_at (by assumption) ?_) | skip) <;> (refine HK _ _ ?_; clear HK K))
       | (refine ao2 rfl rfl rfl ent_78 (hr _) ?_; rintro _ _ ⟨rfl, rfl⟩))
      | (with_reducible refine gd_th ?_; first
       | refine thenS_n ?_
       | refine thenS_x ?_)
      | (with_reducible refine gd_iB ?_; first
       | refine inB_n ?_
       | refine inB_x ?_)
      | (exfalso; omega)
     exact ⟨rfl, l.parts.length - (k + 1), by omega, k + 1, y1, hlt, rfl, hle, ho, by rw [latX_eq l], e1, e3, rfl, rfl⟩
   · rw [if_pos hy] at ho
     repeat' first
      | (with_reducible refine gd_aw ?_; first
       | refine aw_seq' ?_
       | refine aw_region' ?_
       | refine aw_block ?_
       | refine aw_if1 rfl ?_
       | refine aw_if0 rfl ?_
       | refine aw_skip ?_
       | refine aw_exit ?_
       | refine aw_ret ?_)
      | (with_reducible refine gd_ao ?_; first
       | refine ao_nil ?_
       | (refine ao1 rfl rfl fun K HK => ?_; simp only [go_sem, ↓reduceIte, Nat.reduceEqDiff, Nat.reduceAdd, Nat.reduceLeDiff, Nat.reduceBEq, Nat.reduceMul, Int.reduceEq, Int.reduceLT, Int.reduceLE, latX_eq l, latX_len, latX_take, e1, e3, e9, e10, List.length_map, Int.toNat_natCast, wk, wd, hy]; (first | refine splitB (fun hq => ?_) (fun hq => ?_) | (refine ⟨by omega, by omega, ?_⟩; refine row_at (by assumption) ?_) | skip) <;> (refine HK _ _ ?_; clear HK K))
       | (refine ao2 rfl rfl rfl ent_78 (hr _) ?_; rintro _ _ ⟨rfl, rfl⟩))
      | (with_reducible refine gd_th ?_; first
       | refine thenS_n ?_
       | refine thenS_x ?_
       | refine thenS_r ?_)
      | (with_reducible refine gd_iB ?_; first
       | refine inB_r ?_
       | refine inB_x ?_)
      | (exfalso; omega)
     exact ⟨.inr rfl, endD (r := .tup [.v _, .v _]) hl0 rfl (by simp) (by simp) rfl (by simp [low, lowL]) ⟨rfl, by rw [ho]⟩⟩
theorem rCheck_d (l : Lat) (hsm : Sm l) (h : List Ob) : Does Tryz.prog G 42 h [.agg (latX l)] (fun h' r => h' = h ∧ r = .v (.int .i64 (chkE l))) := by
 refine does_any G hG (low_latL _ l) (by rw [low]; trivial) ?_ h
 clear h
 have hr := rWalk_d G hG 6 l 0 1 (by omega) (by omega) hsm (by omega)
 simp only [latX_eq l] at hr
 rw [← walkF_chk]
 generalize walkF 6 l 0 = y at *
 obtain ⟨y1, y2⟩ := y
 refine does_of_aw Tryz.func42 rfl (Nat.le_of_ble_eq_true rfl) hG fun hl0 _ => ?_
 simp only [Tryz.ntmps42]
 repeat' first
  | (with_reducible refine gd_aw ?_; first
   | refine aw_seq' ?_
   | refine aw_region' ?_
   | refine aw_ret ?_)
  | (with_reducible refine gd_ao ?_; first
   | refine ao_nil ?_
   | (refine ao1 rfl rfl fun K HK => ?_; simp only [go_sem, ↓reduceIte, Nat.reduceEqDiff, Nat.reduceAdd, Nat.reduceLeDiff, Nat.reduceBEq, Nat.reduceMul, Int.reduceEq, Int.reduceLT, Int.reduceLE, latX_eq l] <;> (refine HK _ _ ?_; clear HK K))
   | (refine ao2 rfl rfl rfl ent_78 (hr _) ?_; rintro _ _ ⟨rfl, rfl⟩))
  | (with_reducible refine gd_th ?_; first
   | refine thenS_n ?_)
 exact ⟨.inr rfl, endD (r := .v _) hl0 rfl (by simp) (by simp) rfl (by rw [low]; trivial) ⟨rfl, rfl⟩⟩
end
section
set_option maxRecDepth 100000
set_option maxHeartbeats 4000000
attribute [local irreducible] on aOp
attribute [local go_sem] decide_true decide_false Bool.not_true Bool.not_false
attribute [local simp] byD_len
def idxS (a : ByteArray) : List ByteArray → Nat → Int
 | [], _ => -1
 | x :: t, k => if a = x then k else idxS a t (k + 1)
theorem idxS_ge (a : ByteArray) : ∀ (l : List ByteArray) (k : Nat), decide (0 ≤ idxS a l k) = hasS l a
 | [], k => by simp [idxS, hasS]
 | x :: t, k => by
  have ih := idxS_ge a t (k + 1)
  by_cases h : a = x
  · simp [idxS, hasS, h]
  · rw [idxS, if_neg h, ih, hasS, decide_eq_false (fun q => h q.symm), Bool.false_or]
theorem sorted_short : ∀ l : List ByteArray, l.length ≤ 1 → sortedB l = true
 | [], _ => rfl
 | [_], _ => rfl
 | _ :: _ :: _, h => by simp at h
variable (G : Nat → D) (hG : ∀ g, low 0 (G g))
include hG
theorem wordByte_d (c : Int) (h : List Ob) : Does Tryz.prog G 76 h [.v (.int .u8 c)] (fun h' r => h' = h ∧ r = .v (.bool (wordB c))) := by
 unfold wordB
 refine does_of_aw Tryz.func76 rfl (Nat.le_of_ble_eq_true rfl) hG fun hl0 _ => ?_
 simp only [Tryz.ntmps76]
 repeat' first
  | (with_reducible refine gd_aw ?_; first
   | refine aw_seq' ?_
   | refine aw_region' ?_
   | refine aw_ret ?_)
  | (with_reducible refine gd_ao ?_; first
   | refine ao_nil ?_
   | (refine ao1 rfl rfl fun K HK => ?_; (first | refine aOp_pick rfl ?_ | skip); simp only [go_sem, ↓reduceIte, Nat.reduceEqDiff, Nat.reduceAdd, Nat.reduceLeDiff, Nat.reduceBEq, Nat.reduceMul, Int.reduceEq, Int.reduceLT, Int.reduceLE, Bool.false_eq_true]; (first | refine splitB (fun hq => ?_) (fun hq => ?_) | skip) <;> (refine HK _ _ ?_; clear HK K))
   | refine ao0 rfl rfl ?_)
  | (with_reducible refine gd_th ?_; first
   | refine thenS_n ?_)
  | (exfalso; omega)
 all_goals first | (exfalso; omega) | refine ⟨.inr rfl, endD (r := .v _) hl0 rfl (by simp) (by simp) rfl (by rw [low]; trivial) ⟨rfl, congrArg (fun b => D.v (.bool b)) ?_⟩⟩
 all_goals (clear hl0; rw [Bool.eq_iff_iff]; simp; omega)
theorem nameValid_d (s : ByteArray) (hs : s.size ≤ 9223372036854775807) (h : List Ob) : Does Tryz.prog G 38 h [.v (.string s)] (fun h' r => h' = h ∧ r = .v (.bool (nameB s))) := by
 refine does_of_aw Tryz.func38 rfl (Nat.le_of_ble_eq_true rfl) hG fun hl0 _ => ?_
 simp only [Tryz.ntmps38]
 by_cases hsz : 1 ≤ s.size ∧ s.size ≤ 16
 rotate_left
 · have e1 := nameB_no (s := s) (fun h => hsz h.1)
   repeat' first
    | (with_reducible refine gd_aw ?_; first
     | refine aw_seq' ?_
     | refine aw_region' ?_
     | refine aw_if1 rfl ?_
     | refine aw_ret ?_)
    | (with_reducible refine gd_ao ?_; first
     | refine ao_nil ?_
     | (refine ao1 rfl rfl fun K HK => ?_; (first | refine aOp_pick rfl ?_ | skip); simp only [go_sem, ↓reduceIte, Nat.reduceEqDiff, Nat.reduceAdd, Nat.reduceLeDiff, Nat.reduceBEq, Nat.reduceMul, Int.reduceEq, Int.reduceLT, Int.reduceLE]; (first | refine splitB (fun hq => ?_) (fun hq => ?_) | skip) <;> (refine HK _ _ ?_; clear HK K))
     | refine ao0 rfl rfl ?_)
    | (with_reducible refine gd_th ?_; first
     | refine thenS_n ?_
     | refine thenS_r ?_)
    | (exfalso; omega)
   all_goals first | (exfalso; omega) | exact ⟨.inr rfl, endD (r := .v (.bool false)) hl0 rfl (by simp) (by simp) rfl (by rw [low]; trivial) ⟨rfl, by rw [e1]⟩⟩
 obtain ⟨b0, hb0⟩ : ∃ b, s.data[0]? = some b := ⟨s.data[0]'(by show 0 < s.size; omega), Array.getElem?_eq_getElem _⟩
 have g0 := get_first hb0
 by_cases hb : 97 ≤ b0.toNat ∧ b0.toNat ≤ 122
 rotate_left
 · have e1 := nameB_no (s := s) (fun h => hb (by rw [← g0]; exact h.2))
   repeat' first
    | (with_reducible refine gd_aw ?_; first
     | refine aw_seq' ?_
     | refine aw_region' ?_
     | refine aw_block ?_
     | refine aw_if1 rfl ?_
     | refine aw_if0 rfl ?_
     | refine aw_skip ?_
     | refine aw_ret ?_)
    | (with_reducible refine gd_ao ?_; first
     | (refine ao1 rfl rfl fun K HK => ?_; simp only [go_sem, ↓reduceIte, Nat.reduceEqDiff, Nat.reduceAdd, Nat.reduceLeDiff, Nat.reduceBEq, Nat.reduceMul, Int.reduceEq, Int.reduceLT, Int.reduceLE]; refine ind_byte (by simp only [go_sem]) hb0 (by first | rfl | omega) ?_; refine HK _ _ ?_; clear HK K)
     | refine ao_nil ?_
     | (refine ao1 rfl rfl fun K HK => ?_; (first | refine aOp_pick rfl ?_ | skip); simp only [go_sem, ↓reduceIte, Nat.reduceEqDiff, Nat.reduceAdd, Nat.reduceLeDiff, Nat.reduceBEq, Nat.reduceMul, Int.reduceEq, Int.reduceLT, Int.reduceLE]; (first | refine splitB (fun hq => ?_) (fun hq => ?_) | skip) <;> (refine HK _ _ ?_; clear HK K))
     | refine ao0 rfl rfl ?_)
    | (with_reducible refine gd_th ?_; first
     | refine thenS_n ?_
     | refine thenS_r ?_)
    | (exfalso; omega)
   all_goals first | (exfalso; omega) | exact ⟨.inr rfl, endD (r := .v (.bool false)) hl0 rfl (by simp) (by simp) rfl (by rw [low]; trivial) ⟨rfl, by rw [e1]⟩⟩
 have e1 := nameB_yes (s := s) ⟨hsz, by rw [g0]; exact hb⟩
 repeat' first
  | (with_reducible refine gd_aw ?_; first
   | refine aw_seq' ?_
   | refine aw_region' ?_
   | refine aw_block ?_
   | refine aw_if1 rfl ?_
   | refine aw_if0 rfl ?_
   | refine aw_skip ?_
   | refine aw_ret ?_)
  | (with_reducible refine gd_ao ?_; first
   | (refine ao1 rfl rfl fun K HK => ?_; simp only [go_sem, ↓reduceIte, Nat.reduceEqDiff, Nat.reduceAdd, Nat.reduceLeDiff, Nat.reduceBEq, Nat.reduceMul, Int.reduceEq, Int.reduceLT, Int.reduceLE]; refine ind_byte (by simp only [go_sem]) hb0 (by first | rfl | omega) ?_; refine HK _ _ ?_; clear HK K)
   | refine ao_nil ?_
   | (refine ao1 rfl rfl fun K HK => ?_; (first | refine aOp_pick rfl ?_ | skip); simp only [go_sem, ↓reduceIte, Nat.reduceEqDiff, Nat.reduceAdd, Nat.reduceLeDiff, Nat.reduceBEq, Nat.reduceMul, Int.reduceEq, Int.reduceLT, Int.reduceLE]; (first | refine splitB (fun hq => ?_) (fun hq => ?_) | skip) <;> (refine HK _ _ ?_; clear HK K))
   | refine ao0 rfl rfl ?_)
  | (with_reducible refine gd_th ?_; first
   | refine thenS_n ?_
   | refine thenS_r ?_)
  | (exfalso; omega)
 all_goals try (exfalso; omega)
 refine aw_for (fun m e h' => ∃ k : Nat, k ≤ s.size ∧ m = s.size - k ∧ nameB s = (s.data.toList.drop k).all (fun c => wordB c.toNat) ∧ h' = h ∧ e 0 = .v (.string s) ∧ e 23 = .v (.int .i64 s.size) ∧ e 24 = .v (.int .i64 k)) s.size ⟨0, Nat.zero_le _, rfl, e1, rfl, rfl, rfl, rfl⟩ ?_
 rintro m e h' ⟨k, hk, rfl, ho, rfl, e0, e23, e24⟩
 by_cases hlt : k < s.size
 · obtain ⟨c, hc⟩ : ∃ b, s.data[k]? = some b := ⟨s.data[k]'hlt, Array.getElem?_eq_getElem _⟩
   have wk : IntKind.i64.wrap ((k : Int) + 1) = (k : Int) + 1 := IntWalk.i64_in _ (by omega)
   rw [get_byte hc, List.all_cons] at ho
   have hw := wordByte_d G hG (c.toNat : Int)
   cases hwb : wordB c.toNat <;> rw [hwb] at hw ho
   · skip
     repeat' first
      | (with_reducible refine gd_aw ?_; first
       | refine aw_seq' ?_
       | refine aw_region' ?_
       | refine aw_block ?_
       | refine aw_if1 rfl ?_
       | refine aw_if0 rfl ?_
       | refine aw_skip ?_
       | refine aw_exit ?_
       | refine aw_ret ?_)
      | (with_reducible refine gd_ao ?_; first
       | (refine ao1 rfl rfl fun K HK => ?_; simp only [go_sem, ↓reduceIte, Nat.reduceEqDiff, Nat.reduceAdd, Nat.reduceLeDiff, Nat.reduceBEq, Nat.reduceMul, Int.reduceEq, Int.reduceLT, Int.reduceLE, e0, e23, e24, wk, Bool.false_eq_true]; refine ind_byte (by simp only [go_sem]) hc (by first | rfl | omega) ?_; refine HK _ _ ?_; clear HK K)
       | refine ao_nil ?_
       | (refine ao1 rfl rfl fun K HK => ?_; simp only [go_sem, ↓reduceIte, Nat.reduceEqDiff, Nat.reduceAdd, Nat.reduceLeDiff, Nat.reduceBEq, Nat.reduceMul, Int.reduceEq, Int.reduceLT, Int.reduceLE, e0, e23, e24, wk, Bool.false_eq_true]; (first | refine splitB (fun hq => ?_) (fun hq => ?_) | skip) <;> (refine HK _ _ ?_; clear HK K))
       | (refine ao2 rfl rfl rfl ent_76 (hw _) ?_; rintro _ _ ⟨rfl, rfl⟩))
      | (with_reducible refine gd_th ?_; first
       | refine thenS_n ?_
       | refine thenS_x ?_
       | refine thenS_r ?_)
      | (with_reducible refine gd_iB ?_; first
       | refine inB_r ?_
       | refine inB_x ?_)
      | (exfalso; omega)
     exact ⟨.inr rfl, endD (r := .v (.bool false)) hl0 rfl (by simp) (by simp) rfl (by rw [low]; trivial) ⟨rfl, by rw [ho]; rfl⟩⟩
   · skip
     repeat' first
      | (with_reducible refine gd_aw ?_; first
       | refine aw_seq' ?_
       | refine aw_region' ?_
       | refine aw_block ?_
       | refine aw_if1 rfl ?_
       | refine aw_if0 rfl ?_
       | refine aw_skip ?_
       | refine aw_exit ?_
       | refine aw_ret ?_)
      | (with_reducible refine gd_ao ?_; first
       | (refine ao1 rfl rfl fun K HK => ?_; simp only [go_sem, ↓reduceIte, Nat.reduceEqDiff, Nat.reduceAdd, Nat.reduceLeDiff, Nat.reduceBEq, Nat.reduceMul, Int.reduceEq, Int.reduceLT, Int.reduceLE, e0, e23, e24, wk, Bool.false_eq_true]; refine ind_byte (by simp only [go_sem]) hc (by first | rfl | omega) ?_; refine HK _ _ ?_; clear HK K)
       | refine ao_nil ?_
       | (refine ao1 rfl rfl fun K HK => ?_; simp only [go_sem, ↓reduceIte, Nat.reduceEqDiff, Nat.reduceAdd, Nat.reduceLeDiff, Nat.reduceBEq, Nat.reduceMul, Int.reduceEq, Int.reduceLT, Int.reduceLE, e0, e23, e24, wk, Bool.false_eq_true]; (first | refine splitB (fun hq => ?_) (fun hq => ?_) | skip) <;> (refine HK _ _ ?_; clear HK K))
       | (refine ao2 rfl rfl rfl ent_76 (hw _) ?_; rintro _ _ ⟨rfl, rfl⟩))
      | (with_reducible refine gd_th ?_; first
       | refine thenS_n ?_
       | refine thenS_x ?_)
      | (with_reducible refine gd_iB ?_; first
       | refine inB_n ?_
       | refine inB_x ?_)
      | (exfalso; omega)
     exact ⟨rfl, s.size - (k + 1), by omega, k + 1, hlt, rfl, by rw [ho]; rfl, rfl, e0, e23, rfl⟩
 · skip
   repeat' first
    | (with_reducible refine gd_aw ?_; first
     | refine aw_seq' ?_
     | refine aw_region' ?_
     | refine aw_block ?_
     | refine aw_if1 rfl ?_
     | refine aw_if0 rfl ?_
     | refine aw_skip ?_
     | refine aw_exit ?_
     | refine aw_ret ?_)
    | (with_reducible refine gd_ao ?_; first
     | refine ao_nil ?_
     | (refine ao1 rfl rfl fun K HK => ?_; simp only [go_sem, ↓reduceIte, Nat.reduceEqDiff, Nat.reduceAdd, Nat.reduceLeDiff, Nat.reduceBEq, Nat.reduceMul, Int.reduceEq, Int.reduceLT, Int.reduceLE, e0, e23, e24]; (first | refine splitB (fun hq => ?_) (fun hq => ?_) | skip) <;> (refine HK _ _ ?_; clear HK K)))
    | (with_reducible refine gd_th ?_; first
     | refine thenS_n ?_
     | refine thenS_x ?_)
    | (with_reducible refine gd_iB ?_; first
     | refine inB_x ?_)
    | (exfalso; omega)
   exact ⟨.inr rfl, endD (r := .v (.bool true)) hl0 rfl (by simp) (by simp) rfl (by rw [low]; trivial) ⟨rfl, by rw [ho, List.drop_eq_nil_of_le (by show s.data.toList.length ≤ k; rw [Array.length_toList]; show s.size ≤ k; omega)]; rfl⟩⟩
theorem idxS_d (l : List ByteArray) (a : ByteArray) (hl : l.length ≤ 9223372036854775807) (h : List Ob) : Does Tryz.prog G 150 h [.sl 1 (l.map strX), .v (.string a)] (fun h' r => h' = h ∧ r = .v (.int .i64 (idxS a l 0))) := by
 refine does_of_aw Tryz.func150 rfl (Nat.le_of_ble_eq_true rfl) hG fun hl0 _ => ?_
 simp only [Tryz.ntmps150]
 repeat' first
  | (with_reducible refine gd_aw ?_; first
   | refine aw_seq' ?_
   | refine aw_region' ?_
   | refine aw_block ?_)
  | (with_reducible refine gd_ao ?_; first
   | refine ao_nil ?_
   | (refine ao1 rfl rfl fun K HK => ?_; simp only [go_sem, ↓reduceIte, Nat.reduceEqDiff, Nat.reduceAdd, Nat.reduceLeDiff, Nat.reduceBEq, Nat.reduceMul, Int.reduceEq, Int.reduceLT, Int.reduceLE, List.length_map] <;> (refine HK _ _ ?_; clear HK K)))
  | (with_reducible refine gd_th ?_; first
   | refine thenS_n ?_)
 refine aw_for (fun m e h' => ∃ k : Nat, k ≤ l.length ∧ m = l.length - k ∧ idxS a l 0 = idxS a (l.drop k) k ∧ h' = h ∧ e 0 = .sl 1 (l.map strX) ∧ e 1 = .v (.string a) ∧ e 7 = .v (.int .i64 l.length) ∧ e 8 = .v (.int .i64 k)) l.length ⟨0, Nat.zero_le _, rfl, rfl, rfl, rfl, rfl, rfl, rfl⟩ ?_
 rintro m e h' ⟨k, hk, rfl, ho, rfl, e0, e1, e7, e8⟩
 by_cases hlt : k < l.length
 · have hx : l[k]? = some l[k] := List.getElem?_eq_getElem hlt
   have hd : l.drop k = l[k] :: l.drop (k + 1) := List.drop_eq_getElem_cons hlt
   generalize l[k] = x at hx hd
   have wk : IntKind.i64.wrap ((k : Int) + 1) = (k : Int) + 1 := IntWalk.i64_in _ (by omega)
   rw [hd, idxS] at ho
   repeat' first
    | (with_reducible refine gd_aw ?_; first
     | refine aw_seq' ?_
     | refine aw_region' ?_
     | refine aw_block ?_
     | refine aw_if1 rfl ?_
     | refine aw_if0 rfl ?_
     | refine aw_skip ?_
     | refine aw_exit ?_
     | refine aw_ret ?_)
    | (with_reducible refine gd_ao ?_; first
     | refine ao_nil ?_
     | (refine ao1 rfl rfl fun K HK => ?_; simp only [go_sem, ↓reduceIte, Nat.reduceEqDiff, Nat.reduceAdd, Nat.reduceLeDiff, Nat.reduceBEq, Nat.reduceMul, Int.reduceEq, Int.reduceLT, Int.reduceLE, e0, e1, e7, e8, List.length_map, strX_eq, Int.toNat_natCast, wk]; (first | refine splitB (fun hq => ?_) (fun hq => ?_) | (refine ⟨by omega, by omega, ?_⟩; refine row_at (by assumption) ?_) | skip) <;> (refine HK _ _ ?_; clear HK K)))
    | (with_reducible refine gd_th ?_; first
     | refine thenS_n ?_
     | refine thenS_x ?_
     | refine thenS_r ?_)
    | (with_reducible refine gd_iB ?_; first
     | refine inB_n ?_
     | refine inB_r ?_
     | refine inB_x ?_)
    | (exfalso; omega)
   · exact ⟨.inr rfl, endD (r := .v _) hl0 rfl (by simp) (by simp) rfl (by rw [low]; trivial) ⟨rfl, by rw [ho, if_pos hq]⟩⟩
   · exact ⟨rfl, l.length - (k + 1), by omega, k + 1, hlt, rfl, by rw [ho, if_neg hq], rfl, e0, e1, e7, rfl⟩
 · skip
   repeat' first
    | (with_reducible refine gd_aw ?_; first
     | refine aw_seq' ?_
     | refine aw_region' ?_
     | refine aw_block ?_
     | refine aw_if1 rfl ?_
     | refine aw_if0 rfl ?_
     | refine aw_skip ?_
     | refine aw_exit ?_
     | refine aw_ret ?_)
    | (with_reducible refine gd_ao ?_; first
     | refine ao_nil ?_
     | (refine ao1 rfl rfl fun K HK => ?_; simp only [go_sem, ↓reduceIte, Nat.reduceEqDiff, Nat.reduceAdd, Nat.reduceLeDiff, Nat.reduceBEq, Nat.reduceMul, Int.reduceEq, Int.reduceLT, Int.reduceLE, e0, e1, e7, e8]; (first | refine splitB (fun hq => ?_) (fun hq => ?_) | (refine ⟨by omega, by omega, ?_⟩; intro row hrow; obtain ⟨x, hx, rfl⟩ := row_inv hrow; clear hrow) | skip) <;> (refine HK _ _ ?_; clear HK K)))
    | (with_reducible refine gd_th ?_; first
     | refine thenS_n ?_
     | refine thenS_x ?_)
    | (with_reducible refine gd_iB ?_; first
     | refine inB_x ?_)
    | (exfalso; omega)
   exact ⟨by simp, endD (r := .v _) hl0 rfl (by simp) (by simp) rfl (by rw [low]; trivial) ⟨rfl, by rw [ho, List.drop_eq_nil_of_le (by omega)]; rfl⟩⟩
theorem contS_d (l : List ByteArray) (a : ByteArray) (hl : l.length ≤ 9223372036854775807) (h : List Ob) : Does Tryz.prog G 125 h [.sl 1 (l.map strX), .v (.string a)] (fun h' r => h' = h ∧ r = .v (.bool (hasS l a))) := by
 rw [← idxS_ge a l 0]
 have hi := idxS_d G hG l a hl
 generalize idxS a l 0 = i at *
 refine does_of_aw Tryz.func125 rfl (Nat.le_of_ble_eq_true rfl) hG fun hl0 _ => ?_
 simp only [Tryz.ntmps125]
 repeat' first
  | (with_reducible refine gd_aw ?_; first
   | refine aw_seq' ?_
   | refine aw_region' ?_
   | refine aw_ret ?_)
  | (with_reducible refine gd_ao ?_; first
   | refine ao_nil ?_
   | (refine ao1 rfl rfl fun K HK => ?_; simp only [go_sem, ↓reduceIte, Nat.reduceEqDiff, Nat.reduceAdd, Nat.reduceLeDiff, Nat.reduceBEq, Nat.reduceMul, Int.reduceEq, Int.reduceLT, Int.reduceLE]; (first | refine splitB (fun hq => ?_) (fun hq => ?_) | skip) <;> (refine HK _ _ ?_; clear HK K))
   | (refine ao2 rfl rfl rfl ent_150 (hi _) ?_; rintro _ _ ⟨rfl, rfl⟩))
  | (with_reducible refine gd_th ?_; first
   | refine thenS_n ?_)
 all_goals exact ⟨.inr rfl, endD (r := .v _) hl0 rfl (by simp) (by simp) rfl (by rw [low]; trivial) ⟨rfl, by first | rw [decide_eq_true hq] | rw [decide_eq_false hq]⟩⟩
theorem hasS_d (l : List ByteArray) (a : ByteArray) (hl : l.length ≤ 9223372036854775807) (h : List Ob) : Does Tryz.prog G 128 h [.sl 1 (l.map strX), .v (.string a)] (fun h' r => h' = h ∧ r = .v (.bool (hasS l a))) := by
 refine does_of_aw Tryz.func128 rfl (Nat.le_of_ble_eq_true rfl) hG fun hl0 _ => ?_
 simp only [Tryz.ntmps128]
 repeat' first
  | (with_reducible refine gd_aw ?_; first
   | refine aw_seq' ?_
   | refine aw_region' ?_
   | refine aw_ret ?_)
  | (with_reducible refine gd_ao ?_; first
   | refine ao_nil ?_
   | (refine ao1 rfl rfl fun K HK => ?_; simp only [go_sem, ↓reduceIte, Nat.reduceEqDiff, Nat.reduceAdd, Nat.reduceLeDiff, Nat.reduceBEq, Nat.reduceMul, Int.reduceEq, Int.reduceLT, Int.reduceLE] <;> (refine HK _ _ ?_; clear HK K))
   | (refine ao2 rfl rfl rfl ent_125 (contS_d G hG l a hl _) ?_; rintro _ _ ⟨rfl, rfl⟩))
  | (with_reducible refine gd_th ?_; first
   | refine thenS_n ?_)
 exact ⟨.inr rfl, endD (r := .v _) hl0 rfl (by simp) (by simp) rfl (by rw [low]; trivial) ⟨rfl, rfl⟩⟩
theorem sortedS_d (l : List ByteArray) (hl : l.length ≤ 9223372036854775807) (h : List Ob) : Does Tryz.prog G 126 h [.sl 1 (l.map strX)] (fun h' r => h' = h ∧ r = .v (.bool (sortedB l))) := by
 by_cases hsh : l.length ≤ 1
 · rw [sorted_short l hsh]
   refine does_of_aw Tryz.func126 rfl (Nat.le_of_ble_eq_true rfl) hG fun hl0 _ => ?_
   simp only [Tryz.ntmps126]
   repeat' first
    | (with_reducible refine gd_aw ?_; first
     | refine aw_seq' ?_
     | refine aw_region' ?_
     | refine aw_block ?_)
    | (with_reducible refine gd_ao ?_; first
     | refine ao_nil ?_
     | (refine ao1 rfl rfl fun K HK => ?_; simp only [go_sem, ↓reduceIte, Nat.reduceEqDiff, Nat.reduceAdd, Nat.reduceLeDiff, Nat.reduceBEq, Nat.reduceMul, Int.reduceEq, Int.reduceLT, Int.reduceLE] <;> (refine HK _ _ ?_; clear HK K)))
    | (with_reducible refine gd_th ?_; first
     | refine thenS_n ?_)
   refine aw_for (fun m e h' => h' = h ∧ e 0 = .sl 1 (l.map strX) ∧ e 3 = .v (.int .i64 1)) l.length ⟨rfl, rfl, rfl⟩ ?_
   rintro m e h' ⟨rfl, e0, e3⟩
   repeat' first
    | (with_reducible refine gd_aw ?_; first
     | refine aw_seq' ?_
     | refine aw_region' ?_
     | refine aw_block ?_
     | refine aw_if1 rfl ?_
     | refine aw_if0 rfl ?_
     | refine aw_skip ?_
     | refine aw_exit ?_
     | refine aw_ret ?_
     | refine aw_draw mixd (by kernel_rfl) ?_)
    | (with_reducible refine gd_ao ?_; first
     | refine ao_nil ?_
     | (refine ao1 rfl rfl fun K HK => ?_; simp only [go_sem, ↓reduceIte, Nat.reduceEqDiff, Nat.reduceAdd, Nat.reduceLeDiff, Nat.reduceBEq, Nat.reduceMul, Int.reduceEq, Int.reduceLT, Int.reduceLE, e0, e3, List.length_map]; (first | refine splitB (fun hq => ?_) (fun hq => ?_) | (refine ⟨by omega, by omega, ?_⟩; intro row hrow; obtain ⟨x, hx, rfl⟩ := row_inv hrow; clear hrow) | skip) <;> (refine HK _ _ ?_; clear HK K)))
    | (with_reducible refine gd_aq ?_; first
     | (refine aq1 rfl rfl fun K HK => ?_; simp only [go_sem, ↓reduceIte, Nat.reduceEqDiff, Nat.reduceAdd, Nat.reduceLeDiff, Nat.reduceBEq, Nat.reduceMul, Int.reduceEq, Int.reduceLT, Int.reduceLE, e0, e3, List.length_map]; (first | refine splitB (fun hq => ?_) (fun hq => ?_) | (refine ⟨by omega, by omega, ?_⟩; intro row hrow; obtain ⟨x, hx, rfl⟩ := row_inv hrow; clear hrow) | skip) <;> (refine HK _ _ rfl ?_; clear HK K)))
    | (with_reducible refine gd_th ?_; first
     | refine thenS_n ?_
     | refine thenS_x ?_)
    | (with_reducible refine gd_iB ?_; first
     | refine inB_x ?_)
    | (exfalso; omega)
   all_goals first | (exfalso; omega) | exact ⟨.inr rfl, endD (r := .v _) hl0 rfl (by simp) (by simp) rfl (by rw [low]; trivial) ⟨rfl, rfl⟩⟩
 obtain ⟨x0, t, rfl⟩ : ∃ x t, l = x :: t := by
  cases l with
  | nil => simp at hsh
  | cons x t => exact ⟨x, t, rfl⟩
 generalize hll : x0 :: t = l at *
 have h0 : sortedB l = sortedFrom (l[0]'(by omega)) (l.drop 1) := by subst hll; rfl
 refine does_of_aw Tryz.func126 rfl (Nat.le_of_ble_eq_true rfl) hG fun hl0 _ => ?_
 simp only [Tryz.ntmps126]
 repeat' first
  | (with_reducible refine gd_aw ?_; first
   | refine aw_seq' ?_
   | refine aw_region' ?_
   | refine aw_block ?_)
  | (with_reducible refine gd_ao ?_; first
   | refine ao_nil ?_
   | (refine ao1 rfl rfl fun K HK => ?_; simp only [go_sem, ↓reduceIte, Nat.reduceEqDiff, Nat.reduceAdd, Nat.reduceLeDiff, Nat.reduceBEq, Nat.reduceMul, Int.reduceEq, Int.reduceLT, Int.reduceLE] <;> (refine HK _ _ ?_; clear HK K)))
  | (with_reducible refine gd_th ?_; first
   | refine thenS_n ?_)
 refine aw_for (fun m e h' => ∃ (k : Nat) (hk : k < l.length), m = l.length - k ∧ sortedB l = sortedFrom l[k] (l.drop (k + 1)) ∧ h' = h ∧ e 0 = .sl 1 (l.map strX) ∧ e 3 = .v (.int .i64 ((k : Int) + 1))) l.length ⟨0, by omega, rfl, h0, rfl, rfl, rfl⟩ ?_
 rintro m e h' ⟨k, hk, rfl, ho, rfl, e0, e3⟩
 by_cases hlt : k + 1 < l.length
 · have hx : l[k]? = some l[k] := List.getElem?_eq_getElem (by omega)
   have hy : l[k + 1]? = some l[k + 1] := List.getElem?_eq_getElem hlt
   rw [sorted_step l k hlt] at ho
   have wk : IntKind.i64.wrap ((k : Int) + 1 + 1) = (k : Int) + 1 + 1 := IntWalk.i64_in _ (by omega)
   have wm : IntKind.i64.wrap ((k : Int) + 1 - 1) = (k : Int) := by rw [show (k : Int) + 1 - 1 = (k : Int) by omega]; exact IntWalk.i64_in _ (by omega)
   have tk : ((k : Int) + 1).toNat = k + 1 := by omega
   unfold strLt at ho
   cases hlt2 : Op.bytesLess l[k].toList l[k + 1].toList
   · generalize l[k] = x at *
     generalize l[k + 1] = y at *
     repeat' first
      | (with_reducible refine gd_aw ?_; first
       | refine aw_seq' ?_
       | refine aw_region' ?_
       | refine aw_block ?_
       | refine aw_if1 rfl ?_
       | refine aw_if0 rfl ?_
       | refine aw_skip ?_
       | refine aw_exit ?_
       | refine aw_ret ?_
       | refine aw_draw mixd (by kernel_rfl) ?_)
      | (with_reducible refine gd_ao ?_; first
       | refine ao_nil ?_
       | (refine ao1 rfl rfl fun K HK => ?_; simp only [go_sem, ↓reduceIte, Nat.reduceEqDiff, Nat.reduceAdd, Nat.reduceLeDiff, Nat.reduceBEq, Nat.reduceMul, Int.reduceEq, Int.reduceLT, Int.reduceLE, e0, e3, List.length_map, strX_eq, Int.toNat_natCast, wk, wm, tk, hlt2, Bool.false_eq_true]; (first | refine splitB (fun hq => ?_) (fun hq => ?_) | (refine ⟨by omega, by omega, ?_⟩; refine row_at (by assumption) ?_) | skip) <;> (refine HK _ _ ?_; clear HK K)))
      | (with_reducible refine gd_aq ?_; first
       | (refine aq1 rfl rfl fun K HK => ?_; simp only [go_sem, ↓reduceIte, Nat.reduceEqDiff, Nat.reduceAdd, Nat.reduceLeDiff, Nat.reduceBEq, Nat.reduceMul, Int.reduceEq, Int.reduceLT, Int.reduceLE, e0, e3, List.length_map, strX_eq, Int.toNat_natCast, wk, wm, tk, hlt2, Bool.false_eq_true]; (first | refine splitB (fun hq => ?_) (fun hq => ?_) | (refine ⟨by omega, by omega, ?_⟩; refine row_at (by assumption) ?_) | skip) <;> (refine HK _ _ rfl ?_; clear HK K))
       | refine aq_nil ?_)
      | (with_reducible refine gd_th ?_; first
       | refine thenS_n ?_
       | refine thenS_x ?_
       | refine thenS_r ?_)
      | (with_reducible refine gd_iB ?_; first
       | refine inB_r ?_
       | refine inB_x ?_)
      | (exfalso; omega)
     exact ⟨by simp, endD (r := .v _) hl0 rfl (by simp) (by simp) rfl (by rw [low]; trivial) ⟨rfl, by rw [ho, hlt2]; rfl⟩⟩
   · rw [hlt2, Bool.true_and] at ho
     generalize l[k] = x at *
     have hy' := hy
     generalize hyl : l[k + 1] = y at hy hlt2
     repeat' first
      | (with_reducible refine gd_aw ?_; first
       | refine aw_seq' ?_
       | refine aw_region' ?_
       | refine aw_block ?_
       | refine aw_if1 rfl ?_
       | refine aw_if0 rfl ?_
       | refine aw_skip ?_
       | refine aw_exit ?_
       | refine aw_ret ?_
       | refine aw_draw mixd (by kernel_rfl) ?_)
      | (with_reducible refine gd_ao ?_; first
       | refine ao_nil ?_
       | (refine ao1 rfl rfl fun K HK => ?_; simp only [go_sem, ↓reduceIte, Nat.reduceEqDiff, Nat.reduceAdd, Nat.reduceLeDiff, Nat.reduceBEq, Nat.reduceMul, Int.reduceEq, Int.reduceLT, Int.reduceLE, e0, e3, List.length_map, strX_eq, Int.toNat_natCast, wk, wm, tk, hlt2, Bool.false_eq_true]; (first | refine splitB (fun hq => ?_) (fun hq => ?_) | (refine ⟨by omega, by omega, ?_⟩; refine row_at (by assumption) ?_) | skip) <;> (refine HK _ _ ?_; clear HK K)))
      | (with_reducible refine gd_aq ?_; first
       | (refine aq1 rfl rfl fun K HK => ?_; simp only [go_sem, ↓reduceIte, Nat.reduceEqDiff, Nat.reduceAdd, Nat.reduceLeDiff, Nat.reduceBEq, Nat.reduceMul, Int.reduceEq, Int.reduceLT, Int.reduceLE, e0, e3, List.length_map, strX_eq, Int.toNat_natCast, wk, wm, tk, hlt2, Bool.false_eq_true]; (first | refine splitB (fun hq => ?_) (fun hq => ?_) | (refine ⟨by omega, by omega, ?_⟩; refine row_at (by assumption) ?_) | skip) <;> (refine HK _ _ rfl ?_; clear HK K))
       | refine aq_nil ?_)
      | (with_reducible refine gd_th ?_; first
       | refine thenS_n ?_
       | refine thenS_x ?_)
      | (with_reducible refine gd_iB ?_; first
       | refine inB_n ?_
       | refine inB_x ?_)
      | (exfalso; omega)
     exact ⟨rfl, l.length - (k + 1), by omega, k + 1, hlt, rfl, ho, rfl, e0, rfl⟩
 · skip
   repeat' first
    | (with_reducible refine gd_aw ?_; first
     | refine aw_seq' ?_
     | refine aw_region' ?_
     | refine aw_block ?_
     | refine aw_if1 rfl ?_
     | refine aw_if0 rfl ?_
     | refine aw_skip ?_
     | refine aw_exit ?_
     | refine aw_ret ?_
     | refine aw_draw mixd (by kernel_rfl) ?_)
    | (with_reducible refine gd_ao ?_; first
     | refine ao_nil ?_
     | (refine ao1 rfl rfl fun K HK => ?_; simp only [go_sem, ↓reduceIte, Nat.reduceEqDiff, Nat.reduceAdd, Nat.reduceLeDiff, Nat.reduceBEq, Nat.reduceMul, Int.reduceEq, Int.reduceLT, Int.reduceLE, e0, e3, List.length_map]; (first | refine splitB (fun hq => ?_) (fun hq => ?_) | (refine ⟨by omega, by omega, ?_⟩; intro row hrow; obtain ⟨x, hx, rfl⟩ := row_inv hrow; clear hrow) | skip) <;> (refine HK _ _ ?_; clear HK K)))
    | (with_reducible refine gd_aq ?_; first
     | (refine aq1 rfl rfl fun K HK => ?_; simp only [go_sem, ↓reduceIte, Nat.reduceEqDiff, Nat.reduceAdd, Nat.reduceLeDiff, Nat.reduceBEq, Nat.reduceMul, Int.reduceEq, Int.reduceLT, Int.reduceLE, e0, e3, List.length_map]; (first | refine splitB (fun hq => ?_) (fun hq => ?_) | (refine ⟨by omega, by omega, ?_⟩; intro row hrow; obtain ⟨x, hx, rfl⟩ := row_inv hrow; clear hrow) | skip) <;> (refine HK _ _ rfl ?_; clear HK K)))
    | (with_reducible refine gd_th ?_; first
     | refine thenS_n ?_
     | refine thenS_x ?_)
    | (with_reducible refine gd_iB ?_; first
     | refine inB_x ?_)
    | (exfalso; omega)
   exact ⟨by simp, endD (r := .v _) hl0 rfl (by simp) (by simp) rfl (by rw [low]; trivial) ⟨rfl, by rw [ho, List.drop_eq_nil_of_le (by omega)]; rfl⟩⟩
theorem subsetS_d (a b : List ByteArray) (ha : a.length ≤ 9223372036854775807) (hb : b.length ≤ 9223372036854775807) (h : List Ob) : Does Tryz.prog G 127 h [.sl 1 (a.map strX), .sl 1 (b.map strX)] (fun h' r => h' = h ∧ r = .v (.bool (subsetS a b))) := by
 refine does_of_aw Tryz.func127 rfl (Nat.le_of_ble_eq_true rfl) hG fun hl0 _ => ?_
 simp only [Tryz.ntmps127]
 repeat' first
  | (with_reducible refine gd_aw ?_; first
   | refine aw_seq' ?_
   | refine aw_region' ?_
   | refine aw_block ?_)
  | (with_reducible refine gd_ao ?_; first
   | refine ao_nil ?_
   | (refine ao1 rfl rfl fun K HK => ?_; simp only [go_sem, ↓reduceIte, Nat.reduceEqDiff, Nat.reduceAdd, Nat.reduceLeDiff, Nat.reduceBEq, Nat.reduceMul, Int.reduceEq, Int.reduceLT, Int.reduceLE, List.length_map] <;> (refine HK _ _ ?_; clear HK K)))
  | (with_reducible refine gd_th ?_; first
   | refine thenS_n ?_)
 refine aw_for (fun m e h' => ∃ k : Nat, k ≤ a.length ∧ m = a.length - k ∧ subsetS a b = subsetS (a.drop k) b ∧ h' = h ∧ e 1 = .sl 1 (b.map strX) ∧ e 7 = .sl 1 (a.map strX) ∧ e 8 = .v (.int .i64 a.length) ∧ e 9 = .v (.int .i64 k)) a.length ⟨0, Nat.zero_le _, rfl, rfl, rfl, rfl, rfl, rfl, rfl⟩ ?_
 rintro m e h' ⟨k, hk, rfl, ho, rfl, e1, e7, e8, e9⟩
 by_cases hlt : k < a.length
 · have hx : a[k]? = some a[k] := List.getElem?_eq_getElem hlt
   have hd : a.drop k = a[k] :: a.drop (k + 1) := List.drop_eq_getElem_cons hlt
   generalize a[k] = x at hx hd
   have wk : IntKind.i64.wrap ((k : Int) + 1) = (k : Int) + 1 := IntWalk.i64_in _ (by omega)
   have hh := hasS_d G hG b x hb
   have ho : subsetS a b = (hasS b x && subsetS (a.drop (k + 1)) b) := by rw [ho, hd]; rfl
   cases hxb : hasS b x <;> rw [hxb] at hh ho
   · skip
     repeat' first
      | (with_reducible refine gd_aw ?_; first
       | refine aw_seq' ?_
       | refine aw_region' ?_
       | refine aw_block ?_
       | refine aw_if1 rfl ?_
       | refine aw_if0 rfl ?_
       | refine aw_skip ?_
       | refine aw_exit ?_
       | refine aw_ret ?_)
      | (with_reducible refine gd_ao ?_; first
       | refine ao_nil ?_
       | (refine ao1 rfl rfl fun K HK => ?_; simp only [go_sem, ↓reduceIte, Nat.reduceEqDiff, Nat.reduceAdd, Nat.reduceLeDiff, Nat.reduceBEq, Nat.reduceMul, Int.reduceEq, Int.reduceLT, Int.reduceLE, e1, e7, e8, e9, List.length_map, strX_eq, Int.toNat_natCast, wk, Bool.false_eq_true]; (first | refine splitB (fun hq => ?_) (fun hq => ?_) | (refine ⟨by omega, by omega, ?_⟩; refine row_at (by assumption) ?_) | skip) <;> (refine HK _ _ ?_; clear HK K))
       | (refine ao2 rfl rfl rfl ent_128 (hh _) ?_; rintro _ _ ⟨rfl, rfl⟩))
      | (with_reducible refine gd_th ?_; first
       | refine thenS_n ?_
       | refine thenS_x ?_
       | refine thenS_r ?_)
      | (with_reducible refine gd_iB ?_; first
       | refine inB_r ?_
       | refine inB_x ?_)
      | (exfalso; omega)
     exact ⟨.inr rfl, endD (r := .v _) hl0 rfl (by simp) (by simp) rfl (by rw [low]; trivial) ⟨rfl, by rw [ho]; rfl⟩⟩
   · skip
     repeat' first
      | (with_reducible refine gd_aw ?_; first
       | refine aw_seq' ?_
       | refine aw_region' ?_
       | refine aw_block ?_
       | refine aw_if1 rfl ?_
       | refine aw_if0 rfl ?_
       | refine aw_skip ?_
       | refine aw_exit ?_
       | refine aw_ret ?_)
      | (with_reducible refine gd_ao ?_; first
       | refine ao_nil ?_
       | (refine ao1 rfl rfl fun K HK => ?_; simp only [go_sem, ↓reduceIte, Nat.reduceEqDiff, Nat.reduceAdd, Nat.reduceLeDiff, Nat.reduceBEq, Nat.reduceMul, Int.reduceEq, Int.reduceLT, Int.reduceLE, e1, e7, e8, e9, List.length_map, strX_eq, Int.toNat_natCast, wk, Bool.false_eq_true]; (first | refine splitB (fun hq => ?_) (fun hq => ?_) | (refine ⟨by omega, by omega, ?_⟩; refine row_at (by assumption) ?_) | skip) <;> (refine HK _ _ ?_; clear HK K))
       | (refine ao2 rfl rfl rfl ent_128 (hh _) ?_; rintro _ _ ⟨rfl, rfl⟩))
      | (with_reducible refine gd_th ?_; first
       | refine thenS_n ?_
       | refine thenS_x ?_)
      | (with_reducible refine gd_iB ?_; first
       | refine inB_n ?_
       | refine inB_x ?_)
      | (exfalso; omega)
     exact ⟨rfl, a.length - (k + 1), by omega, k + 1, hlt, rfl, by rw [ho]; rfl, rfl, e1, e7, e8, rfl⟩
 · skip
   repeat' first
    | (with_reducible refine gd_aw ?_; first
     | refine aw_seq' ?_
     | refine aw_region' ?_
     | refine aw_block ?_
     | refine aw_if1 rfl ?_
     | refine aw_if0 rfl ?_
     | refine aw_skip ?_
     | refine aw_exit ?_
     | refine aw_ret ?_)
    | (with_reducible refine gd_ao ?_; first
     | refine ao_nil ?_
     | (refine ao1 rfl rfl fun K HK => ?_; simp only [go_sem, ↓reduceIte, Nat.reduceEqDiff, Nat.reduceAdd, Nat.reduceLeDiff, Nat.reduceBEq, Nat.reduceMul, Int.reduceEq, Int.reduceLT, Int.reduceLE, e1, e7, e8, e9]; (first | refine splitB (fun hq => ?_) (fun hq => ?_) | (refine ⟨by omega, by omega, ?_⟩; intro row hrow; obtain ⟨x, hx, rfl⟩ := row_inv hrow; clear hrow) | skip) <;> (refine HK _ _ ?_; clear HK K)))
    | (with_reducible refine gd_th ?_; first
     | refine thenS_n ?_
     | refine thenS_x ?_)
    | (with_reducible refine gd_iB ?_; first
     | refine inB_x ?_)
    | (exfalso; omega)
   exact ⟨by simp, endD (r := .v _) hl0 rfl (by simp) (by simp) rfl (by rw [low]; trivial) ⟨rfl, by rw [ho, List.drop_eq_nil_of_le (by omega)]; rfl⟩⟩
end
section
set_option maxRecDepth 100000
set_option maxHeartbeats 8000000
attribute [local irreducible] on aOp
attribute [local go_sem] decide_true decide_false Bool.not_true Bool.not_false
attribute [local simp] byD_len
variable (G : Nat → D) (hG : ∀ g, low 0 (G g))
include hG
theorem when_d (b : Bool) (e : Int) (h : List Ob) : Does Tryz.prog G 124 h [.v (.bool b), .v (.int .i64 e)] (fun h' r => h' = h ∧ r = .v (.int .i64 (whenI b e))) := by
 refine does_of_aw Tryz.func124 rfl (Nat.le_of_ble_eq_true rfl) hG fun hl0 _ => ?_
 simp only [Tryz.ntmps124]
 cases b
 all_goals
  skip
  repeat' first
   | (with_reducible refine gd_aw ?_; first
    | refine aw_seq' ?_
    | refine aw_region' ?_
    | refine aw_if1 rfl ?_
    | refine aw_if0 rfl ?_
    | refine aw_skip ?_
    | refine aw_ret ?_)
   | (with_reducible refine gd_ao ?_; first
    | refine ao_nil ?_
    | (refine ao1 rfl rfl fun K HK => ?_; simp only [go_sem, ↓reduceIte, Nat.reduceEqDiff, Nat.reduceAdd, Nat.reduceLeDiff, Nat.reduceBEq, Nat.reduceMul, Int.reduceEq, Int.reduceLT, Int.reduceLE, Bool.false_eq_true] <;> (refine HK _ _ ?_; clear HK K)))
   | (with_reducible refine gd_th ?_; first
    | refine thenS_n ?_
    | refine thenS_r ?_)
  exact ⟨.inr rfl, endD (r := .v _) hl0 rfl (by simp) (by simp) rfl (by rw [low]; trivial) ⟨rfl, rfl⟩⟩
theorem chain_d (n : Nat) : ∀ (l : Lat), SizeOf.sizeOf l ≤ n → Sm l → ∀ (h : List Ob), Does Tryz.prog G 129 h [.agg (latX l)] (fun h' r => h' = h ∧ r = .v (.bool (chainB l))) := by
 induction n with
 | zero => intro l hn; cases l; simp at hn
 | succ n ih =>
 intro l hn hsm h
 refine does_any G hG (low_latL _ l) (by rw [low]; trivial) ?_ h
 clear h
 have hpl := hsm.parts
 have hpp : ∀ p ∈ l.parts, ∀ (b : Bool), chainB p = b → ∀ (h : List Ob), Does Tryz.prog G 129 h [.agg (latX p)] (fun h' r => h' = h ∧ r = .v (.bool b)) := fun p hp b hb h => hb ▸ ih p (by have := sizeOf_part hp; omega) (hsm.part p hp) h
 generalize hkk : l.kind = k
 by_cases h123 : k = 1 ∨ k = 2 ∨ k = 3
 · have e1 : chainB l = true := by rw [chainB_eq, hkk, decide_eq_true h123]; rfl
   rw [e1]
   refine does_of_aw Tryz.func129 rfl (Nat.le_of_ble_eq_true rfl) hG fun hl0 _ => ?_
   simp only [Tryz.ntmps129]
   repeat' first
    | (with_reducible refine gd_aw ?_; first
     | refine aw_seq' ?_
     | refine aw_region' ?_
     | refine aw_block ?_
     | refine aw_if1 rfl ?_
     | refine aw_if0 rfl ?_
     | refine aw_skip ?_
     | refine aw_ret ?_)
    | (with_reducible refine gd_ao ?_; first
     | refine ao_nil ?_
     | (refine ao1 rfl rfl fun K HK => ?_; (first | refine aOp_pick rfl ?_ | skip); simp only [go_sem, ↓reduceIte, Nat.reduceEqDiff, Nat.reduceAdd, Nat.reduceLeDiff, Nat.reduceBEq, Nat.reduceMul, Int.reduceEq, Int.reduceLT, Int.reduceLE, latX_eq, hkk]; (first | refine splitB (fun hq => ?_) (fun hq => ?_) | skip) <;> (refine HK _ _ ?_; clear HK K))
     | refine ao0 rfl rfl ?_)
    | (with_reducible refine gd_th ?_; first
     | refine thenS_n ?_
     | refine thenS_r ?_)
    | (with_reducible refine gd_iB ?_; first
     | refine inB_n ?_
     | refine inB_r ?_)
    | (exfalso; omega)
   all_goals first | (exfalso; omega) | exact ⟨.inr rfl, endD (r := .v (.bool true)) hl0 rfl (by simp) (by simp) rfl (by rw [low]; trivial) ⟨rfl, rfl⟩⟩
 by_cases h7 : k = 7 ∧ l.parts.length = 2
 rotate_left
 · have e1 : chainB l = false := chain_no (by rw [hkk]; exact h123) (by rw [hkk]; omega)
   rw [e1]
   refine does_of_aw Tryz.func129 rfl (Nat.le_of_ble_eq_true rfl) hG fun hl0 _ => ?_
   simp only [Tryz.ntmps129]
   repeat' first
    | (with_reducible refine gd_aw ?_; first
     | refine aw_seq' ?_
     | refine aw_region' ?_
     | refine aw_block ?_
     | refine aw_if1 rfl ?_
     | refine aw_if0 rfl ?_
     | refine aw_skip ?_
     | refine aw_ret ?_)
    | (with_reducible refine gd_ao ?_; first
     | refine ao_nil ?_
     | (refine ao1 rfl rfl fun K HK => ?_; (first | refine aOp_pick rfl ?_ | skip); simp only [go_sem, ↓reduceIte, Nat.reduceEqDiff, Nat.reduceAdd, Nat.reduceLeDiff, Nat.reduceBEq, Nat.reduceMul, Int.reduceEq, Int.reduceLT, Int.reduceLE, latX_eq, hkk, List.length_map, Bool.false_eq_true]; (first | refine splitB (fun hq => ?_) (fun hq => ?_) | skip) <;> (refine HK _ _ ?_; clear HK K))
     | refine ao0 rfl rfl ?_)
    | (with_reducible refine gd_th ?_; first
     | refine thenS_n ?_
     | refine thenS_r ?_)
    | (with_reducible refine gd_iB ?_; first
     | refine inB_n ?_
     | refine inB_r ?_)
    | (exfalso; omega)
   all_goals first | (exfalso; omega) | exact ⟨.inr rfl, endD (r := .v (.bool false)) hl0 rfl (by simp) (by simp) rfl (by rw [low]; trivial) ⟨rfl, rfl⟩⟩
 obtain ⟨rfl, h2⟩ := h7
 obtain ⟨a, b, hab⟩ : ∃ a b, l.parts = [a, b] := by
  match hm : l.parts, h2 with
  | [a, b], _ => exact ⟨a, b, rfl⟩
 rw [chain_two (by rw [hkk]; exact h123) hkk hab]
 have ha := hpp a (by rw [hab]; simp)
 have hb := hpp b (by rw [hab]; simp)
 have hx0 : l.parts[0]? = some a := by rw [hab]; rfl
 have hx1 : l.parts[1]? = some b := by rw [hab]; rfl
 clear hab
 refine does_of_aw Tryz.func129 rfl (Nat.le_of_ble_eq_true rfl) hG fun hl0 _ => ?_
 simp only [Tryz.ntmps129]
 cases hca : chainB a
 · skip
   repeat' first
    | (with_reducible refine gd_aw ?_; first
     | refine aw_seq' ?_
     | refine aw_region' ?_
     | refine aw_block ?_
     | refine aw_if1 rfl ?_
     | refine aw_if0 rfl ?_
     | refine aw_ret ?_)
    | (with_reducible refine gd_ao ?_; first
     | refine ao_nil ?_
     | (refine ao1 rfl rfl fun K HK => ?_; (first | refine aOp_pick rfl ?_ | skip); simp only [go_sem, ↓reduceIte, Nat.reduceEqDiff, Nat.reduceAdd, Nat.reduceLeDiff, Nat.reduceBEq, Nat.reduceMul, Int.reduceEq, Int.reduceLT, Int.reduceLE, latX_eq l, latX_len, latX_take, hkk, h2, List.length_map, Int.toNat_zero, Int.toNat_one, Bool.false_eq_true]; (first | refine splitB (fun hq => ?_) (fun hq => ?_) | (refine ⟨by omega, ?_⟩; refine row_at (by assumption) ?_) | skip) <;> (refine HK _ _ ?_; clear HK K))
     | refine ao0 rfl rfl ?_
     | (refine ao2 rfl rfl rfl ent_129 (ha _ hca _) ?_; rintro _ _ ⟨rfl, rfl⟩))
    | (with_reducible refine gd_th ?_; first
     | refine thenS_n ?_
     | refine thenS_r ?_)
    | (with_reducible refine gd_iB ?_; first
     | refine inB_r ?_)
    | (exfalso; omega)
   all_goals first | (exfalso; omega) | exact ⟨.inr rfl, endD (r := .v (.bool false)) hl0 rfl (by simp) (by simp) rfl (by rw [low]; trivial) ⟨rfl, by rfl⟩⟩
 · cases hcb : chainB b
   all_goals
    skip
    repeat' first
     | (with_reducible refine gd_aw ?_; first
      | refine aw_seq' ?_
      | refine aw_region' ?_
      | refine aw_block ?_
      | refine aw_if1 rfl ?_
      | refine aw_if0 rfl ?_
      | refine aw_ret ?_)
     | (with_reducible refine gd_ao ?_; first
      | refine ao_nil ?_
      | (refine ao1 rfl rfl fun K HK => ?_; (first | refine aOp_pick rfl ?_ | skip); simp only [go_sem, ↓reduceIte, Nat.reduceEqDiff, Nat.reduceAdd, Nat.reduceLeDiff, Nat.reduceBEq, Nat.reduceMul, Int.reduceEq, Int.reduceLT, Int.reduceLE, latX_eq l, latX_len, latX_take, hkk, h2, List.length_map, Int.toNat_zero, Int.toNat_one, Bool.false_eq_true]; (first | refine splitB (fun hq => ?_) (fun hq => ?_) | (refine ⟨by omega, ?_⟩; refine row_at (by assumption) ?_) | skip) <;> (refine HK _ _ ?_; clear HK K))
      | refine ao0 rfl rfl ?_
      | (refine ao2 rfl rfl rfl ent_129 (ha _ hca _) ?_; rintro _ _ ⟨rfl, rfl⟩)
      | (refine ao2 rfl rfl rfl ent_129 (hb _ hcb _) ?_; rintro _ _ ⟨rfl, rfl⟩))
     | (with_reducible refine gd_th ?_; first
      | refine thenS_n ?_
      | refine thenS_r ?_)
     | (with_reducible refine gd_iB ?_; first
      | refine inB_r ?_)
     | (exfalso; omega)
   all_goals first | (exfalso; omega) | exact ⟨.inr rfl, endD (r := .v _) hl0 rfl (by simp) (by simp) rfl (by rw [low]; trivial) ⟨rfl, by rfl⟩⟩
theorem shape_d (l : Lat) (hsm : Sm l) (h : List Ob) : Does Tryz.prog G 103 h [.agg (latX l)] (fun h' r => h' = h ∧ r = .v (.int .i64 (whenI (shapeB l) 1))) := by
 refine does_any G hG (low_latL _ l) (by rw [low]; trivial) ?_ h
 clear h
 unfold shapeB
 have hpl := hsm.parts
 have hnl := hsm.names
 have hrl := hsm.rules
 generalize hkk : l.kind = k
 generalize hlo : l.lo = lo
 generalize hhi : l.hi = hi
 generalize hnn : l.names.length = nn at *
 generalize hnp : l.parts.length = np at *
 generalize hnr : l.rules.length = nr at *
 refine does_of_aw Tryz.func103 rfl (Nat.le_of_ble_eq_true rfl) hG fun hl0 _ => ?_
 simp only [Tryz.ntmps103]
 repeat' first
  | (with_reducible refine gd_aw ?_; first
   | refine aw_seq' ?_
   | refine aw_region' ?_
   | refine aw_block ?_
   | refine aw_if1 rfl ?_
   | refine aw_if0 rfl ?_
   | refine aw_skip ?_
   | refine aw_ret ?_
   | refine aw_draw mixd (by kernel_rfl) ?_)
  | (with_reducible refine gd_ao ?_; first
   | refine ao_nil ?_
   | (refine ao1 rfl rfl fun K HK => ?_; (first | refine aOp_pick rfl ?_ | skip); simp only [go_sem, ↓reduceIte, Nat.reduceEqDiff, Nat.reduceAdd, Nat.reduceLeDiff, Nat.reduceBEq, Nat.reduceMul, Int.reduceEq, Int.reduceLT, Int.reduceLE, latX_eq, List.length_map, hkk, hlo, hhi, hnn, hnp, hnr, Bool.false_eq_true]; (first | refine splitB (fun hq => ?_) (fun hq => ?_) | refine splitN (fun hq => ?_) (fun hq => ?_) | skip) <;> (refine HK _ _ ?_; clear HK K))
   | refine ao0 rfl rfl ?_
   | (refine ao2 rfl rfl rfl ent_124 (when_d G hG _ _ _) ?_; rintro _ _ ⟨rfl, rfl⟩))
  | (with_reducible refine gd_aq ?_; first
   | (refine aq1 rfl rfl fun K HK => ?_; (first | refine aOp_pick rfl ?_ | skip); simp only [go_sem, ↓reduceIte, Nat.reduceEqDiff, Nat.reduceAdd, Nat.reduceLeDiff, Nat.reduceBEq, Nat.reduceMul, Int.reduceEq, Int.reduceLT, Int.reduceLE, latX_eq, List.length_map, hkk, hlo, hhi, hnn, hnp, hnr, Bool.false_eq_true]; (first | refine splitB (fun hq => ?_) (fun hq => ?_) | refine splitN (fun hq => ?_) (fun hq => ?_) | skip) <;> (refine HK _ _ rfl ?_; clear HK K))
   | refine aq_nil ?_)
  | (with_reducible refine gd_th ?_; first
   | refine thenS_n ?_
   | refine thenS_r ?_)
  | (with_reducible refine gd_iB ?_; first
   | refine inB_n ?_
   | refine inB_r ?_)
  | (exfalso; omega)
 all_goals first | (exfalso; omega) | refine ⟨.inr rfl, endD (r := .v _) hl0 rfl (by simp) (by simp) rfl (by rw [low]; trivial) ⟨rfl, congrArg (fun b => D.v (.int .i64 b)) ?_⟩⟩
 all_goals
  clear hl0
  try unfold whenI
  first
  | (rw [shapeC_ranged (by omega) (by omega) (by omega)]; simp; done)
  | (rw [shapeC_ruled (by omega) (by omega)]; simp; done)
  | (rw [shapeC_none (by omega)]; simp; done)
  | (simp_all [shapeC, kindI]; done)
  | (simp_all [shapeC, kindI]; omega)
theorem limits_d (l : Lat) (hsm : Sm l) (h : List Ob) : Does Tryz.prog G 104 h [.agg (latX l)] (fun h' r => h' = h ∧ r = .v (.int .i64 (whenI (limitsB l) 6))) := by
 refine does_any G hG (low_latL _ l) (by rw [low]; trivial) ?_ h
 clear h
 unfold limitsB
 have hnl := hsm.names
 have hrl := hsm.rules
 generalize hkk : l.kind = k
 generalize hnn : l.names.length = nn at *
 generalize hnr : l.rules.length = nr at *
 refine does_of_aw Tryz.func104 rfl (Nat.le_of_ble_eq_true rfl) hG fun hl0 _ => ?_
 simp only [Tryz.ntmps104]
 repeat' first
  | (with_reducible refine gd_aw ?_; first
   | refine aw_seq' ?_
   | refine aw_region' ?_
   | refine aw_block ?_
   | refine aw_if1 rfl ?_
   | refine aw_if0 rfl ?_
   | refine aw_skip ?_
   | refine aw_ret ?_)
  | (with_reducible refine gd_ao ?_; first
   | refine ao_nil ?_
   | (refine ao1 rfl rfl fun K HK => ?_; (first | refine aOp_pick rfl ?_ | skip); simp only [go_sem, ↓reduceIte, Nat.reduceEqDiff, Nat.reduceAdd, Nat.reduceLeDiff, Nat.reduceBEq, Nat.reduceMul, Int.reduceEq, Int.reduceLT, Int.reduceLE, latX_eq, List.length_map, hkk, hnn, hnr, Bool.false_eq_true]; (first | refine splitB (fun hq => ?_) (fun hq => ?_) | skip) <;> (refine HK _ _ ?_; clear HK K))
   | refine ao0 rfl rfl ?_
   | (refine ao2 rfl rfl rfl ent_124 (when_d G hG _ _ _) ?_; rintro _ _ ⟨rfl, rfl⟩))
  | (with_reducible refine gd_th ?_; first
   | refine thenS_n ?_)
  | (with_reducible refine gd_iB ?_; first
   | refine inB_n ?_)
 all_goals first | (exfalso; omega) | refine ⟨.inr rfl, endD (r := .v _) hl0 rfl (by simp) (by simp) rfl (by rw [low]; trivial) ⟨rfl, congrArg (fun b => D.v (.int .i64 (whenI b 6))) ?_⟩⟩
 all_goals
  clear hl0
  rw [Bool.eq_iff_iff]
  first
  | (simp_all [mostN]; done)
  | (simp_all [mostN]; omega)
theorem ranges_d (l : Lat) (h : List Ob) : Does Tryz.prog G 106 h [.agg (latX l)] (fun h' r => h' = h ∧ r = .v (.int .i64 (whenI (rangesB l) 5))) := by
 refine does_any G hG (low_latL _ l) (by rw [low]; trivial) ?_ h
 clear h
 unfold rangesB
 generalize hlo : l.lo = lo
 generalize hhi : l.hi = hi
 refine does_of_aw Tryz.func106 rfl (Nat.le_of_ble_eq_true rfl) hG fun hl0 _ => ?_
 simp only [Tryz.ntmps106]
 repeat' first
  | (with_reducible refine gd_aw ?_; first
   | refine aw_seq' ?_
   | refine aw_region' ?_
   | refine aw_ret ?_)
  | (with_reducible refine gd_ao ?_; first
   | refine ao_nil ?_
   | (refine ao1 rfl rfl fun K HK => ?_; (first | refine aOp_pick rfl ?_ | skip); simp only [go_sem, ↓reduceIte, Nat.reduceEqDiff, Nat.reduceAdd, Nat.reduceLeDiff, Nat.reduceBEq, Nat.reduceMul, Int.reduceEq, Int.reduceLT, Int.reduceLE, latX_eq, hlo, hhi, Bool.false_eq_true]; (first | refine splitB (fun hq => ?_) (fun hq => ?_) | skip) <;> (refine HK _ _ ?_; clear HK K))
   | refine ao0 rfl rfl ?_
   | (refine ao2 rfl rfl rfl ent_124 (when_d G hG _ _ _) ?_; rintro _ _ ⟨rfl, rfl⟩))
  | (with_reducible refine gd_th ?_; first
   | refine thenS_n ?_)
  | (exfalso; omega)
 all_goals first | (exfalso; omega) | refine ⟨.inr rfl, endD (r := .v _) hl0 rfl (by simp) (by simp) rfl (by rw [low]; trivial) ⟨rfl, congrArg (fun b => D.v (.int .i64 (whenI b 5))) ?_⟩⟩
 all_goals
  clear hl0
  first
  | (rw [decide_eq_true (by omega)]; done)
  | (rw [decide_eq_false (by omega)]; done)
theorem chains_d (l : Lat) (hsm : Sm l) (h7 : l.kind = 7 → l.parts.length = 2) (h : List Ob) : Does Tryz.prog G 107 h [.agg (latX l)] (fun h' r => h' = h ∧ r = .v (.int .i64 (whenI (chainsB l) 4))) := by
 refine does_any G hG (low_latL _ l) (by rw [low]; trivial) ?_ h
 clear h
 by_cases hk : l.kind = 7
 · have h2 := h7 hk
   obtain ⟨p, hp, hc, hpm⟩ : ∃ p, l.parts[0]? = some p ∧ chainsB l = !chainB p ∧ p ∈ l.parts := by
    match hm : l.parts, h2 with
    | [a, b], _ => exact ⟨a, rfl, by unfold chainsB; rw [hk, hm]; rfl, by simp⟩
   rw [hc]
   have hch := chain_d G hG _ p (Nat.le_refl _) (hsm.part p hpm)
   generalize chainB p = b at *
   refine does_of_aw Tryz.func107 rfl (Nat.le_of_ble_eq_true rfl) hG fun hl0 _ => ?_
   simp only [Tryz.ntmps107]
   cases b
   all_goals
    skip
    repeat' first
     | (with_reducible refine gd_aw ?_; first
      | refine aw_seq' ?_
      | refine aw_region' ?_
      | refine aw_ret ?_)
     | (with_reducible refine gd_ao ?_; first
      | refine ao_nil ?_
      | (refine ao1 rfl rfl fun K HK => ?_; (first | refine aOp_pick rfl ?_ | skip); simp only [go_sem, ↓reduceIte, Nat.reduceEqDiff, Nat.reduceAdd, Nat.reduceLeDiff, Nat.reduceBEq, Nat.reduceMul, Int.reduceEq, Int.reduceLT, Int.reduceLE, latX_eq l, latX_len, latX_take, hk, h2, List.length_map, Int.toNat_zero, Bool.false_eq_true]; (first | (refine ⟨by omega, ?_⟩; refine row_at (by assumption) ?_) | skip) <;> (refine HK _ _ ?_; clear HK K))
      | (refine ao2 rfl rfl rfl ent_124 (when_d G hG _ _ _) ?_; rintro _ _ ⟨rfl, rfl⟩)
      | (refine ao2 rfl rfl rfl ent_129 (hch _) ?_; rintro _ _ ⟨rfl, rfl⟩))
     | (with_reducible refine gd_th ?_; first
      | refine thenS_n ?_)
    exact ⟨.inr rfl, endD (r := .v _) hl0 rfl (by simp) (by simp) rfl (by rw [low]; trivial) ⟨rfl, rfl⟩⟩
 · have hc : chainsB l = false := by unfold chainsB; rw [decide_eq_false hk, Bool.false_and]
   rw [hc]
   refine does_of_aw Tryz.func107 rfl (Nat.le_of_ble_eq_true rfl) hG fun hl0 _ => ?_
   simp only [Tryz.ntmps107]
   repeat' first
    | (with_reducible refine gd_aw ?_; first
     | refine aw_seq' ?_
     | refine aw_region' ?_
     | refine aw_ret ?_)
    | (with_reducible refine gd_ao ?_; first
     | refine ao_nil ?_
     | (refine ao1 rfl rfl fun K HK => ?_; (first | refine aOp_pick rfl ?_ | skip); simp only [go_sem, ↓reduceIte, Nat.reduceEqDiff, Nat.reduceAdd, Nat.reduceLeDiff, Nat.reduceBEq, Nat.reduceMul, Int.reduceEq, Int.reduceLT, Int.reduceLE, latX_eq l, hk, Bool.false_eq_true] <;> (refine HK _ _ ?_; clear HK K))
     | refine ao0 rfl rfl ?_
     | (refine ao2 rfl rfl rfl ent_124 (when_d G hG _ _ _) ?_; rintro _ _ ⟨rfl, rfl⟩))
    | (with_reducible refine gd_th ?_; first
     | refine thenS_n ?_)
   exact ⟨.inr rfl, endD (r := .v _) hl0 rfl (by simp) (by simp) rfl (by rw [low]; trivial) ⟨rfl, rfl⟩⟩
end
end Go.Proofs.YtgkjcmglcnhpaaaGreatDoor
