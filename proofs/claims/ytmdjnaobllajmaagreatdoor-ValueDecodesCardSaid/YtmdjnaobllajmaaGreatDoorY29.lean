/-
  What the statements of the chapter share, part 29: LA5.
-/
import Derived.Test.YtmdjnaobllajmaaGreatDoorY14
import Derived.Test.YtmdjnaobllajmaaGreatDoorY28
set_option linter.unusedVariables false
set_option linter.unusedSimpArgs false
set_option maxRecDepth 100000
set_option maxHeartbeats 8000000
namespace Go.Proofs.YtmdjnaobllajmaaGreatDoor
open _root_.Nat renaming le_of_ble_eq_true → Z0
open Go.RowKit
section
attribute [local irreducible] on aOp
attribute [local go_sem] decide_true decide_false Bool.not_true Bool.not_false
attribute [local simp] byD_len
def walkG (g : Lat → Nat → Nat × Int) : List Lat → Nat → Nat × Int
 | [], n => (n, 0)
 | p :: t, n => if (g p n).2 ≠ 0 then (n, (g p n).2) else walkG g t (g p n).1
def Zg8 : Nat → Lat → Nat → Nat × Int
 | 0, l, n => (n, Zh7 l 7 n)
 | f + 1, l, n => if Zh7 l (6 - f) n ≠ 0 then (n, Zh7 l (6 - f) n) else walkG (Zg8 f) l.parts (n + 1)
theorem walkG_go {g : Lat → Nat → Nat × Int} {v : Lat → Nat → Int × Nat} : ∀ (ps : List Lat) (n : Nat), (∀ p ∈ ps, ∀ n, (g p n).2 = (v p n).1 ∧ ((v p n).1 = 0 → (g p n).1 = (v p n).2)) → (walkG g ps n).2 = (goL v ps n).1 ∧ ((goL v ps n).1 = 0 → (walkG g ps n).1 = (goL v ps n).2)
 | [], n, _ => ⟨rfl, fun _ => rfl⟩
 | p :: t, n, h => by
  obtain ⟨h1, h2⟩ := h p (by simp) n
  rw [walkG, goL, h1]
  by_cases h0 : (v p n).1 = 0
  · rw [if_neg (fun q => q h0), if_neg (fun q => q h0), h2 h0]
    exact walkG_go t _ fun q hq => h q (by simp [hq])
  · rw [if_pos h0, if_pos h0]
    exact ⟨rfl, fun q => absurd q h0⟩
theorem Zg7 : ∀ (f : Nat) (l : Lat) (n : Nat), f ≤ 6 → (Zg8 f l n).2 = (W7 f l n).1 ∧ ((W7 f l n).1 = 0 → (Zg8 f l n).1 = (W7 f l n).2)
 | 0, l, n, _ => by
  rcases Yc4 0 l n 7 (by omega) (by omega) with ⟨h1, h2⟩ | ⟨_, g, hg, _⟩
  · exact ⟨h2.symm, fun q => absurd (h2 ▸ q) h1⟩
  · omega
 | f + 1, l, n, hf => by
  rw [Zg8]
  rcases Yc4 (f + 1) l n (6 - f) (by omega) hf with ⟨h1, h2⟩ | ⟨h1, g, hg, h2⟩
  · rw [if_pos h1]; exact ⟨h2.symm, fun q => absurd (h2 ▸ q) h1⟩
  · obtain rfl : f = g := by omega
    rw [if_neg (fun q => q h1), h2]
    exact walkG_go l.parts (n + 1) fun p _ m => Zg7 f p m (by omega)
theorem walkF_le {f : Nat} {l : Lat} {n : Nat} (hf : f ≤ 6) (hn : n ≤ 64) (h : (Zg8 f l n).2 = 0) : (Zg8 f l n).1 ≤ 64 := by
 obtain ⟨h1, h2⟩ := Zg7 f l n hf
 rw [h2 (h1 ▸ h)]
 exact visit_le f l n hn
theorem walkF_chk (l : Lat) : (Zg8 6 l 0).2 = chkE l := (Zg7 6 l 0 (Nat.le_refl _)).1
theorem nodeR_lt {l : Lat} {d : Int} {n : Nat} (h : Zh7 l d n = 0) : n < 64 := by
 unfold Zh7 at h
 by_cases h1 : 6 < d ∨ 64 ≤ n
 · rw [if_pos h1] at h; exact absurd h (by decide)
 · omega
variable (G : Nat → D) (hG : ∀ g, low 0 (G g))
include hG
attribute [local go_sem] Bool.false_eq_true Int.reduceEq Int.reduceLE Int.reduceLT Int.toNat_natCast List.length_map Nat.reduceAdd Nat.reduceBEq Nat.reduceEqDiff Nat.reduceLeDiff Nat.reduceMul Xz Wh
attribute [local go_sem ↓] reduceIte
theorem rNode_d (l : Lat) (hsm : Sm l) (d : Int) (n : Nat) (hd : 0 ≤ d ∧ d ≤ 7) (hn : n ≤ 64) (h : List Ob) : Does Tryz.prog G 106 h [.agg (latX l), .v (.int .i64 d), .v (.int .i64 n)] (fun h' r => h' = h ∧ r = .v (.int .i64 (Zh7 l d n))) := by
 refine Yk G hG (by rw [lowL, lowL, lowL, lowL, low]; exact ⟨U4 _ l, by simp [low], by simp [low], trivial⟩) (by rw [low]; trivial) ?_ h
 clear h
 have hpl := hsm.parts
 have hnl := hsm.names
 have hrl := hsm.rules
 have hsh := rShape_d G hG l hsm
 have hnm := rNamed_d G hG l hsm
 have hp0 : l.kind = 7 → Ve l = false → ∃ p, l.parts[0]? = some p ∧ l.parts.length = 2 ∧ Vi l = !Wm p ∧ ∀ (b : Bool), Wm p = b → ∀ (h : List Ob), Does Tryz.prog G 148 h [.agg (latX p)] (fun h' r => h' = h ∧ r = .v (.bool b)) := fun h7 hs => by
  have h2 := Yb0 l hs h7
  match hm : l.parts, h2 with
  | [a, b], _ => exact ⟨a, rfl, rfl, by unfold Vi; rw [h7, hm]; rfl, fun c hc h => hc ▸ rChain_d G hG _ a (Nat.le_refl _) (hsm.part a (by rw [hm]; simp)) h⟩
 have hnc : l.kind ≠ 7 → Vi l = false := fun h7 => by unfold Vi; rw [decide_eq_false h7, Bool.false_and]
 simp only [Y4 l] at hsh hnm
 unfold Zh7 Jh
 generalize hsb : Ve l = sb at *
 generalize hnb : Zd4 l.kind l.names l.rules = nb at *
 generalize hcb : Vi l = cb at *
 generalize hkk : l.kind = k at *
 generalize hlo : l.lo = lo at *
 generalize hhi : l.hi = hi at *
 generalize hnn : l.names.length = nn at *
 generalize hnr : l.rules.length = nr at *
 refine Y5 Tryz.func106 rfl (Z0 rfl) hG fun hl0 _ => ?_
 simp only [Tryz.ntmps106]
 by_cases h7 : k = 7
 · subst h7
   cases sb
   · obtain ⟨p, hp, hp2, hpc, hpd⟩ := hp0 rfl rfl
     cases hcp : Wm p <;> rw [hcp] at hpc
     all_goals
      cases nb
     all_goals
      skip
      repeat' first
       | (with_reducible first | refine sA rfl ?_ | refine sI rfl rfl ?_ | refine sT rfl ?_ | refine sB rfl ?_)
       | (with_reducible refine Y7 ?_; first | refine Yr ?_ | (refine ao1 rfl rfl fun K HK => ?_; (first | refine Yh rfl ?_ | skip); simp only [go_sem, Y4 l, hkk, hlo, hhi, hnn, hnr, hp2, Int.toNat_zero]; (first | refine X1 (fun hq => ?_) (fun hq => ?_) | (refine ⟨by omega, ?_⟩; refine W9 (by assumption) ?_) | skip) <;> (refine HK _ _ ?_; clear HK K)) | refine ao0 rfl rfl ?_ | (refine ao2 rfl rfl rfl Yj4 (hsh _) ?_; rintro _ _ ⟨rfl, rfl⟩) | (refine ao2 rfl rfl rfl ent_147 (hnm _) ?_; rintro _ _ ⟨rfl, rfl⟩) | (refine ao2 rfl rfl rfl Yj3 (hpd _ hcp _) ?_; rintro _ _ ⟨rfl, rfl⟩))
      all_goals first | (exfalso; omega) | refine ⟨.inr rfl, endV hl0 rfl rfl ⟨rfl, congrArg (fun b => D.v (.int .i64 b)) ?_⟩⟩
      all_goals (clear hl0; simp [Zw9]; repeat' split) <;> first | rfl | omega | (simp_all; done) | (simp_all; omega) | (simp_all; intros; omega)
   · skip
     have F : _ ∧ _ ∧ _ ∧ _ ∧ _ ∧ _ := ⟨Y4 l, hkk, hlo, hhi, hnn, hnr⟩
     repeat' first
      | refine g ?_
      | refine Two.mk (fun hq => ?_) fun hq => ?_
      | (with_reducible refine Y7 ?_; refine gc rfl rfl rfl Yj4 (hsh _) ?_)
     all_goals first | (exfalso; omega) | refine ⟨.inr rfl, endV hl0 rfl rfl ⟨rfl, congrArg (fun b => D.v (.int .i64 b)) ?_⟩⟩
     all_goals (clear hl0; simp [Zw9]; repeat' split) <;> first | rfl | omega | (simp_all; done) | (simp_all; omega) | (simp_all; intros; omega)
 · obtain rfl := hnc h7
   cases sb
   · cases nb
     all_goals
      skip
      have F : _ ∧ _ ∧ _ ∧ _ ∧ _ ∧ _ ∧ _ := ⟨Y4 l, hkk, hlo, hhi, hnn, hnr, h7⟩
      repeat' first
       | refine g ?_
       | refine Two.mk (fun hq => ?_) fun hq => ?_
       | (with_reducible refine Y7 ?_; first | refine gc rfl rfl rfl Yj4 (hsh _) ?_ | refine gc rfl rfl rfl ent_147 (hnm _) ?_)
       | (exfalso; omega)
      all_goals first | (exfalso; omega) | refine ⟨.inr rfl, endV hl0 rfl rfl ⟨rfl, congrArg (fun b => D.v (.int .i64 b)) ?_⟩⟩
      all_goals (clear hl0; simp [Zw9]; repeat' split) <;> first | rfl | omega | (simp_all; done) | (simp_all; omega) | (simp_all; intros; omega)
   · skip
     have F : _ ∧ _ ∧ _ ∧ _ ∧ _ ∧ _ ∧ _ := ⟨Y4 l, hkk, hlo, hhi, hnn, hnr, h7⟩
     repeat' first
      | refine g ?_
      | refine Two.mk (fun hq => ?_) fun hq => ?_
      | (with_reducible refine Y7 ?_; refine gc rfl rfl rfl Yj4 (hsh _) ?_)
      | (exfalso; omega)
     all_goals first | (exfalso; omega) | refine ⟨.inr rfl, endV hl0 rfl rfl ⟨rfl, congrArg (fun b => D.v (.int .i64 b)) ?_⟩⟩
     all_goals (clear hl0; simp [Zw9]; repeat' split) <;> first | rfl | omega | (simp_all; done) | (simp_all; omega) | (simp_all; intros; omega)
theorem rWalk_d : ∀ (f : Nat) (l : Lat) (n : Nat) (d : Int), f ≤ 6 → d = 7 - f → Sm l → n ≤ 64 → ∀ (h : List Ob), Does Tryz.prog G 60 h [.agg (latX l), .v (.int .i64 d), .v (.int .i64 n)] (fun h' r => h' = h ∧ r = .tup [.v (.int .i64 (Zg8 f l n).1), .v (.int .i64 (Zg8 f l n).2)]) := by
 intro f
 induction f with
 | zero =>
   intro l n d hf hd hsm hn h
   refine Yk G hG (by rw [lowL, lowL, lowL, lowL, low]; exact ⟨U4 _ l, by simp [low], by simp [low], trivial⟩) (by simp [low, lowL]) ?_ h
   clear h
   obtain rfl : d = 7 := by omega
   have hnd := rNode_d G hG l hsm 7 n (by omega) hn
   simp only [Y4 l] at hnd
   have hne : Zh7 l 7 n ≠ 0 := by unfold Zh7; rw [if_pos (.inl (by omega))]; decide
   rw [Zg8]
   generalize Zh7 l 7 n = e at *
   refine Y5 Tryz.func60 rfl (Z0 rfl) hG fun hl0 _ => ?_
   simp only [Tryz.ntmps60]
   have F : _ ∧ _ := ⟨Y4 l, hne⟩
   repeat' first
    | refine g0 ?_
    | (with_reducible refine Y7 ?_; refine gc rfl rfl rfl ent_106 (hnd _) ?_)
   exact ⟨.inr rfl, endD (r := .tup [.v _, .v _]) hl0 rfl (by simp) (by simp) rfl (by simp [low, lowL]) ⟨rfl, rfl⟩⟩
 | succ f ih =>
   intro l n d hf hd hsm hn h
   refine Yk G hG (by rw [lowL, lowL, lowL, lowL, low]; exact ⟨U4 _ l, by simp [low], by simp [low], trivial⟩) (by simp [low, lowL]) ?_ h
   clear h
   obtain rfl : d = 6 - f := by omega
   have hnd := rNode_d G hG l hsm (6 - f) n (by omega) hn
   simp only [Y4 l] at hnd
   have hpl := hsm.parts
   rw [Zg8]
   have hlt64 := nodeR_lt (l := l) (d := 6 - f) (n := n)
   generalize Zh7 l (6 - f) n = e at *
   refine Y5 Tryz.func60 rfl (Z0 rfl) hG fun hl0 _ => ?_
   simp only [Tryz.ntmps60]
   by_cases he : e = 0
   rotate_left
   · rw [if_pos he]
     have F : _ ∧ _ := ⟨Y4 l, he⟩
     repeat' first
      | refine g0 ?_
      | (with_reducible refine Y7 ?_; refine gc rfl rfl rfl ent_106 (hnd _) ?_)
     exact ⟨.inr rfl, endD (r := .tup [.v _, .v _]) hl0 rfl (by simp) (by simp) rfl (by simp [low, lowL]) ⟨rfl, rfl⟩⟩
   rw [if_neg (fun q => q he)]
   have hn64 := hlt64 he
   subst he
   have wn : IntKind.i64.wrap ((n : Int) + 1) = ((n + 1 : Nat) : Int) := IntWalk.i64_in _ (by omega)
   have wd : IntKind.i64.wrap (6 - (f : Int) + 1) = 6 - (f : Int) + 1 := IntWalk.i64_in _ (by omega)
   have F : _ ∧ _ := ⟨Y4 l, wn⟩
   repeat' first
    | refine g0 ?_
    | (with_reducible refine Y7 ?_; refine gc rfl rfl rfl ent_106 (hnd _) ?_)
   refine Yn (fun m e h' => ∃ k c : Nat, k ≤ l.parts.length ∧ m = l.parts.length - k ∧ c ≤ 64 ∧ walkG (Zg8 f) l.parts (n + 1) = walkG (Zg8 f) (l.parts.drop k) c ∧ h' = [.cells (latX l)] ∧ e 1 = .v (.int .i64 (6 - f)) ∧ e 3 = .ptr 0 0 ∧ e 9 = .v (.int .i64 c) ∧ e 10 = .v (.int .i64 k)) l.parts.length ⟨0, n + 1, Nat.zero_le _, rfl, by omega, rfl, (by rw [Y4]), rfl, rfl, rfl, rfl⟩ ?_
   clear hnd
   rintro m e h' ⟨k, c, hk, rfl, hc, ho, rfl, e1, e3, e9, e10⟩
   by_cases hlt : k < l.parts.length
   rotate_left
   · skip
     have F : _ ∧ _ ∧ _ ∧ _ ∧ _ := ⟨Y4 l, e1, e3, e9, e10⟩
     repeat' first
      | refine g ?_
      | refine Two.mk (fun hq => ?_) fun hq => ?_
      | refine Evry.mk fun x hx => ?_
      | (exfalso; omega)
     exact ⟨.inr rfl, endD (r := .tup [.v _, .v _]) hl0 rfl (by simp) (by simp) rfl (by simp [low, lowL]) ⟨rfl, by rw [ho, List.drop_eq_nil_of_le (by omega)]; rfl⟩⟩
   have hx : l.parts[k]? = some l.parts[k] := List.getElem?_eq_getElem hlt
   have wk : IntKind.i64.wrap ((k : Int) + 1) = (k : Int) + 1 := IntWalk.i64_in _ (by omega)
   rw [List.drop_eq_getElem_cons hlt, walkG] at ho
   have hr := ih l.parts[k] c (6 - (f : Int) + 1) (by omega) (by omega) (hsm.part _ (List.getElem_mem hlt)) hc
   have hle := walkF_le (f := f) (l := l.parts[k]) (by omega) hc
   generalize l.parts[k] = x at hx ho hr hle
   generalize Zg8 f x c = y at *
   obtain ⟨y1, y2⟩ := y
   simp only at ho hr hle
   by_cases hy : y2 = 0
   · rw [if_neg (fun q => q hy)] at ho
     have hle := hle hy
     have F : _ ∧ _ ∧ _ ∧ _ ∧ _ ∧ _ ∧ _ ∧ _ := ⟨Y4 l, e1, e3, e9, e10, wk, wd, hy⟩
     repeat' first
      | refine g ?_
      | refine Two.mk (fun hq => ?_) fun hq => ?_
      | (with_reducible refine Y7 ?_; refine gc rfl rfl rfl ent_60 (hr _) ?_)
      | (exfalso; omega)
     exact ⟨rfl, l.parts.length - (k + 1), by omega, k + 1, y1, hlt, rfl, hle, ho, by rw [Y4 l], e1, e3, rfl, rfl⟩
   · rw [if_pos hy] at ho
     have F : _ ∧ _ ∧ _ ∧ _ ∧ _ ∧ _ ∧ _ ∧ _ := ⟨Y4 l, e1, e3, e9, e10, wk, wd, hy⟩
     repeat' first
      | refine g ?_
      | refine Two.mk (fun hq => ?_) fun hq => ?_
      | (with_reducible refine Y7 ?_; refine gc rfl rfl rfl ent_60 (hr _) ?_)
      | (exfalso; omega)
     exact ⟨.inr rfl, endD (r := .tup [.v _, .v _]) hl0 rfl (by simp) (by simp) rfl (by simp [low, lowL]) ⟨rfl, by rw [ho]⟩⟩
theorem Zs3 (l : Lat) (hsm : Sm l) (h : List Ob) : Does Tryz.prog G 31 h [.agg (latX l)] (fun h' r => h' = h ∧ r = .v (.int .i64 (chkE l))) := by
 refine Yk G hG (V2 _ l) (by rw [low]; trivial) ?_ h
 clear h
 have hr := rWalk_d G hG 6 l 0 1 (by omega) (by omega) hsm (by omega)
 simp only [Y4 l] at hr
 rw [← walkF_chk]
 generalize Zg8 6 l 0 = y at *
 obtain ⟨y1, y2⟩ := y
 refine Y5 Tryz.func31 rfl (Z0 rfl) hG fun hl0 _ => ?_
 simp only [Tryz.ntmps31]
 have F := Y4 l
 repeat' first
  | refine g0 ?_
  | (with_reducible refine Y7 ?_; refine gc rfl rfl rfl ent_60 (hr _) ?_)
 exact ⟨.inr rfl, endV hl0 rfl rfl ⟨rfl, rfl⟩⟩
end
end Go.Proofs.YtmdjnaobllajmaaGreatDoor
