/-
  What the statements of the chapter share, part 21: LA5, LB1, LB2, LB3, LB4, LG1, RWG.
-/
import Derived.Test.YtgkjcmglcnhpaaaGreatDoorR13
import Derived.Test.YtgkjcmglcnhpaaaGreatDoorR14
import Derived.Test.YtgkjcmglcnhpaaaGreatDoorR19
import Derived.Test.YtgkjcmglcnhpaaaGreatDoorR20
set_option linter.unusedVariables false
set_option linter.unusedSimpArgs false
set_option maxRecDepth 100000
set_option maxHeartbeats 8000000
namespace Go.Proofs.YtgkjcmglcnhpaaaGreatDoor
open _root_.Bool renaming false_eq_true → Za, not_false → Zd, not_true → Ze
open _root_.Int renaming reduceEq → Z7, reduceLT → Z8, reduceLE → Z9, toNat_natCast → Zc
open _root_.List renaming length_map → Z6, drop_eq_getElem_cons → Zf, getElem?_eq_getElem → Zg
open _root_.Nat renaming reduceEqDiff → Z1, reduceLeDiff → Z2, reduceAdd → Z3, reduceBEq → Z4, reduceMul → Z5, le_of_ble_eq_true → Zb
open _root_.Go.Proofs.Tryz renaming prog → Z0
open Go.RowKit
section
attribute [local irreducible] on aOp
attribute [local go_sem] decide_true decide_false Ze Zd
attribute [local simp] byD_len
def walkG (g : Lat → Nat → Nat × Int) : List Lat → Nat → Nat × Int
 | [], n => (n, 0)
 | p :: t, n => if (g p n).2 ≠ 0 then (n, (g p n).2) else walkG g t (g p n).1
def Zc9 : Nat → Lat → Nat → Nat × Int
 | 0, l, n => (n, Zd7 l 7 n)
 | f + 1, l, n => if Zd7 l (6 - f) n ≠ 0 then (n, Zd7 l (6 - f) n) else walkG (Zc9 f) l.parts (n + 1)
theorem walkG_go {g : Lat → Nat → Nat × Int} {v : Lat → Nat → Int × Nat} : ∀ (ps : List Lat) (n : Nat), (∀ p ∈ ps, ∀ n, (g p n).2 = (v p n).1 ∧ ((v p n).1 = 0 → (g p n).1 = (v p n).2)) → (walkG g ps n).2 = (goL v ps n).1 ∧ ((goL v ps n).1 = 0 → (walkG g ps n).1 = (goL v ps n).2)
 | [], n, _ => ⟨rfl, fun _ => rfl⟩
 | p :: t, n, h => by
  obtain ⟨h1, h2⟩ := h p (by simp) n
  rw [walkG, goL, h1]
  by_cases h0 : (v p n).1 = 0
  · rw [if_neg (fun q => q h0), if_neg (fun q => q h0), h2 h0]
    exact walkG_go t _ fun q hq => h q (by simp [hq])
  · rw [if_pos h0, if_pos h0]
    exact ⟨rfl, fun q => absurd q h0⟩
theorem Zc8 : ∀ (f : Nat) (l : Lat) (n : Nat), f ≤ 6 → (Zc9 f l n).2 = (U5 f l n).1 ∧ ((U5 f l n).1 = 0 → (Zc9 f l n).1 = (U5 f l n).2)
 | 0, l, n, _ => by
  rcases Zw4 0 l n 7 (by omega) (by omega) with ⟨h1, h2⟩ | ⟨_, g, hg, _⟩
  · exact ⟨h2.symm, fun q => absurd (h2 ▸ q) h1⟩
  · omega
 | f + 1, l, n, hf => by
  rw [Zc9]
  rcases Zw4 (f + 1) l n (6 - f) (by omega) hf with ⟨h1, h2⟩ | ⟨h1, g, hg, h2⟩
  · rw [if_pos h1]; exact ⟨h2.symm, fun q => absurd (h2 ▸ q) h1⟩
  · obtain rfl : f = g := by omega
    rw [if_neg (fun q => q h1), h2]
    exact walkG_go l.parts (n + 1) fun p _ m => Zc8 f p m (by omega)
theorem walkF_le {f : Nat} {l : Lat} {n : Nat} (hf : f ≤ 6) (hn : n ≤ 64) (h : (Zc9 f l n).2 = 0) : (Zc9 f l n).1 ≤ 64 := by
 obtain ⟨h1, h2⟩ := Zc8 f l n hf
 rw [h2 (h1 ▸ h)]
 exact visit_le f l n hn
theorem walkF_chk (l : Lat) : (Zc9 6 l 0).2 = chkE l := (Zc8 6 l 0 (Nat.le_refl _)).1
theorem nodeR_lt {l : Lat} {d : Int} {n : Nat} (h : Zd7 l d n = 0) : n < 64 := by
 unfold Zd7 at h
 by_cases h1 : 6 < d ∨ 64 ≤ n
 · rw [if_pos h1] at h; exact absurd h (by decide)
 · omega
variable (G : Nat → D) (hG : ∀ g, low 0 (G g))
include hG
theorem rNode_d (l : Lat) (hsm : Sm l) (d : Int) (n : Nat) (hd : 0 ≤ d ∧ d ≤ 7) (hn : n ≤ 64) (h : List Ob) : Does Z0 G 108 h [.agg (latX l), .v (.int .i64 d), .v (.int .i64 n)] (fun h' r => h' = h ∧ r = .v (.int .i64 (Zd7 l d n))) := by
 refine Yf G hG (by rw [lowL, lowL, lowL, lowL, low]; exact ⟨Zd8 _ l, by simp [low], by simp [low], trivial⟩) (by rw [low]; trivial) ?_ h
 clear h
 have hpl := hsm.parts
 have hnl := hsm.names
 have hrl := hsm.rules
 have hsh := rShape_d G hG l hsm
 have hnm := rNamed_d G hG l hsm
 have hp0 : l.kind = 7 → Vl l = false → ∃ p, l.parts[0]? = some p ∧ l.parts.length = 2 ∧ Jp l = !V7 p ∧ ∀ (b : Bool), V7 p = b → ∀ (h : List Ob), Does Z0 G 132 h [.agg (latX p)] (fun h' r => h' = h ∧ r = .v (.bool b)) := fun h7 hs => by
  have h2 := shapeB_lex l hs h7
  match hm : l.parts, h2 with
  | [a, b], _ => exact ⟨a, rfl, rfl, by unfold Jp; rw [h7, hm]; rfl, fun c hc h => hc ▸ rChain_d G hG _ a (Nat.le_refl _) (hsm.part a (by rw [hm]; simp)) h⟩
 have hnc : l.kind ≠ 7 → Jp l = false := fun h7 => by unfold Jp; rw [decide_eq_false h7, Bool.false_and]
 simp only [Y9 l] at hsh hnm
 unfold Zd7 Zj7
 generalize hsb : Vl l = sb at *
 generalize hnb : Za5 l.kind l.names l.rules = nb at *
 generalize hcb : Jp l = cb at *
 generalize hkk : l.kind = k at *
 generalize hlo : l.lo = lo at *
 generalize hhi : l.hi = hi at *
 generalize hnn : l.names.length = nn at *
 generalize hnr : l.rules.length = nr at *
 refine Y5 Tryz.func108 rfl (Zb rfl) hG fun hl0 _ => ?_
 simp only [Tryz.ntmps108]
 by_cases h7 : k = 7
 · subst h7
   cases sb
   · obtain ⟨p, hp, hp2, hpc, hpd⟩ := hp0 rfl rfl
     cases hcp : V7 p <;> rw [hcp] at hpc
     all_goals
      cases nb
     all_goals
      skip
      repeat' first
       | (with_reducible first | refine sA rfl ?_ | refine sI rfl rfl ?_ | refine sT rfl ?_ | refine sB rfl ?_)
       | (with_reducible refine Y8 ?_; first | refine Y4 ?_ | (refine ao1 rfl rfl fun K HK => ?_; (first | refine Y7 rfl ?_ | skip); simp only [go_sem, ↓reduceIte, Z1, Z3, Z2, Z4, Z5, Z7, Z8, Z9, Y9 l, Uf, Za7, Z6, hkk, hlo, hhi, hnn, hnr, hp2, Int.toNat_zero, Za]; (first | refine Y6 (fun hq => ?_) (fun hq => ?_) | (refine ⟨by omega, ?_⟩; refine Yg (by assumption) ?_) | skip) <;> (refine HK _ _ ?_; clear HK K)) | refine ao0 rfl rfl ?_ | (refine ao2 rfl rfl rfl Yb8 (hsh _) ?_; rintro _ _ ⟨rfl, rfl⟩) | (refine ao2 rfl rfl rfl ent_131 (hnm _) ?_; rintro _ _ ⟨rfl, rfl⟩) | (refine ao2 rfl rfl rfl Yb7 (hpd _ hcp _) ?_; rintro _ _ ⟨rfl, rfl⟩))
      all_goals first | (exfalso; omega) | refine ⟨.inr rfl, endV hl0 rfl rfl ⟨rfl, congrArg (fun b => D.v (.int .i64 b)) ?_⟩⟩
      all_goals (clear hl0; simp [Ya6]; repeat' split) <;> first | rfl | omega | (simp_all; done) | (simp_all; omega) | (simp_all; intros; omega)
   · skip
     repeat' first
      | (with_reducible first | refine sA rfl ?_ | refine sI rfl rfl ?_ | refine sT rfl ?_ | refine sB rfl ?_)
      | (with_reducible refine Y8 ?_; first | refine Y4 ?_ | (refine ao1 rfl rfl fun K HK => ?_; (first | refine Y7 rfl ?_ | skip); simp only [go_sem, ↓reduceIte, Z1, Z3, Z2, Z4, Z5, Z7, Z8, Z9, Y9 l, Z6, hkk, hlo, hhi, hnn, hnr, Za]; (first | refine Y6 (fun hq => ?_) (fun hq => ?_) | skip) <;> (refine HK _ _ ?_; clear HK K)) | refine ao0 rfl rfl ?_ | (refine ao2 rfl rfl rfl Yb8 (hsh _) ?_; rintro _ _ ⟨rfl, rfl⟩))
     all_goals first | (exfalso; omega) | refine ⟨.inr rfl, endV hl0 rfl rfl ⟨rfl, congrArg (fun b => D.v (.int .i64 b)) ?_⟩⟩
     all_goals (clear hl0; simp [Ya6]; repeat' split) <;> first | rfl | omega | (simp_all; done) | (simp_all; omega) | (simp_all; intros; omega)
 · obtain rfl := hnc h7
   cases sb
   · cases nb
     all_goals
      skip
      repeat' first
       | (with_reducible first | refine sA rfl ?_ | refine sI rfl rfl ?_ | refine sT rfl ?_ | refine sB rfl ?_)
       | (with_reducible refine Y8 ?_; first | refine Y4 ?_ | (refine ao1 rfl rfl fun K HK => ?_; (first | refine Y7 rfl ?_ | skip); simp only [go_sem, ↓reduceIte, Z1, Z3, Z2, Z4, Z5, Z7, Z8, Z9, Y9 l, Z6, hkk, hlo, hhi, hnn, hnr, h7, Za]; (first | refine Y6 (fun hq => ?_) (fun hq => ?_) | skip) <;> (refine HK _ _ ?_; clear HK K)) | refine ao0 rfl rfl ?_ | (refine ao2 rfl rfl rfl Yb8 (hsh _) ?_; rintro _ _ ⟨rfl, rfl⟩) | (refine ao2 rfl rfl rfl ent_131 (hnm _) ?_; rintro _ _ ⟨rfl, rfl⟩))
       | (exfalso; omega)
      all_goals first | (exfalso; omega) | refine ⟨.inr rfl, endV hl0 rfl rfl ⟨rfl, congrArg (fun b => D.v (.int .i64 b)) ?_⟩⟩
      all_goals (clear hl0; simp [Ya6]; repeat' split) <;> first | rfl | omega | (simp_all; done) | (simp_all; omega) | (simp_all; intros; omega)
   · skip
     repeat' first
      | (with_reducible first | refine sA rfl ?_ | refine sI rfl rfl ?_ | refine sT rfl ?_ | refine sB rfl ?_)
      | (with_reducible refine Y8 ?_; first | refine Y4 ?_ | (refine ao1 rfl rfl fun K HK => ?_; (first | refine Y7 rfl ?_ | skip); simp only [go_sem, ↓reduceIte, Z1, Z3, Z2, Z4, Z5, Z7, Z8, Z9, Y9 l, Z6, hkk, hlo, hhi, hnn, hnr, h7, Za]; (first | refine Y6 (fun hq => ?_) (fun hq => ?_) | skip) <;> (refine HK _ _ ?_; clear HK K)) | refine ao0 rfl rfl ?_ | (refine ao2 rfl rfl rfl Yb8 (hsh _) ?_; rintro _ _ ⟨rfl, rfl⟩))
      | (exfalso; omega)
     all_goals first | (exfalso; omega) | refine ⟨.inr rfl, endV hl0 rfl rfl ⟨rfl, congrArg (fun b => D.v (.int .i64 b)) ?_⟩⟩
     all_goals (clear hl0; simp [Ya6]; repeat' split) <;> first | rfl | omega | (simp_all; done) | (simp_all; omega) | (simp_all; intros; omega)
theorem rWalk_d : ∀ (f : Nat) (l : Lat) (n : Nat) (d : Int), f ≤ 6 → d = 7 - f → Sm l → n ≤ 64 → ∀ (h : List Ob), Does Z0 G 78 h [.agg (latX l), .v (.int .i64 d), .v (.int .i64 n)] (fun h' r => h' = h ∧ r = .tup [.v (.int .i64 (Zc9 f l n).1), .v (.int .i64 (Zc9 f l n).2)]) := by
 intro f
 induction f with
 | zero =>
   intro l n d hf hd hsm hn h
   refine Yf G hG (by rw [lowL, lowL, lowL, lowL, low]; exact ⟨Zd8 _ l, by simp [low], by simp [low], trivial⟩) (by simp [low, lowL]) ?_ h
   clear h
   obtain rfl : d = 7 := by omega
   have hnd := rNode_d G hG l hsm 7 n (by omega) hn
   simp only [Y9 l] at hnd
   have hne : Zd7 l 7 n ≠ 0 := by unfold Zd7; rw [if_pos (.inl (by omega))]; decide
   rw [Zc9]
   generalize Zd7 l 7 n = e at *
   refine Y5 Tryz.func78 rfl (Zb rfl) hG fun hl0 _ => ?_
   simp only [Tryz.ntmps78]
   repeat' first
    | (with_reducible first | refine sA rfl ?_ | refine sI rfl rfl ?_ | refine sT rfl ?_)
    | (with_reducible refine Y8 ?_; first | refine Y4 ?_ | (refine ao1 rfl rfl fun K HK => ?_; simp only [go_sem, ↓reduceIte, Z1, Z3, Z2, Z4, Z5, Z7, Z8, Z9, Y9 l, hne] <;> (refine HK _ _ ?_; clear HK K)) | (refine ao2 rfl rfl rfl ent_108 (hnd _) ?_; rintro _ _ ⟨rfl, rfl⟩))
   exact ⟨.inr rfl, endD (r := .tup [.v _, .v _]) hl0 rfl (by simp) (by simp) rfl (by simp [low, lowL]) ⟨rfl, rfl⟩⟩
 | succ f ih =>
   intro l n d hf hd hsm hn h
   refine Yf G hG (by rw [lowL, lowL, lowL, lowL, low]; exact ⟨Zd8 _ l, by simp [low], by simp [low], trivial⟩) (by simp [low, lowL]) ?_ h
   clear h
   obtain rfl : d = 6 - f := by omega
   have hnd := rNode_d G hG l hsm (6 - f) n (by omega) hn
   simp only [Y9 l] at hnd
   have hpl := hsm.parts
   rw [Zc9]
   have hlt64 := nodeR_lt (l := l) (d := 6 - f) (n := n)
   generalize Zd7 l (6 - f) n = e at *
   refine Y5 Tryz.func78 rfl (Zb rfl) hG fun hl0 _ => ?_
   simp only [Tryz.ntmps78]
   by_cases he : e = 0
   rotate_left
   · rw [if_pos he]
     repeat' first
      | (with_reducible first | refine sA rfl ?_ | refine sI rfl rfl ?_ | refine sT rfl ?_)
      | (with_reducible refine Y8 ?_; first | refine Y4 ?_ | (refine ao1 rfl rfl fun K HK => ?_; simp only [go_sem, ↓reduceIte, Z1, Z3, Z2, Z4, Z5, Z7, Z8, Z9, Y9 l, he] <;> (refine HK _ _ ?_; clear HK K)) | (refine ao2 rfl rfl rfl ent_108 (hnd _) ?_; rintro _ _ ⟨rfl, rfl⟩))
     exact ⟨.inr rfl, endD (r := .tup [.v _, .v _]) hl0 rfl (by simp) (by simp) rfl (by simp [low, lowL]) ⟨rfl, rfl⟩⟩
   rw [if_neg (fun q => q he)]
   have hn64 := hlt64 he
   subst he
   have wn : IntKind.i64.wrap ((n : Int) + 1) = ((n + 1 : Nat) : Int) := IntWalk.i64_in _ (by omega)
   have wd : IntKind.i64.wrap (6 - (f : Int) + 1) = 6 - (f : Int) + 1 := IntWalk.i64_in _ (by omega)
   repeat' first
    | (with_reducible first | refine sA rfl ?_ | refine sI rfl rfl ?_ | refine sT rfl ?_)
    | (with_reducible refine Y8 ?_; first | refine Y4 ?_ | (refine ao1 rfl rfl fun K HK => ?_; simp only [go_sem, ↓reduceIte, Z1, Z3, Z2, Z4, Z5, Z7, Z8, Z9, Y9 l, wn] <;> (refine HK _ _ ?_; clear HK K)) | (refine ao2 rfl rfl rfl ent_108 (hnd _) ?_; rintro _ _ ⟨rfl, rfl⟩))
   refine Yr (fun m e h' => ∃ k c : Nat, k ≤ l.parts.length ∧ m = l.parts.length - k ∧ c ≤ 64 ∧ walkG (Zc9 f) l.parts (n + 1) = walkG (Zc9 f) (l.parts.drop k) c ∧ h' = [.cells (latX l)] ∧ e 1 = .v (.int .i64 (6 - f)) ∧ e 3 = .ptr 0 0 ∧ e 9 = .v (.int .i64 c) ∧ e 10 = .v (.int .i64 k)) l.parts.length ⟨0, n + 1, Nat.zero_le _, rfl, by omega, rfl, (by rw [Y9]), rfl, rfl, rfl, rfl⟩ ?_
   clear hnd
   rintro m e h' ⟨k, c, hk, rfl, hc, ho, rfl, e1, e3, e9, e10⟩
   by_cases hlt : k < l.parts.length
   rotate_left
   · skip
     repeat' first
      | (with_reducible first | refine sA rfl ?_ | refine sI rfl rfl ?_ | refine sT rfl ?_ | refine sB rfl ?_)
      | (with_reducible refine Y8 ?_; first | refine Y4 ?_ | (refine ao1 rfl rfl fun K HK => ?_; simp only [go_sem, ↓reduceIte, Z1, Z3, Z2, Z4, Z5, Z7, Z8, Z9, Y9 l, e1, e3, e9, e10, Z6]; (first | refine Y6 (fun hq => ?_) (fun hq => ?_) | (refine ⟨by omega, by omega, ?_⟩; intro row hrow; obtain ⟨x, hx, rfl⟩ := Yn hrow; clear hrow) | skip) <;> (refine HK _ _ ?_; clear HK K)))
      | (exfalso; omega)
     exact ⟨.inr rfl, endD (r := .tup [.v _, .v _]) hl0 rfl (by simp) (by simp) rfl (by simp [low, lowL]) ⟨rfl, by rw [ho, List.drop_eq_nil_of_le (by omega)]; rfl⟩⟩
   have hx : l.parts[k]? = some l.parts[k] := Zg hlt
   have wk : IntKind.i64.wrap ((k : Int) + 1) = (k : Int) + 1 := IntWalk.i64_in _ (by omega)
   rw [Zf hlt, walkG] at ho
   have hr := ih l.parts[k] c (6 - (f : Int) + 1) (by omega) (by omega) (hsm.part _ (List.getElem_mem hlt)) hc
   have hle := walkF_le (f := f) (l := l.parts[k]) (by omega) hc
   generalize l.parts[k] = x at hx ho hr hle
   generalize Zc9 f x c = y at *
   obtain ⟨y1, y2⟩ := y
   simp only at ho hr hle
   by_cases hy : y2 = 0
   · rw [if_neg (fun q => q hy)] at ho
     have hle := hle hy
     repeat' first
      | (with_reducible first | refine sA rfl ?_ | refine sI rfl rfl ?_ | refine sT rfl ?_ | refine sB rfl ?_)
      | (with_reducible refine Y8 ?_; first | refine Y4 ?_ | (refine ao1 rfl rfl fun K HK => ?_; simp only [go_sem, ↓reduceIte, Z1, Z3, Z2, Z4, Z5, Z7, Z8, Z9, Y9 l, Uf, Za7, e1, e3, e9, e10, Z6, Zc, wk, wd, hy]; (first | refine Y6 (fun hq => ?_) (fun hq => ?_) | (refine ⟨by omega, by omega, ?_⟩; refine Yg (by assumption) ?_) | skip) <;> (refine HK _ _ ?_; clear HK K)) | (refine ao2 rfl rfl rfl ent_78 (hr _) ?_; rintro _ _ ⟨rfl, rfl⟩))
      | (exfalso; omega)
     exact ⟨rfl, l.parts.length - (k + 1), by omega, k + 1, y1, hlt, rfl, hle, ho, by rw [Y9 l], e1, e3, rfl, rfl⟩
   · rw [if_pos hy] at ho
     repeat' first
      | (with_reducible first | refine sA rfl ?_ | refine sI rfl rfl ?_ | refine sT rfl ?_ | refine sB rfl ?_)
      | (with_reducible refine Y8 ?_; first | refine Y4 ?_ | (refine ao1 rfl rfl fun K HK => ?_; simp only [go_sem, ↓reduceIte, Z1, Z3, Z2, Z4, Z5, Z7, Z8, Z9, Y9 l, Uf, Za7, e1, e3, e9, e10, Z6, Zc, wk, wd, hy]; (first | refine Y6 (fun hq => ?_) (fun hq => ?_) | (refine ⟨by omega, by omega, ?_⟩; refine Yg (by assumption) ?_) | skip) <;> (refine HK _ _ ?_; clear HK K)) | (refine ao2 rfl rfl rfl ent_78 (hr _) ?_; rintro _ _ ⟨rfl, rfl⟩))
      | (exfalso; omega)
     exact ⟨.inr rfl, endD (r := .tup [.v _, .v _]) hl0 rfl (by simp) (by simp) rfl (by simp [low, lowL]) ⟨rfl, by rw [ho]⟩⟩
theorem rCheck_d (l : Lat) (hsm : Sm l) (h : List Ob) : Does Z0 G 42 h [.agg (latX l)] (fun h' r => h' = h ∧ r = .v (.int .i64 (chkE l))) := by
 refine Yf G hG (Zg4 _ l) (by rw [low]; trivial) ?_ h
 clear h
 have hr := rWalk_d G hG 6 l 0 1 (by omega) (by omega) hsm (by omega)
 simp only [Y9 l] at hr
 rw [← walkF_chk]
 generalize Zc9 6 l 0 = y at *
 obtain ⟨y1, y2⟩ := y
 refine Y5 Tryz.func42 rfl (Zb rfl) hG fun hl0 _ => ?_
 simp only [Tryz.ntmps42]
 repeat' first
  | (with_reducible first | refine sA rfl ?_ | refine sT rfl ?_)
  | (with_reducible refine Y8 ?_; first | refine Y4 ?_ | (refine ao1 rfl rfl fun K HK => ?_; simp only [go_sem, ↓reduceIte, Z1, Z3, Z2, Z4, Z5, Z7, Z8, Z9, Y9 l] <;> (refine HK _ _ ?_; clear HK K)) | (refine ao2 rfl rfl rfl ent_78 (hr _) ?_; rintro _ _ ⟨rfl, rfl⟩))
 exact ⟨.inr rfl, endV hl0 rfl rfl ⟨rfl, rfl⟩⟩
end
section
attribute [local irreducible] on aOp
attribute [local go_sem] decide_true decide_false Ze Zd
attribute [local simp] byD_len
def idxS (a : ByteArray) : List ByteArray → Nat → Int
 | [], _ => -1
 | x :: t, k => if a = x then k else idxS a t (k + 1)
variable (G : Nat → D) (hG : ∀ g, low 0 (G g))
include hG
end
section
attribute [local irreducible] on aOp
attribute [local go_sem] decide_true decide_false Ze Zd
attribute [local simp] byD_len
variable (G : Nat → D) (hG : ∀ g, low 0 (G g))
include hG
end
section
attribute [local irreducible] on aOp
attribute [local go_sem] decide_true decide_false Ze Zd
attribute [local simp] byD_len
variable (G : Nat → D) (hG : ∀ g, low 0 (G g))
include hG
end
section
attribute [local irreducible] on aOp
attribute [local go_sem] decide_true decide_false Ze Zd
attribute [local simp] byD_len
def ctr (n : Nat) : Ob := .cells [.v (.int .i64 n)]
def cM (h : List Ob) (i n : Nat) (T : List Ob) : List Ob := h.set i (ctr n) ++ T
section
variable {h T l : List Ob} {i n m : Nat} {y z y' : Ob}
end
variable (G : Nat → D) (hG : ∀ g, low 0 (G g))
include hG
end
section
attribute [local irreducible] on aOp
attribute [local go_sem] decide_true decide_false Ze Zd
attribute [local simp] byD_len
structure GenL where
 mode : Int
 replicas : Int
 founders : List Int
 clients : Int
 admins : List Int
 objects : List (ByteArray × Lat)
def gobX (o : ByteArray × Lat) : List D := .v (.string o.1) :: latX o.2
theorem Wd (o : ByteArray × Lat) : gobX o = [.v (.string o.1), .v (.int .i64 o.2.kind), .v (.int .i64 o.2.lo), .v (.int .i64 o.2.hi), .sl 1 (o.2.names.map strX), .sl 6 (o.2.parts.map latX), .sl 2 (o.2.rules.map Zy6)] := by rw [gobX, Y9]
def gnX (g : GenL) : List D := [.v (.int .i64 g.mode), .v (.int .i64 g.replicas), .sl 1 (g.founders.map intX), .v (.int .i64 g.clients), .sl 1 (g.admins.map intX), .sl 7 (g.objects.map gobX)]
theorem Xd (g : GenL) : gnX g = [.v (.int .i64 g.mode), .v (.int .i64 g.replicas), .sl 1 (g.founders.map intX), .v (.int .i64 g.clients), .sl 1 (g.admins.map intX), .sl 7 (g.objects.map gobX)] := rfl
theorem low_gob (m : Nat) (o : ByteArray × Lat) : lowL m (gobX o) := by rw [gobX, lowL]; exact ⟨by rw [low]; trivial, Zd8 m o.2⟩
theorem low_gn (m : Nat) (g : GenL) : lowL m (gnX g) := by
 have h1 : ∀ l : List Int, low m (.sl 1 (l.map intX)) := fun l => Zj6 m l fun _ _ => by simp [intX, lowL, low]
 have h2 : low m (.sl 7 (g.objects.map gobX)) := Zj6 m _ fun o _ => low_gob m o
 rw [gnX]; simp only [lowL]
 exact ⟨by rw [low]; trivial, by rw [low]; trivial, h1 _, by rw [low]; trivial, h1 _, h2, trivial⟩
structure GSm (g : GenL) : Prop where
 fo : g.founders.length ≤ 9223372036854775807
 ad : g.admins.length ≤ 9223372036854775807
 ob : g.objects.length ≤ 9223372036854775807
 na : ∀ o ∈ g.objects, o.1.size ≤ 9223372036854775807
 la : ∀ o ∈ g.objects, Sm o.2
def risP (below : Int) : Int → List Int → Bool
 | _, [] => true
 | p, x :: t => decide (0 ≤ x ∧ x < below ∧ p < x) && risP below x t
def Zu3 : List (ByteArray × Lat) → Int
 | [] => 0
 | o :: t => if chkE o.2 ≠ 0 then chkE o.2 else Zu3 t
def Zr8 (g : GenL) : Prop := (g.mode ≠ 1 ∧ g.mode ≠ 2) ∨ g.replicas < 1 ∨ 12 < g.replicas ∨ g.clients < 1 ∨ 6 < g.clients ∨ g.founders.length = 0 ∨ risP g.replicas (-1) g.founders = false ∨ risP g.clients (-1) g.admins = false
instance (g : GenL) : Decidable (Zr8 g) := inferInstanceAs (Decidable (_ ∨ _))
def genE (g : GenL) : Int := if Zr8 g then 1 else if 64 < g.objects.length then 6 else if Xy (g.objects.map (·.1)) = false then 3 else Zu3 g.objects
theorem genE_ok {g : GenL} (h : genE g = 0) : ¬ Zr8 g ∧ g.objects.length ≤ 64 ∧ Xy (g.objects.map (·.1)) = true ∧ Zu3 g.objects = 0 := by
 unfold genE at h
 by_cases h1 : Zr8 g
 · rw [if_pos h1] at h; exact absurd h (by decide)
 rw [if_neg h1] at h
 by_cases h2 : 64 < g.objects.length
 · rw [if_pos h2] at h; exact absurd h (by decide)
 rw [if_neg h2] at h
 cases h3 : Xy (g.objects.map (·.1))
 · rw [if_pos h3] at h; exact absurd h (by decide)
 · rw [if_neg (by rw [h3]; decide)] at h
   exact ⟨h1, by omega, rfl, h⟩
variable (G : Nat → D) (hG : ∀ g, low 0 (G g))
include hG
theorem rrising_d (l : List Int) (below : Int) (hl : l.length ≤ 9223372036854775807) (h : List Ob) : Does Z0 G 40 h [.sl 1 (l.map intX), .v (.int .i64 below)] (fun h' r => h' = h ∧ r = .v (.bool (risP below (-1) l))) := by
 refine Y5 Tryz.func40 rfl (Zb rfl) hG fun hl0 _ => ?_
 simp only [Tryz.ntmps40]
 repeat' first
  | (with_reducible first | refine sA rfl ?_ | refine sT rfl ?_)
  | (with_reducible refine Y8 ?_; first | refine Y4 ?_ | (refine ao1 rfl rfl fun K HK => ?_; simp only [go_sem, ↓reduceIte, Z1, Z3, Z2, Z4, Z5, Z7, Z8, Z9, Z6] <;> (refine HK _ _ ?_; clear HK K)))
 refine Yr (fun m e h' => ∃ (k : Nat) (p : Int), k ≤ l.length ∧ m = l.length - k ∧ risP below (-1) l = risP below p (l.drop k) ∧ (k = 0 ∧ p = -1 ∨ ∃ j, k = j + 1 ∧ l[j]? = some p) ∧ h' = h ∧ e 0 = .sl 1 (l.map intX) ∧ e 1 = .v (.int .i64 below) ∧ e 5 = .v (.int .i64 k)) l.length ⟨0, -1, Nat.zero_le _, rfl, rfl, .inl ⟨rfl, rfl⟩, rfl, rfl, rfl, rfl⟩ ?_
 rintro m e h' ⟨k, p, hk, rfl, ho, hp, rfl, e0, e1, e5⟩
 by_cases hlt : k < l.length
 · have hx : l[k]? = some l[k] := Zg hlt
   have hd : l.drop k = l[k] :: l.drop (k + 1) := Zf hlt
   generalize l[k] = x at hx hd
   have wk : IntKind.i64.wrap ((k : Int) + 1) = ((k + 1 : Nat) : Int) := IntWalk.i64_in _ (by omega)
   rw [hd, risP] at ho
   rcases hp with ⟨rfl, rfl⟩ | ⟨j, rfl, hy⟩
   · skip
     repeat' first
      | (with_reducible first | refine sA rfl ?_ | refine sI rfl rfl ?_ | refine sT rfl ?_ | refine sB rfl ?_)
      | (with_reducible refine Xe ?_; first | refine Ya mixd (by kernel_rfl) ?_)
      | (with_reducible refine Y8 ?_; first | refine Y4 ?_ | (refine ao1 rfl rfl fun K HK => ?_; (first | refine Y7 rfl ?_ | skip); simp only [go_sem, ↓reduceIte, Z1, Z3, Z2, Z4, Z5, Z7, Z8, Z9, e0, e1, e5, Z6, Ze0, Zc, wk, Za]; (first | refine Y6 (fun hq => ?_) (fun hq => ?_) | (refine ⟨by omega, by omega, ?_⟩; refine Yg (by assumption) ?_) | (refine ⟨by omega, by omega, ?_⟩; intro row hrow; obtain ⟨x, hx, rfl⟩ := Yn hrow; clear hrow) | skip) <;> (refine HK _ _ ?_; clear HK K)))
      | (with_reducible refine Ws ?_; first | (refine aq1 rfl rfl fun K HK => ?_; (first | refine Y7 rfl ?_ | skip); simp only [go_sem, ↓reduceIte, Z1, Z3, Z2, Z4, Z5, Z7, Z8, Z9, e0, e1, e5, Z6, Ze0, Zc, wk, Za]; (first | refine Y6 (fun hq => ?_) (fun hq => ?_) | (refine ⟨by omega, by omega, ?_⟩; refine Yg (by assumption) ?_) | (refine ⟨by omega, by omega, ?_⟩; intro row hrow; obtain ⟨x, hx, rfl⟩ := Yn hrow; clear hrow) | skip) <;> (refine HK _ _ rfl ?_; clear HK K)) | refine aq0 rfl rfl ?_ | refine X2 ?_)
      | (exfalso; omega)
     all_goals first
     | (exfalso; omega)
     | exact ⟨.inr rfl, endD (r := .v (.bool false)) hl0 rfl (by simp) (by simp) rfl (by rw [low]; trivial) ⟨rfl, by rw [ho, decide_eq_false (by omega)]; rfl⟩⟩
     | exact ⟨rfl, l.length - 1, by omega, 1, x, hlt, rfl, by rw [ho, decide_eq_true (by omega)]; rfl, .inr ⟨0, rfl, hx⟩, rfl, e0, e1, rfl⟩
   · have wm : IntKind.i64.wrap (((j + 1 : Nat) : Int) - 1) = (j : Int) := by rw [show ((j + 1 : Nat) : Int) - 1 = (j : Int) by omega]; exact IntWalk.i64_in _ (by omega)
     have gp : decide ((0 : Int) < ((j + 1 : Nat) : Int)) = true := decide_eq_true (by omega)
     repeat' first
      | (with_reducible first | refine sA rfl ?_ | refine sI rfl rfl ?_ | refine sT rfl ?_ | refine sB rfl ?_)
      | (with_reducible refine Xe ?_; first | refine Ya mixd (by kernel_rfl) ?_)
      | (with_reducible refine Y8 ?_; first | refine Y4 ?_ | (refine ao1 rfl rfl fun K HK => ?_; (first | refine Y7 rfl ?_ | skip); simp only [go_sem, ↓reduceIte, Z1, Z3, Z2, Z4, Z5, Z7, Z8, Z9, e0, e1, e5, Z6, Ze0, Zc, wk, wm, gp, Za]; (first | refine Y6 (fun hq => ?_) (fun hq => ?_) | (refine ⟨by omega, by omega, ?_⟩; refine Yg (by assumption) ?_) | skip) <;> (refine HK _ _ ?_; clear HK K)))
      | (with_reducible refine Ws ?_; first | (refine aq1 rfl rfl fun K HK => ?_; (first | refine Y7 rfl ?_ | skip); simp only [go_sem, ↓reduceIte, Z1, Z3, Z2, Z4, Z5, Z7, Z8, Z9, e0, e1, e5, Z6, Ze0, Zc, wk, wm, gp, Za]; (first | refine Y6 (fun hq => ?_) (fun hq => ?_) | (refine ⟨by omega, by omega, ?_⟩; refine Yg (by assumption) ?_) | skip) <;> (refine HK _ _ rfl ?_; clear HK K)) | refine aq0 rfl rfl ?_ | refine X2 ?_)
      | (exfalso; omega)
     all_goals first
     | (exfalso; omega)
     | exact ⟨.inr rfl, endD (r := .v (.bool false)) hl0 rfl (by simp) (by simp) rfl (by rw [low]; trivial) ⟨rfl, by rw [ho, decide_eq_false (by omega)]; rfl⟩⟩
     | exact ⟨rfl, l.length - (j + 2), by omega, j + 2, x, hlt, rfl, by rw [ho, decide_eq_true (by omega)]; rfl, .inr ⟨j + 1, rfl, hx⟩, rfl, e0, e1, rfl⟩
 · skip
   repeat' first
    | (with_reducible first | refine sA rfl ?_ | refine sI rfl rfl ?_ | refine sT rfl ?_ | refine sB rfl ?_)
    | (with_reducible refine Xe ?_; first | refine Ya mixd (by kernel_rfl) ?_)
    | (with_reducible refine Y8 ?_; first | refine Y4 ?_ | (refine ao1 rfl rfl fun K HK => ?_; simp only [go_sem, ↓reduceIte, Z1, Z3, Z2, Z4, Z5, Z7, Z8, Z9, e0, e1, e5, Z6]; (first | refine Y6 (fun hq => ?_) (fun hq => ?_) | (refine ⟨by omega, by omega, ?_⟩; intro row hrow; obtain ⟨x, hx, rfl⟩ := Yn hrow; clear hrow) | skip) <;> (refine HK _ _ ?_; clear HK K)))
    | (with_reducible refine Ws ?_; first | (refine aq1 rfl rfl fun K HK => ?_; simp only [go_sem, ↓reduceIte, Z1, Z3, Z2, Z4, Z5, Z7, Z8, Z9, e0, e1, e5, Z6]; (first | refine Y6 (fun hq => ?_) (fun hq => ?_) | (refine ⟨by omega, by omega, ?_⟩; intro row hrow; obtain ⟨x, hx, rfl⟩ := Yn hrow; clear hrow) | skip) <;> (refine HK _ _ rfl ?_; clear HK K)))
    | (exfalso; omega)
   exact ⟨by simp, endV hl0 rfl rfl ⟨rfl, by rw [ho, List.drop_eq_nil_of_le (by omega)]; rfl⟩⟩
end
section
theorem Zu9 {α : Type} {w : World} {sz : Nat} {R : α → List Value → Prop} {v : Value} {l : List α} (h : SlRd w sz R v l) : ∀ x ∈ l, ∃ cs, R x cs := fun x hx => by
 obtain ⟨i, hi, rfl⟩ := List.getElem_of_mem hx
 obtain ⟨_, _, _, _, _, h3⟩ := h
 obtain ⟨_, _, cs, _, _, _, hr⟩ := h3 i hi
 exact ⟨cs, hr⟩
theorem sl_len {α : Type} {w : World} {sz : Nat} {R : α → List Value → Prop} {v : Value} {l : List α} (h : SlRd w sz R v l) : l.length ≤ 9223372036854775807 := by
 obtain ⟨_, cap, _, h2, h3, _⟩ := h
 have : maxLen = 9223372036854775807 := rfl
 omega
section
variable {H : Type} {enc : TypeId × Value → H} {w : World} {base : Nat} {spare : Nat → Bool} {held : Bool} {fuel : Nat} {cs : List Value} {x : DataW H × List MemPlace}
theorem seven {cs : List Value} (h : cs.length = 7) : ∃ a t, cs = a :: t ∧ t.length = 6 := by
 match cs, h with | a :: t, h => exact ⟨a, t, rfl, by simpa using h⟩
theorem c_int64 : Z0.cellsOf 2 = 1 := by kernel_rfl
theorem c_ints : Z0.cellsOf 22 = 1 := by kernel_rfl
theorem c_strs : Z0.cellsOf 27 = 1 := by kernel_rfl
theorem c_lats : Z0.cellsOf 28 = 1 := by kernel_rfl
theorem c_rules : Z0.cellsOf 29 = 1 := by kernel_rfl
theorem c_lat : Z0.cellsOf 31 = 6 := by kernel_rfl
theorem c_rule : Z0.cellsOf 157 = 2 := by kernel_rfl
theorem c_objs : Z0.cellsOf 23 = 1 := by kernel_rfl
theorem c_obj : Z0.cellsOf 74 = 7 := by kernel_rfl
theorem c_gen : Z0.cellsOf 25 = 6 := by kernel_rfl
theorem open_strs (h : DataW.trod enc Z0 w base spare held fuel 27 cs = some x) : ∃ (v : Value) (l : List ByteArray), cs = [v] ∧ rd [] [] w (.sl 1 (l.map strX)) v ∧ l.length ≤ 9223372036854775807 ∧ ∀ s ∈ l, s.size ≤ 9223372036854775807 := by
 obtain ⟨v, l, e, hs⟩ := Zj5 (R := fun (s : ByteArray) cs => cs = [.string s] ∧ s.size ≤ maxLen) Tryz.underlying27 Yc5 (by decide) (fun n _ cs x h => by
   obtain ⟨s, rfl, _, hs⟩ := DataW.trod_string Tryz.underlying9 h
   exact ⟨s, rfl, hs⟩) h
 refine ⟨v, l, e, Zb6 hs fun x _ cs hc => ?_, sl_len hs, fun s hx => ?_⟩
 · obtain ⟨rfl, _⟩ := hc
   exact ⟨Zd3.2 (rd_v.2 rfl), rfl⟩
 · obtain ⟨_, _, hz⟩ := Zu9 hs s hx
   exact hz
theorem open_ints (h : DataW.trod enc Z0 w base spare held fuel 22 cs = some x) : ∃ v, ∃ l : List Int, cs = [v] ∧ rd [] [] w (.sl 1 (l.map intX)) v ∧ l.length ≤ 9223372036854775807 ∧ ∀ n ∈ l, I64 n := by
 obtain ⟨v, l, e, hs⟩ := Zj5 (R := fun (n : Int) cs => cs = [.int .i64 n] ∧ I64 n) Tryz.underlying22 c_int (by decide) (fun n _ cs x h => by
   obtain ⟨p, hp, _, wp⟩ := DataW.trod_int Tryz.underlying3 h
   exact ⟨p, hp, Zr6 wp⟩) h
 refine ⟨v, l, e, Zb6 hs fun x _ cs hc => ?_, sl_len hs, fun s hx => ?_⟩
 · obtain ⟨rfl, _⟩ := hc
   exact ⟨Zd3.2 (rd_v.2 rfl), rfl⟩
 · obtain ⟨_, _, hz⟩ := Zu9 hs s hx
   exact hz
theorem open_rule (h : DataW.trod enc Z0 w base spare held fuel 157 cs = some x) : ∃ a : Rl, rdL [] [] w (Zy6 a) cs ∧ a.cond.length ≤ 9223372036854775807 ∧ ∀ s ∈ a.cond, s.size ≤ 9223372036854775807 := by
 obtain ⟨xs, n, _, _, hl, hn, hf⟩ := DataW.trod_struct Tryz.underlying157 h
 rw [c_rule] at hl
 obtain ⟨a, b, rfl⟩ := two_ hl
 obtain ⟨y0, e0⟩ := Wj (l := xs) (i := 0) (by rw [hn]; decide)
 obtain ⟨y1, e1⟩ := Wj (l := xs) (i := 1) (by rw [hn]; decide)
 have h0 : DataW.trod enc Z0 w base spare held n 27 [a] = some y0 := fld hf 0 27 0 1 rfl c_strs e0
 have h1 : DataW.trod enc Z0 w base spare held n 9 [b] = some y1 := fld hf 1 9 1 1 rfl Yc5 e1
 obtain ⟨v, l, hv, hs, hll, hz⟩ := open_strs h0
 obtain ⟨s, hq, _, ws⟩ := DataW.trod_string Tryz.underlying9 h1
 obtain ⟨rfl⟩ : a = v := by simpa using hv
 obtain ⟨rfl⟩ : b = .string s := by simpa using hq
 exact ⟨⟨l, s⟩, Xp.2 ⟨hs, Zd3.2 (rd_v.2 rfl)⟩, hll, hz⟩
theorem open_lat : ∀ (m : Nat) (fuel : Nat) (cs : List Value) (x : DataW H × List MemPlace), fuel < m → DataW.trod enc Z0 w base spare held fuel 31 cs = some x → ∃ l, rdL [] [] w (latX l) cs ∧ Sm l
 | 0, _, _, _, hm, _ => by omega
 | m + 1, fuel, cs, x, hm, h => by
   obtain ⟨xs, n, hfu, _, hl, hn, hf⟩ := DataW.trod_struct Tryz.underlying31 h
   rw [c_lat] at hl
   obtain ⟨a, b, c, d, e, f, rfl⟩ := six hl
   obtain ⟨y0, e0⟩ := Wj (l := xs) (i := 0) (by rw [hn]; decide)
   obtain ⟨y1, e1⟩ := Wj (l := xs) (i := 1) (by rw [hn]; decide)
   obtain ⟨y2, e2⟩ := Wj (l := xs) (i := 2) (by rw [hn]; decide)
   obtain ⟨y3, e3⟩ := Wj (l := xs) (i := 3) (by rw [hn]; decide)
   obtain ⟨y4, e4⟩ := Wj (l := xs) (i := 4) (by rw [hn]; decide)
   obtain ⟨y5, e5⟩ := Wj (l := xs) (i := 5) (by rw [hn]; decide)
   have h0 : DataW.trod enc Z0 w base spare held n 3 [a] = some y0 := fld hf 0 3 0 1 rfl c_int e0
   have h1 : DataW.trod enc Z0 w base spare held n 2 [b] = some y1 := fld hf 1 2 1 1 rfl c_int64 e1
   have h2 : DataW.trod enc Z0 w base spare held n 2 [c] = some y2 := fld hf 2 2 2 1 rfl c_int64 e2
   have h3 : DataW.trod enc Z0 w base spare held n 27 [d] = some y3 := fld hf 3 27 3 1 rfl c_strs e3
   have h4 : DataW.trod enc Z0 w base spare held n 28 [e] = some y4 := fld hf 4 28 4 1 rfl c_lats e4
   have h5 : DataW.trod enc Z0 w base spare held n 29 [f] = some y5 := fld hf 5 29 5 1 rfl c_rules e5
   obtain ⟨p, hp, _, wp⟩ := DataW.trod_int Tryz.underlying3 h0
   obtain ⟨q, hq, _, wq⟩ := DataW.trod_int Tryz.underlying2 h1
   obtain ⟨r, hr, _, wr⟩ := DataW.trod_int Tryz.underlying2 h2
   obtain ⟨v1, l1, hv1, hs1, hl1, hz1⟩ := open_strs h3
   obtain ⟨v2, l2, hv2, hs2⟩ := Zj5 (R := fun l cs => rdL [] [] w (latX l) cs ∧ Sm l) Tryz.underlying28 c_lat (by decide) (fun k hk cs x hx => open_lat m k cs x (by omega) hx) h4
   obtain ⟨v3, l3, hv3, hs3⟩ := Zj5 (R := fun (a : Rl) cs => rdL [] [] w (Zy6 a) cs ∧ a.cond.length ≤ 9223372036854775807 ∧ ∀ s ∈ a.cond, s.size ≤ 9223372036854775807) Tryz.underlying29 c_rule (by decide) (fun _ _ _ _ h => open_rule h) h5
   obtain ⟨rfl⟩ : a = .int .i64 p := by simpa using hp
   obtain ⟨rfl⟩ : b = .int .i64 q := by simpa using hq
   obtain ⟨rfl⟩ : c = .int .i64 r := by simpa using hr
   obtain ⟨rfl⟩ : d = v1 := by simpa using hv1
   obtain ⟨rfl⟩ : e = v2 := by simpa using hv2
   obtain ⟨rfl⟩ : f = v3 := by simpa using hv3
   refine ⟨.mk p q r l1 l2 l3, ?_, .mk _ hl1 (sl_len hs2) (sl_len hs3) hz1 (fun r hr => ?_) (fun l hl => ?_)⟩
   · rw [Y9]
     exact Xp.2 ⟨rd_v.2 rfl, Xp.2 ⟨rd_v.2 rfl, Xp.2 ⟨rd_v.2 rfl, Xp.2 ⟨hs1, Xp.2 ⟨Zb6 hs2 fun x _ cs hc => ⟨hc.1, Uf x⟩, Zd3.2 (Zb6 hs3 fun x _ cs hc => ⟨hc.1, rfl⟩)⟩⟩⟩⟩⟩
   · obtain ⟨_, h⟩ := Zu9 hs3 r hr; exact h.2
   · obtain ⟨_, h⟩ := Zu9 hs2 l hl; exact h.2
theorem open_gob (h : DataW.trod enc Z0 w base spare held fuel 74 cs = some x) : ∃ o : ByteArray × Lat, rdL [] [] w (gobX o) cs ∧ o.1.size ≤ 9223372036854775807 ∧ Sm o.2 := by
 obtain ⟨xs, n, _, _, hl, hn, hf⟩ := DataW.trod_struct Tryz.underlying74 h
 rw [c_obj] at hl
 obtain ⟨a, t, rfl, ht⟩ := seven hl
 obtain ⟨y0, e0⟩ := Wj (l := xs) (i := 0) (by rw [hn]; decide)
 obtain ⟨y1, e1⟩ := Wj (l := xs) (i := 1) (by rw [hn]; decide)
 have h0 : DataW.trod enc Z0 w base spare held n 9 [a] = some y0 := fld hf 0 9 0 1 rfl Yc5 e0
 have h1 : DataW.trod enc Z0 w base spare held n 31 (((a :: t).drop 1).take 6) = some y1 := fld hf 1 31 1 6 rfl c_lat e1
 rw [List.drop_succ_cons, List.drop_zero, List.take_of_length_le (by omega)] at h1
 obtain ⟨s, hq, _, ws⟩ := DataW.trod_string Tryz.underlying9 h0
 obtain ⟨l, hr, hsm⟩ := open_lat _ n _ _ (Nat.lt_succ_self _) h1
 obtain ⟨rfl⟩ : a = .string s := by simpa using hq
 exact ⟨(s, l), Xp.2 ⟨rd_v.2 rfl, hr⟩, ws, hsm⟩
theorem open_gen (h : DataW.trod enc Z0 w base spare held fuel 25 cs = some x) : ∃ g : GenL, rdL [] [] w (gnX g) cs ∧ GSm g ∧ I64 g.clients ∧ I64 g.replicas ∧ I64 g.mode := by
 obtain ⟨xs, n, _, _, hl, hn, hf⟩ := DataW.trod_struct Tryz.underlying25 h
 rw [c_gen] at hl
 obtain ⟨a, b, c, d, e, f, rfl⟩ := six hl
 obtain ⟨y0, e0⟩ := Wj (l := xs) (i := 0) (by rw [hn]; decide)
 obtain ⟨y1, e1⟩ := Wj (l := xs) (i := 1) (by rw [hn]; decide)
 obtain ⟨y2, e2⟩ := Wj (l := xs) (i := 2) (by rw [hn]; decide)
 obtain ⟨y3, e3⟩ := Wj (l := xs) (i := 3) (by rw [hn]; decide)
 obtain ⟨y4, e4⟩ := Wj (l := xs) (i := 4) (by rw [hn]; decide)
 obtain ⟨y5, e5⟩ := Wj (l := xs) (i := 5) (by rw [hn]; decide)
 have h0 : DataW.trod enc Z0 w base spare held n 3 [a] = some y0 := fld hf 0 3 0 1 rfl c_int e0
 have h1 : DataW.trod enc Z0 w base spare held n 3 [b] = some y1 := fld hf 1 3 1 1 rfl c_int e1
 have h2 : DataW.trod enc Z0 w base spare held n 22 [c] = some y2 := fld hf 2 22 2 1 rfl c_ints e2
 have h3 : DataW.trod enc Z0 w base spare held n 3 [d] = some y3 := fld hf 3 3 3 1 rfl c_int e3
 have h4 : DataW.trod enc Z0 w base spare held n 22 [e] = some y4 := fld hf 4 22 4 1 rfl c_ints e4
 have h5 : DataW.trod enc Z0 w base spare held n 23 [f] = some y5 := fld hf 5 23 5 1 rfl c_objs e5
 obtain ⟨p, hp, _, wp⟩ := DataW.trod_int Tryz.underlying3 h0
 obtain ⟨q, hq, _, wq⟩ := DataW.trod_int Tryz.underlying3 h1
 obtain ⟨r, hr, _, wr⟩ := DataW.trod_int Tryz.underlying3 h3
 obtain ⟨v1, l1, hv1, hs1, hl1, _⟩ := open_ints h2
 obtain ⟨v2, l2, hv2, hs2, hl2, _⟩ := open_ints h4
 obtain ⟨v3, l3, hv3, hs3⟩ := Zj5 (R := fun (o : ByteArray × Lat) cs => rdL [] [] w (gobX o) cs ∧ o.1.size ≤ 9223372036854775807 ∧ Sm o.2) Tryz.underlying23 c_obj (by decide) (fun _ _ _ _ h => open_gob h) h5
 obtain ⟨rfl⟩ : a = .int .i64 p := by simpa using hp
 obtain ⟨rfl⟩ : b = .int .i64 q := by simpa using hq
 obtain ⟨rfl⟩ : d = .int .i64 r := by simpa using hr
 obtain ⟨rfl⟩ : c = v1 := by simpa using hv1
 obtain ⟨rfl⟩ : e = v2 := by simpa using hv2
 obtain ⟨rfl⟩ : f = v3 := by simpa using hv3
 refine ⟨⟨p, q, l1, r, l2, l3⟩, ?_, ⟨hl1, hl2, sl_len hs3, fun o ho => ?_, fun o ho => ?_⟩, Zr6 wr, Zr6 wq, Zr6 wp⟩
 · rw [Xd]
   exact Xp.2 ⟨rd_v.2 rfl, Xp.2 ⟨rd_v.2 rfl, Xp.2 ⟨hs1, Xp.2 ⟨rd_v.2 rfl, Xp.2 ⟨hs2, Zd3.2 (Zb6 hs3 fun x _ cs hc => ⟨hc.1, by rw [Wd]; rfl⟩)⟩⟩⟩⟩⟩
 · obtain ⟨_, h⟩ := Zu9 hs3 o ho; exact h.2.1
 · obtain ⟨_, h⟩ := Zu9 hs3 o ho; exact h.2.2
end
theorem arg_gen {H : Type} {enc : TypeId × Value → H} {W : World} {v : Value} {d : DataW H} {p : List MemPlace} (h : DataW.Trod enc Z0 W 0 (fun _ => true) true 25 v d p) (hv : ∃ cs, v = .agg cs) : ∃ g : GenL, rd [] [] W (.agg (gnX g)) v ∧ GSm g ∧ I64 g.clients ∧ I64 g.replicas ∧ I64 g.mode := by
 obtain ⟨cs, rfl⟩ := hv
 obtain ⟨fuel, hf⟩ := h
 obtain ⟨g, h1, h2⟩ := open_gen hf
 exact ⟨g, by rw [rd]; exact ⟨cs, rfl, h1⟩, h2⟩
end
end Go.Proofs.YtgkjcmglcnhpaaaGreatDoor
