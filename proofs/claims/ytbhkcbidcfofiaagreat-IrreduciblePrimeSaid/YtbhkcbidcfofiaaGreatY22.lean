/-
  What the statements of the chapter share, part 22: VA6.
-/
import Derived.Test.YtbhkcbidcfofiaaGreatY14
import Derived.Test.YtbhkcbidcfofiaaGreatY21
set_option linter.unusedVariables false
set_option linter.unusedSimpArgs false
set_option maxRecDepth 100000
set_option maxHeartbeats 8000000
namespace Go.Proofs.YtbhkcbidcfofiaaGreat
open _root_.Bool renaming false_and → Z0, true_and → Z2
open _root_.Decidable renaming byContradiction → Z5
open _root_.List renaming drop_eq_getElem_cons → Z1, getElem?_eq_getElem → Z3, getElem_mem → Z4
open Go.RowKit
section
attribute [local irreducible] on aOp
attribute [local go_sem] decide_true decide_false Bool.not_true Bool.not_false
attribute [local simp] byD_len
def vM (A B : Ob) (T : List Ob) : List Ob := A :: B :: T
section
variable {A B y y' : Ob} {T l : List Ob}
theorem vM_0 : (vM A B T)[0]? = some A := rfl
theorem vM_1 : (vM A B T)[1]? = some B := rfl
theorem vM_len : (vM A B T).length = T.length + 2 := rfl
theorem vM_app : vM A B T ++ l = vM A B (T ++ l) := rfl
theorem vM_l : (vM A B (T ++ [y]))[T.length + 2]? = some y := by simp [vM]
theorem vM_sl : (vM A B (T ++ [y])).set (T.length + 2) y' = vM A B (T ++ [y']) := by simp [vM]
end
theorem all_go {α : Type} {g : α → Bool} {l : List α} {k : Nat} {x : α} (h : l.drop k = x :: l.drop (k + 1)) : (l.drop k).all g = (g x && (l.drop (k + 1)).all g) := by rw [h, List.all_cons]
variable (G : Nat → D) (hG : ∀ g, low 0 (G g))
include hG
attribute [local go_sem] Bool.false_eq_true Int.reduceEq Int.reduceLE Int.reduceLT Int.toNat_natCast Int.toNat_zero List.length_map Nat.reduceAdd Nat.reduceBEq Nat.reduceEqDiff Nat.reduceLeDiff Nat.reduceMul vM_0 vM_1 vM_app vM_l vM_len vM_sl
attribute [local go_sem ↓] reduceIte
theorem Yd5 (f : Nat) : ∀ (l : Lat) (v : Val), SizeOf.sizeOf l ≤ f → WfL l → Sm l → VSm v → ∀ h : List Ob, Does Tryz.prog G 98 h [.agg (latX l), .agg (vaX v)] (fun h' r => h' = h ∧ r = .v (.bool (Ya l v))) := by
 induction f with
 | zero => intro l v hn; cases l; simp at hn
 | succ f ih =>
 intro l v hn hwf hsm hv h
 refine Y9 G hG (by simp only [lowL, low]; exact ⟨Yp _ l, Yb _ v, trivial⟩) (by rw [low]; trivial) ?_ h
 clear h
 obtain ⟨hk0, hk5, hk7, hk6, _⟩ := hwf.kinds
 have hal := allowed_d G hG l.names v.names hsm.names hv.names hv.texts
 have hcl := closed_d G hG l.rules v.names hsm.rules (fun r hr => (hsm.conds r hr).1) hv.names
 have hrg := register_d G hG v.entries hv.entries hv.ents
 have hvn := hv.names
 have hvp := hv.parts
 have hpp : ∀ p ∈ l.parts, ∀ x ∈ v.parts, ∀ h, Does Tryz.prog G 98 h [.agg (latX p), .agg (vaX x)] (fun h' r => h' = h ∧ r = .v (.bool (Ya p x))) := fun p hp x hx => ih p x (by have := Yu hp; omega) (hwf.part hp) (hsm.part p hp) (hv.part x hx)
 refine Y6 Tryz.func98 rfl (Nat.le_of_ble_eq_true rfl) hG fun hl0 _ => ?_
 simp only [Tryz.ntmps98]
 by_cases h1 : l.kind = 1
 · rw [el_1 h1]
   have hu := Zn5 G hG v hv true false false false
   simp only [Y5 v] at hu
   generalize Vi v true false false false = u at *
   clear hal hcl hrg
   cases u
   all_goals
    skip
    have F : _ ∧ _ ∧ _ := ⟨Y4 l, Y5 v, h1⟩
    repeat' first
     | refine gg ?_
     | refine Two.mk (fun hq => ?_) fun hq => ?_
     | (with_reducible refine Y7 ?_; refine gc rfl rfl rfl Us (hu _) ?_)
    all_goals first | (exfalso; omega) | exact ⟨.inr rfl, endV hl0 rfl rfl ⟨rfl, by first | rfl | (rw [decide_eq_true (by omega)]; rfl) | (rw [decide_eq_false (by omega)]; rfl)⟩⟩
 by_cases h23 : l.kind = 2 ∨ l.kind = 3
 · rw [el_23 h23]
   have hu := Zn5 G hG v hv true false false false
   simp only [Y5 v] at hu
   generalize Vi v true false false false = u at *
   clear hal hcl hrg
   rcases h23 with h23 | h23
   all_goals
    cases u
   all_goals
    skip
    have F : _ ∧ _ ∧ _ := ⟨Y4 l, Y5 v, h23⟩
    repeat' first
     | refine gg ?_
     | refine Two.mk (fun hq => ?_) fun hq => ?_
     | (with_reducible refine Y7 ?_; refine gc rfl rfl rfl Us (hu _) ?_)
    all_goals first | (exfalso; omega) | exact ⟨.inr rfl, endV hl0 rfl rfl ⟨rfl, by first | rfl | (rw [decide_eq_true (by omega)]; rfl) | (rw [decide_eq_false (by omega)]; rfl)⟩⟩
 by_cases h4 : l.kind = 4
 · rw [el_4 h4]
   have hu := Zn5 G hG v hv false true false false
   simp only [Y5 v] at hu
   generalize Vi v false true false false = u at *
   clear hcl hrg
   generalize Yf l.names v.names = al at *
   cases u
   all_goals
    cases al
   all_goals
    skip
    have F : _ ∧ _ ∧ _ := ⟨Y4 l, Y5 v, h4⟩
    repeat' first
     | refine g0 ?_
     | (with_reducible refine Y7 ?_; first | refine gc rfl rfl rfl Us (hu _) ?_ | refine gc rfl rfl rfl Yd1 (hal _) ?_)
    exact ⟨.inr rfl, endV hl0 rfl rfl ⟨rfl, rfl⟩⟩
 by_cases h10 : l.kind = 10
 · rw [el_10 h10]
   have hu := Zn5 G hG v hv false true false false
   simp only [Y5 v] at hu
   generalize Vi v false true false false = u at *
   clear hrg
   generalize Yf l.names v.names = al at *
   generalize V4 l.rules v.names = cl at *
   cases u
   all_goals
    cases al
   all_goals
    cases cl
   all_goals
    skip
    have F : _ ∧ _ ∧ _ := ⟨Y4 l, Y5 v, h10⟩
    repeat' first
     | refine g0 ?_
     | (with_reducible refine Y7 ?_; first | refine gc rfl rfl rfl Us (hu _) ?_ | refine gc rfl rfl rfl Yd1 (hal _) ?_ | refine gc rfl rfl rfl ent_159 (hcl _) ?_)
    exact ⟨.inr rfl, endV hl0 rfl rfl ⟨rfl, rfl⟩⟩
 by_cases h9 : l.kind = 9
 · rw [el_9 h9]
   have hu := Zn5 G hG v hv false false false true
   simp only [Y5 v] at hu
   generalize Vi v false false false true = u at *
   clear hal hcl
   generalize regB v.entries = rg at *
   cases u
   all_goals
    cases rg
   all_goals
    skip
    have F : _ ∧ _ ∧ _ := ⟨Y4 l, Y5 v, h9⟩
    repeat' first
     | refine g0 ?_
     | (with_reducible refine Y7 ?_; first | refine gc rfl rfl rfl Us (hu _) ?_ | refine gc rfl rfl rfl ent_160 (hrg _) ?_)
    exact ⟨.inr rfl, endV hl0 rfl rfl ⟨rfl, rfl⟩⟩
 by_cases h8 : l.kind = 8
 · rw [el_8 h8]
   clear hcl hrg
   generalize Yf l.names v.names = al at *
   by_cases hn02 : v.n = 0 ∨ v.n = 2
   · rw [if_pos hn02]
     have hu := Zn5 G hG v hv true false false false
     simp only [Y5 v] at hu
     generalize Vi v true false false false = u at *
     by_cases hn0 : v.n = 0
     · have hn0d : decide (v.n = 0) = true := decide_eq_true hn0
       have F : _ ∧ _ ∧ _ ∧ _ := ⟨Y4 l, Y5 v, h8, hn0d⟩
       repeat' first
        | refine g0 ?_
        | (with_reducible refine Y7 ?_; refine gc rfl rfl rfl Us (hu _) ?_)
       exact ⟨.inr rfl, endV hl0 rfl rfl ⟨rfl, rfl⟩⟩
     · have hn0d : decide (v.n = 0) = false := decide_eq_false hn0
       have hn2d : decide (v.n = 2) = true := decide_eq_true (by omega)
       have F : _ ∧ _ ∧ _ ∧ _ ∧ _ := ⟨Y4 l, Y5 v, h8, hn0d, hn2d⟩
       repeat' first
        | refine g0 ?_
        | (with_reducible refine Y7 ?_; refine gc rfl rfl rfl Us (hu _) ?_)
       exact ⟨.inr rfl, endV hl0 rfl rfl ⟨rfl, rfl⟩⟩
   · rw [if_neg hn02]
     have hn0 : decide (v.n = 0) = false := decide_eq_false (by omega)
     have hn2 : decide (v.n = 2) = false := decide_eq_false (by omega)
     by_cases hn1 : v.n = 1
     · rw [if_pos hn1]
       have hn1d : decide (v.n = 1) = true := decide_eq_true hn1
       have hu := Zn5 G hG v hv true true false false
       simp only [Y5 v] at hu
       generalize Vi v true true false false = u at *
       cases u
       all_goals
        cases al
       all_goals
        skip
        have F : _ ∧ _ ∧ _ ∧ _ ∧ _ ∧ _ := ⟨Y4 l, Y5 v, h8, hn0, hn2, hn1d⟩
        repeat' first
         | refine gg ?_
         | refine Two.mk (fun hq => ?_) fun hq => ?_
         | (with_reducible refine Y7 ?_; first | refine gc rfl rfl rfl Us (hu _) ?_ | refine gc rfl rfl rfl Yd1 (hal _) ?_)
        all_goals first | (exfalso; omega) | exact ⟨.inr rfl, endV hl0 rfl rfl ⟨rfl, by first | rfl | (rw [decide_eq_true (by omega)]; rfl) | (rw [decide_eq_false (by omega)]; rfl)⟩⟩
     · rw [if_neg hn1]
       have hn1d : decide (v.n = 1) = false := decide_eq_false hn1
       have F : _ ∧ _ ∧ _ ∧ _ ∧ _ ∧ _ := ⟨Y4 l, Y5 v, h8, hn0, hn1d, hn2⟩
       repeat' first
        | refine g0 ?_
        | fail
       exact ⟨.inr rfl, endV hl0 rfl rfl ⟨rfl, rfl⟩⟩
 by_cases h5 : l.kind = 5
 · rw [el_5 h5]
   have hu := Zn5 G hG v hv false true true false
   simp only [Y5 v] at hu
   generalize Vi v false true true false = u at *
   clear hcl hrg
   obtain ⟨p, hp⟩ := List.length_eq_one_iff.1 (hk5 h5)
   rw [hp, map_one]
   have hpm : p ∈ l.parts := by rw [hp]; simp
   have hp0 : l.parts[0]? = some p := by rw [hp]; rfl
   have hpl : (l.parts.length : Int) = 1 := by rw [hp]; rfl
   have hbo := Yq6 G hG _ p (Nat.le_refl _) (hwf.part hpm)
   have hvb := Yj7 _ p (Nat.le_refl _) (hsm.part p hpm)
   have hpp := hpp p hpm
   clear hp
   simp only [Y4 p] at hbo hpp
   generalize Yf l.names v.names = al at *
   by_cases hbad : u = false ∨ v.names.length ≠ v.parts.length ∨ al = false
   · have e0 : (u && decide (v.names.length = v.parts.length) && al) = false := by
      rcases hbad with h | h | h
      · rw [h]; rfl
      · rw [decide_eq_false h]; simp
      · rw [h]; simp
     rw [e0, Z0]
     cases u
     all_goals
      cases al
     all_goals
      skip
      have F : _ ∧ _ ∧ _ := ⟨Y4 l, Y5 v, h5⟩
      repeat' first
       | refine gg ?_
       | refine Two.mk (fun hq => ?_) fun hq => ?_
       | (with_reducible refine Y7 ?_; first | refine gc rfl rfl rfl Us (hu _) ?_ | refine gc rfl rfl rfl Yd1 (hal _) ?_)
      all_goals first | (exfalso; simp only [Bool.true_eq_false, false_or, or_false] at hbad; omega) | (exfalso; omega) | exact ⟨.inr rfl, endV hl0 rfl rfl ⟨rfl, rfl⟩⟩
   · have hu1 : u = true := by cases u <;> simp_all
     have hal1 : al = true := by cases al <;> simp_all
     have hlen : v.names.length = v.parts.length := Z5 fun q => hbad (.inr (.inl q))
     have hlen2 : (v.names.length : Int) = (v.parts.length : Int) := by omega
     subst hu1 hal1
     rw [decide_eq_true hlen, Z2, Z2]
     generalize hMB : (v.parts.all fun v => Ya p v && decide (valC v (botV p) ≠ 0)) = MB
     have F : _ ∧ _ ∧ _ ∧ _ := ⟨Y4 l, Y5 v, h5, hlen2⟩
     repeat' first
      | refine g0 ?_
      | (with_reducible refine Y7 ?_; first | refine gc rfl rfl rfl Us (hu _) ?_ | refine gc rfl rfl rfl Yd1 (hal _) ?_)
     refine Yh (fun m e h' => ∃ (k : Nat) (T : List Ob), k ≤ v.parts.length ∧ m = v.parts.length - k ∧ MB = ((v.parts.drop k).all fun v => Ya p v && decide (valC v (botV p) ≠ 0)) ∧ h' = vM (.cells (latX l)) (.cells (vaX v)) T ∧ e 2 = .ptr 0 0 ∧ e 131 = .sl 4 (v.parts.map vaX) ∧ e 132 = .v (.int .i64 v.parts.length) ∧ e 133 = .v (.int .i64 k)) v.parts.length ⟨0, [], Nat.zero_le _, rfl, hMB.symm, by rw [Y4 l, Y5 v, h5]; rfl, rfl, rfl, rfl, rfl⟩ ?_
     rintro m e h' ⟨k, T, hk, rfl, hh, rfl, e2, e131, e132, e133⟩
     by_cases hlt : k < v.parts.length
     rotate_left
     · rw [List.drop_eq_nil_of_le (by omega)] at hh
       rw [hh]
       have F : _ ∧ _ ∧ _ ∧ _ := ⟨e2, e131, e132, e133⟩
       repeat' first
        | refine gg ?_
        | refine Two.mk (fun hq => ?_) fun hq => ?_
        | refine Evry.mk fun x hx => ?_
        | (exfalso; omega)
       exact ⟨.inr rfl, endV hl0 rfl rfl ⟨rfl, rfl⟩⟩
     have hx : v.parts[k]? = some v.parts[k] := Z3 hlt
     have wk : IntKind.i64.wrap ((k : Int) + 1) = ((k + 1 : Nat) : Int) := IntWalk.i64_in _ (by omega)
     rw [all_go (Z1 hlt)] at hh
     have hpx := hpp _ (Z4 hlt)
     have heq := Zq8 G hG v.parts[k] (botV p) (hv.part _ (Z4 hlt)) hvb
     generalize v.parts[k] = x at hx hh hpx heq
     generalize valC x (botV p) = vc at hh heq
     obtain ⟨bp, hbp⟩ : ∃ b, b = botV p := ⟨_, rfl⟩
     simp only [← hbp] at hbo heq
     clear hbp
     generalize Ya p x = ex at hh hpx
     have heq0 : ∀ b : Bool, decide (vc = 0) = b → ∀ h, Does Tryz.prog G 104 h [.agg (vaX x), .agg (vaX bp)] (fun h' r => h' = h ∧ r = .v (.bool b)) := fun b hb h => by rw [← hb]; exact heq h
     clear heq
     simp only [Y5 x] at hpx heq0
     cases ex
     · rw [Z0, Z0] at hh
       rw [hh]
       have F : _ ∧ _ ∧ _ ∧ _ ∧ _ ∧ _ ∧ _ ∧ _ := ⟨Y4 l, Y4 p, Y5 x, e2, e131, e132, e133, wk⟩
       repeat' first
        | (with_reducible refine Yc ?_; refine Y8 mixd (by kernel_rfl) ?_)
        | refine gg ?_
        | refine Two.mk (fun hq => ?_) fun hq => ?_
        | (with_reducible refine X6 ?_; refine aq2 rfl rfl rfl Zq9 (hpx _) ?_)
        | (exfalso; omega)
       all_goals first | (exfalso; omega) | exact ⟨.inr rfl, endV hl0 rfl rfl ⟨rfl, rfl⟩⟩
     · by_cases hz : vc = 0
       · rw [decide_eq_false (show ¬ vc ≠ 0 by omega), Bool.and_false, Z0] at hh
         rw [hh]
         have F : _ ∧ _ ∧ _ ∧ _ ∧ _ ∧ _ ∧ _ ∧ _ := ⟨Y4 l, Y4 p, Y5 x, e2, e131, e132, e133, wk⟩
         repeat' first
          | (with_reducible refine Yc ?_; refine Y8 mixd (by kernel_rfl) ?_)
          | refine gg ?_
          | refine Two.mk (fun hq => ?_) fun hq => ?_
          | (with_reducible refine X6 ?_; first | refine aq2 rfl rfl rfl Zq9 (hpx _) ?_ | refine aq2 rfl rfl rfl Yd2 (hbo _) ?_ | refine aq2 rfl rfl rfl Zc7 (heq0 true (decide_eq_true hz) _) ?_)
          | (exfalso; omega)
         all_goals first | (exfalso; omega) | exact ⟨.inr rfl, endV hl0 rfl rfl ⟨rfl, rfl⟩⟩
       · rw [decide_eq_true (show vc ≠ 0 from hz), Bool.and_true, Z2] at hh
         have F : _ ∧ _ ∧ _ ∧ _ ∧ _ ∧ _ ∧ _ ∧ _ := ⟨Y4 l, Y4 p, Y5 x, e2, e131, e132, e133, wk⟩
         repeat' first
          | (with_reducible refine Yc ?_; refine Y8 mixd (by kernel_rfl) ?_)
          | refine gg ?_
          | refine Two.mk (fun hq => ?_) fun hq => ?_
          | (with_reducible refine X6 ?_; first | refine aq2 rfl rfl rfl Zq9 (hpx _) ?_ | refine aq2 rfl rfl rfl Yd2 (hbo _) ?_ | refine aq2 rfl rfl rfl Zc7 (heq0 false (decide_eq_false hz) _) ?_)
          | (exfalso; omega)
         all_goals first | (exfalso; omega) | exact ⟨rfl, v.parts.length - (k + 1), by omega, k + 1, _, hlt, rfl, hh, by rw [Y4 l], e2, e131, e132, rfl⟩
 have h67 : l.kind = 6 ∨ l.kind = 7 := by omega
 rw [el_67 h67]
 have hu := Zn5 G hG v hv false false true false
 simp only [Y5 v] at hu
 generalize Vi v false false true false = u at *
 clear hal hcl hrg
 have hk1 : ¬ l.kind = 1 := h1
 have hk2 : ¬ l.kind = 2 := by omega
 have hk3 : ¬ l.kind = 3 := by omega
 have hlpp := hsm.parts
 by_cases hbad : u = false ∨ v.parts.length ≠ l.parts.length
 · have e0 : (u && decide (v.parts.length = l.parts.length)) = false := by
    rcases hbad with h | h
    · rw [h]; rfl
    · rw [decide_eq_false h]; simp
   rw [e0, Z0]
   cases u
   all_goals
    skip
    have F : _ ∧ _ ∧ _ ∧ _ ∧ _ ∧ _ ∧ _ ∧ _ ∧ _ ∧ _ := ⟨Y4 l, Y5 v, hk1, hk2, hk3, h4, h5, h8, h9, h10⟩
    repeat' first
     | refine gg ?_
     | refine Two.mk (fun hq => ?_) fun hq => ?_
     | (with_reducible refine Y7 ?_; refine gc rfl rfl rfl Us (hu _) ?_)
    all_goals first | (exfalso; simp only [Bool.true_eq_false, false_or, or_false] at hbad; omega) | (exfalso; omega) | exact ⟨.inr rfl, endV hl0 rfl rfl ⟨rfl, rfl⟩⟩
 have hu1 : u = true := by cases u <;> simp_all
 have hlen : v.parts.length = l.parts.length := Z5 fun q => hbad (.inr q)
 have hlen2 : (v.parts.length : Int) = (l.parts.length : Int) := by omega
 subst hu1
 rw [decide_eq_true hlen, Z2, Z2]
 have F : _ ∧ _ ∧ _ ∧ _ ∧ _ ∧ _ ∧ _ ∧ _ ∧ _ ∧ _ ∧ _ := ⟨Y4 l, Y5 v, hk1, hk2, hk3, h4, h5, h8, h9, h10, hlen2⟩
 repeat' first
  | refine g0 ?_
  | (with_reducible refine Y7 ?_; refine gc rfl rfl rfl Us (hu _) ?_)
 refine Yh (fun m e h' => ∃ (k : Nat) (T : List Ob), k ≤ v.parts.length ∧ m = v.parts.length - k ∧ Vx l.parts v.parts = Vx (l.parts.drop k) (v.parts.drop k) ∧ h' = vM (.cells (latX l)) (.cells (vaX v)) T ∧ e 2 = .ptr 0 0 ∧ e 167 = .sl 4 (v.parts.map vaX) ∧ e 168 = .v (.int .i64 l.parts.length) ∧ e 169 = .v (.int .i64 k)) v.parts.length ⟨0, [], Nat.zero_le _, rfl, rfl, by rw [Y4 l, Y5 v]; rfl, rfl, rfl, rfl, rfl⟩ ?_
 rintro m e h' ⟨k, T, hk, rfl, hh, rfl, e2, e167, e168, e169⟩
 by_cases hlt : k < v.parts.length
 rotate_left
 · rw [List.drop_eq_nil_of_le (by omega), els_nil] at hh
   rw [hh]
   have F : _ ∧ _ ∧ _ ∧ _ := ⟨e2, e167, e168, e169⟩
   repeat' first
    | refine gg ?_
    | refine Two.mk (fun hq => ?_) fun hq => ?_
    | refine Evry.mk fun x hx => ?_
    | (exfalso; omega)
   all_goals first | (exfalso; omega) | exact ⟨.inr rfl, endV hl0 rfl rfl ⟨rfl, rfl⟩⟩
 have hx : v.parts[k]? = some v.parts[k] := Z3 hlt
 have hltp : k < l.parts.length := by omega
 have hp : l.parts[k]? = some l.parts[k] := Z3 hltp
 have wk : IntKind.i64.wrap ((k : Int) + 1) = ((k + 1 : Nat) : Int) := IntWalk.i64_in _ (by omega)
 rw [els_go (Z1 hltp) (Z1 hlt)] at hh
 have hpx := hpp _ (Z4 hltp) _ (Z4 hlt)
 generalize v.parts[k] = x at hx hh hpx
 generalize l.parts[k] = p at hp hh hpx
 generalize Ya p x = ex at hh hpx
 simp only [Y5 x, Y4 p] at hpx
 cases ex
 · rw [Z0] at hh
   rw [hh]
   have F : _ ∧ _ ∧ _ ∧ _ ∧ _ ∧ _ ∧ _ ∧ _ := ⟨Y4 l, Y4 p, Y5 x, e2, e167, e168, e169, wk⟩
   repeat' first
    | (with_reducible refine Yc ?_; refine Y8 mixd (by kernel_rfl) ?_)
    | refine gg ?_
    | refine Two.mk (fun hq => ?_) fun hq => ?_
    | (with_reducible refine X6 ?_; refine aq2 rfl rfl rfl Zq9 (hpx _) ?_)
    | (exfalso; omega)
   all_goals first | (exfalso; omega) | exact ⟨.inr rfl, endV hl0 rfl rfl ⟨rfl, rfl⟩⟩
 · rw [Z2] at hh
   have F : _ ∧ _ ∧ _ ∧ _ ∧ _ ∧ _ ∧ _ ∧ _ := ⟨Y4 l, Y4 p, Y5 x, e2, e167, e168, e169, wk⟩
   repeat' first
    | (with_reducible refine Yc ?_; refine Y8 mixd (by kernel_rfl) ?_)
    | refine gg ?_
    | refine Two.mk (fun hq => ?_) fun hq => ?_
    | (with_reducible refine X6 ?_; refine aq2 rfl rfl rfl Zq9 (hpx _) ?_)
    | (exfalso; omega)
   all_goals first | (exfalso; omega) | exact ⟨rfl, v.parts.length - (k + 1), by omega, k + 1, _, hlt, rfl, hh, by rw [Y4 l], e2, e167, e168, rfl⟩
end
end Go.Proofs.YtbhkcbidcfofiaaGreat
