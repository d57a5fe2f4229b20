/-
  What the statements of the chapter share, part 27: VA6, VA12, LG2.
-/
import Derived.Test.YtgkjcmglcnhpaaaGreatDoorT21
import Derived.Test.YtgkjcmglcnhpaaaGreatDoorT25
import Derived.Test.YtgkjcmglcnhpaaaGreatDoorT26
set_option linter.unusedVariables false
set_option linter.unusedSimpArgs false
set_option maxRecDepth 100000
set_option maxHeartbeats 8000000
namespace Go.Proofs.YtgkjcmglcnhpaaaGreatDoor
open _root_.Bool renaming false_eq_true → Z0, false_and → Zf, true_and → Zh, not_false → Zo, not_true → Zq
open _root_.Decidable renaming byContradiction → Zm
open _root_.Int renaming reduceEq → Z6, reduceLT → Z7, reduceLE → Z8, toNat_natCast → Za, toNat_zero → Zc
open _root_.List renaming length_map → Z9, getElem?_eq_getElem → Zb, drop_eq_getElem_cons → Zd, getElem_mem → Zg, getElem?_eq_some_iff → Zj, length_eq_one_iff → Zk, drop_eq_nil_of_le → Zl
open _root_.Nat renaming reduceEqDiff → Z1, reduceLeDiff → Z2, reduceAdd → Z3, reduceBEq → Z4, reduceMul → Z5, le_refl → Ze, le_of_ble_eq_true → Zi, zero_le → Zp
open _root_.Go.Proofs.Tryz renaming prog → Zn
open Go.RowKit
section
attribute [local irreducible] on aOp
attribute [local go_sem] decide_true decide_false Zq Zo
attribute [local simp] byD_len
def vM (A B : Ob) (T : List Ob) : List Ob := A :: B :: T
section
variable {A B y y' : Ob} {T l : List Ob}
theorem vM_0 : (vM A B T)[0]? = some A := rfl
theorem vM_1 : (vM A B T)[1]? = some B := rfl
theorem Za3 : (vM A B T).length = T.length + 2 := rfl
theorem Za4 : vM A B T ++ l = vM A B (T ++ l) := rfl
theorem vM_l : (vM A B (T ++ [y]))[T.length + 2]? = some y := by simp [vM]
theorem Zl6 : (vM A B (T ++ [y])).set (T.length + 2) y' = vM A B (T ++ [y']) := by simp [vM]
end
theorem all_go {α : Type} {g : α → Bool} {l : List α} {k : Nat} {x : α} (h : l.drop k = x :: l.drop (k + 1)) : (l.drop k).all g = (g x && (l.drop (k + 1)).all g) := by rw [h, List.all_cons]
variable (G : Nat → D) (hG : ∀ g, low 0 (G g))
include hG
theorem element_d (f : Nat) : ∀ (l : Lat) (v : Val), SizeOf.sizeOf l ≤ f → WfL l → Sm l → VSm v → ∀ h : List Ob, Does Zn G 112 h [.agg (latX l), .agg (vaX v)] (fun h' r => h' = h ∧ r = .v (.bool (Ua l v))) := by
 induction f with
 | zero => intro l v hn; cases l; simp at hn
 | succ f ih =>
 intro l v hn hwf hsm hv h
 refine Yh G hG (by simp only [lowL, low]; exact ⟨Zm4 _ l, Uk _ v, trivial⟩) (by rw [low]; trivial) ?_ h
 clear h
 obtain ⟨hk0, hk5, hk7, hk6, _⟩ := hwf.kinds
 have hal := allowed_d G hG l.names v.names hsm.names hv.names hv.texts
 have hcl := closed_d G hG l.rules v.names hsm.rules (fun r hr => (hsm.conds r hr).1) hv.names
 have hrg := register_d G hG v.entries hv.entries hv.ents
 have hvn := hv.names
 have hvp := hv.parts
 have hpp : ∀ p ∈ l.parts, ∀ x ∈ v.parts, ∀ h, Does Zn G 112 h [.agg (latX p), .agg (vaX x)] (fun h' r => h' = h ∧ r = .v (.bool (Ua p x))) := fun p hp x hx => ih p x (by have := Zf0 hp; omega) (hwf.part hp) (hsm.part p hp) (hv.part x hx)
 refine Y7 Tryz.func112 rfl (Zi rfl) hG fun hl0 _ => ?_
 simp only [Tryz.ntmps112]
 by_cases h1 : l.kind = 1
 · rw [el_1 h1]
   have hu := Zn3 G hG v hv true false false false
   simp only [Yg v] at hu
   generalize Ue v true false false false = u at *
   clear hal hcl hrg
   cases u
   all_goals
    skip
    repeat' first
     | (with_reducible first | refine sA rfl ?_ | refine sI rfl rfl ?_ | refine sT rfl ?_ | refine sB rfl ?_)
     | (with_reducible refine Y9 ?_; first | refine Y5 ?_ | (refine ao1 rfl rfl fun K HK => ?_; (first | refine Y6 rfl ?_ | skip); simp only [go_sem, ↓reduceIte, Z1, Z3, Z2, Z4, Z5, Z6, Z7, Z8, Y4 l, Yg v, h1, Z0]; (first | refine Y8 (fun hq => ?_) (fun hq => ?_) | skip) <;> (refine HK _ _ ?_; clear HK K)) | refine ao0 rfl rfl ?_ | (refine ao2 rfl rfl rfl Jm (hu _) ?_; rintro _ _ ⟨rfl, rfl⟩))
    all_goals first | (exfalso; omega) | exact ⟨.inr rfl, endV hl0 rfl rfl ⟨rfl, by first | rfl | (rw [decide_eq_true (by omega)]; rfl) | (rw [decide_eq_false (by omega)]; rfl)⟩⟩
 by_cases h23 : l.kind = 2 ∨ l.kind = 3
 · rw [el_23 h23]
   have hu := Zn3 G hG v hv true false false false
   simp only [Yg v] at hu
   generalize Ue v true false false false = u at *
   clear hal hcl hrg
   rcases h23 with h23 | h23
   all_goals
    cases u
   all_goals
    skip
    repeat' first
     | (with_reducible first | refine sA rfl ?_ | refine sI rfl rfl ?_ | refine sT rfl ?_ | refine sB rfl ?_)
     | (with_reducible refine Y9 ?_; first | refine Y5 ?_ | (refine ao1 rfl rfl fun K HK => ?_; (first | refine Y6 rfl ?_ | skip); simp only [go_sem, ↓reduceIte, Z1, Z3, Z2, Z4, Z5, Z6, Z7, Z8, Y4 l, Yg v, h23, Z0]; (first | refine Y8 (fun hq => ?_) (fun hq => ?_) | skip) <;> (refine HK _ _ ?_; clear HK K)) | refine ao0 rfl rfl ?_ | (refine ao2 rfl rfl rfl Jm (hu _) ?_; rintro _ _ ⟨rfl, rfl⟩))
    all_goals first | (exfalso; omega) | exact ⟨.inr rfl, endV hl0 rfl rfl ⟨rfl, by first | rfl | (rw [decide_eq_true (by omega)]; rfl) | (rw [decide_eq_false (by omega)]; rfl)⟩⟩
 by_cases h4 : l.kind = 4
 · rw [el_4 h4]
   have hu := Zn3 G hG v hv false true false false
   simp only [Yg v] at hu
   generalize Ue v false true false false = u at *
   clear hcl hrg
   generalize Vg l.names v.names = al at *
   cases u
   all_goals
    cases al
   all_goals
    skip
    repeat' first
     | (with_reducible first | refine sA rfl ?_ | refine sI rfl rfl ?_ | refine sT rfl ?_ | refine sB rfl ?_)
     | (with_reducible refine Y9 ?_; first | refine Y5 ?_ | (refine ao1 rfl rfl fun K HK => ?_; (first | refine Y6 rfl ?_ | skip); simp only [go_sem, ↓reduceIte, Z1, Z3, Z2, Z4, Z5, Z6, Z7, Z8, Y4 l, Yg v, h4, Z0] <;> (refine HK _ _ ?_; clear HK K)) | refine ao0 rfl rfl ?_ | (refine ao2 rfl rfl rfl Jm (hu _) ?_; rintro _ _ ⟨rfl, rfl⟩) | (refine ao2 rfl rfl rfl Yd5 (hal _) ?_; rintro _ _ ⟨rfl, rfl⟩))
    exact ⟨.inr rfl, endV hl0 rfl rfl ⟨rfl, rfl⟩⟩
 by_cases h10 : l.kind = 10
 · rw [el_10 h10]
   have hu := Zn3 G hG v hv false true false false
   simp only [Yg v] at hu
   generalize Ue v false true false false = u at *
   clear hrg
   generalize Vg l.names v.names = al at *
   generalize Ye3 l.rules v.names = cl at *
   cases u
   all_goals
    cases al
   all_goals
    cases cl
   all_goals
    skip
    repeat' first
     | (with_reducible first | refine sA rfl ?_ | refine sI rfl rfl ?_ | refine sT rfl ?_ | refine sB rfl ?_)
     | (with_reducible refine Y9 ?_; first | refine Y5 ?_ | (refine ao1 rfl rfl fun K HK => ?_; (first | refine Y6 rfl ?_ | skip); simp only [go_sem, ↓reduceIte, Z1, Z3, Z2, Z4, Z5, Z6, Z7, Z8, Y4 l, Yg v, h10, Z0] <;> (refine HK _ _ ?_; clear HK K)) | refine ao0 rfl rfl ?_ | (refine ao2 rfl rfl rfl Jm (hu _) ?_; rintro _ _ ⟨rfl, rfl⟩) | (refine ao2 rfl rfl rfl Yd5 (hal _) ?_; rintro _ _ ⟨rfl, rfl⟩) | (refine ao2 rfl rfl rfl ent_138 (hcl _) ?_; rintro _ _ ⟨rfl, rfl⟩))
    exact ⟨.inr rfl, endV hl0 rfl rfl ⟨rfl, rfl⟩⟩
 by_cases h9 : l.kind = 9
 · rw [el_9 h9]
   have hu := Zn3 G hG v hv false false false true
   simp only [Yg v] at hu
   generalize Ue v false false false true = u at *
   clear hal hcl
   generalize regB v.entries = rg at *
   cases u
   all_goals
    cases rg
   all_goals
    skip
    repeat' first
     | (with_reducible first | refine sA rfl ?_ | refine sI rfl rfl ?_ | refine sT rfl ?_ | refine sB rfl ?_)
     | (with_reducible refine Y9 ?_; first | refine Y5 ?_ | (refine ao1 rfl rfl fun K HK => ?_; (first | refine Y6 rfl ?_ | skip); simp only [go_sem, ↓reduceIte, Z1, Z3, Z2, Z4, Z5, Z6, Z7, Z8, Y4 l, Yg v, h9, Z0] <;> (refine HK _ _ ?_; clear HK K)) | refine ao0 rfl rfl ?_ | (refine ao2 rfl rfl rfl Jm (hu _) ?_; rintro _ _ ⟨rfl, rfl⟩) | (refine ao2 rfl rfl rfl ent_139 (hrg _) ?_; rintro _ _ ⟨rfl, rfl⟩))
    exact ⟨.inr rfl, endV hl0 rfl rfl ⟨rfl, rfl⟩⟩
 by_cases h8 : l.kind = 8
 · rw [el_8 h8]
   clear hcl hrg
   generalize Vg l.names v.names = al at *
   by_cases hn02 : v.n = 0 ∨ v.n = 2
   · rw [if_pos hn02]
     have hu := Zn3 G hG v hv true false false false
     simp only [Yg v] at hu
     generalize Ue v true false false false = u at *
     by_cases hn0 : v.n = 0
     · have hn0d : decide (v.n = 0) = true := decide_eq_true hn0
       repeat' first
        | (with_reducible first | refine sA rfl ?_ | refine sI rfl rfl ?_ | refine sT rfl ?_ | refine sB rfl ?_)
        | (with_reducible refine Y9 ?_; first | refine Y5 ?_ | (refine ao1 rfl rfl fun K HK => ?_; simp only [go_sem, ↓reduceIte, Z1, Z3, Z2, Z4, Z5, Z6, Z7, Z8, Y4 l, Yg v, h8, hn0d, Z0] <;> (refine HK _ _ ?_; clear HK K)) | (refine ao2 rfl rfl rfl Jm (hu _) ?_; rintro _ _ ⟨rfl, rfl⟩))
       exact ⟨.inr rfl, endV hl0 rfl rfl ⟨rfl, rfl⟩⟩
     · have hn0d : decide (v.n = 0) = false := decide_eq_false hn0
       have hn2d : decide (v.n = 2) = true := decide_eq_true (by omega)
       repeat' first
        | (with_reducible first | refine sA rfl ?_ | refine sI rfl rfl ?_ | refine sT rfl ?_ | refine sB rfl ?_)
        | (with_reducible refine Y9 ?_; first | refine Y5 ?_ | (refine ao1 rfl rfl fun K HK => ?_; simp only [go_sem, ↓reduceIte, Z1, Z3, Z2, Z4, Z5, Z6, Z7, Z8, Y4 l, Yg v, h8, hn0d, hn2d, Z0] <;> (refine HK _ _ ?_; clear HK K)) | (refine ao2 rfl rfl rfl Jm (hu _) ?_; rintro _ _ ⟨rfl, rfl⟩))
       exact ⟨.inr rfl, endV hl0 rfl rfl ⟨rfl, rfl⟩⟩
   · rw [if_neg hn02]
     have hn0 : decide (v.n = 0) = false := decide_eq_false (by omega)
     have hn2 : decide (v.n = 2) = false := decide_eq_false (by omega)
     by_cases hn1 : v.n = 1
     · rw [if_pos hn1]
       have hn1d : decide (v.n = 1) = true := decide_eq_true hn1
       have hu := Zn3 G hG v hv true true false false
       simp only [Yg v] at hu
       generalize Ue v true true false false = u at *
       cases u
       all_goals
        cases al
       all_goals
        skip
        repeat' first
         | (with_reducible first | refine sA rfl ?_ | refine sI rfl rfl ?_ | refine sT rfl ?_ | refine sB rfl ?_)
         | (with_reducible refine Y9 ?_; first | refine Y5 ?_ | (refine ao1 rfl rfl fun K HK => ?_; (first | refine Y6 rfl ?_ | skip); simp only [go_sem, ↓reduceIte, Z1, Z3, Z2, Z4, Z5, Z6, Z7, Z8, Y4 l, Yg v, h8, hn0, hn2, hn1d, Z9, Z0]; (first | refine Y8 (fun hq => ?_) (fun hq => ?_) | skip) <;> (refine HK _ _ ?_; clear HK K)) | refine ao0 rfl rfl ?_ | (refine ao2 rfl rfl rfl Jm (hu _) ?_; rintro _ _ ⟨rfl, rfl⟩) | (refine ao2 rfl rfl rfl Yd5 (hal _) ?_; rintro _ _ ⟨rfl, rfl⟩))
        all_goals first | (exfalso; omega) | exact ⟨.inr rfl, endV hl0 rfl rfl ⟨rfl, by first | rfl | (rw [decide_eq_true (by omega)]; rfl) | (rw [decide_eq_false (by omega)]; rfl)⟩⟩
     · rw [if_neg hn1]
       have hn1d : decide (v.n = 1) = false := decide_eq_false hn1
       repeat' first
        | (with_reducible first | refine sA rfl ?_ | refine sI rfl rfl ?_ | refine sT rfl ?_ | refine sB rfl ?_)
        | (with_reducible refine Y9 ?_; first | refine Y5 ?_ | (refine ao1 rfl rfl fun K HK => ?_; simp only [go_sem, ↓reduceIte, Z1, Z3, Z2, Z4, Z5, Z6, Z7, Z8, Y4 l, Yg v, h8, hn0, hn1d, hn2, Z0] <;> (refine HK _ _ ?_; clear HK K)))
       exact ⟨.inr rfl, endV hl0 rfl rfl ⟨rfl, rfl⟩⟩
 by_cases h5 : l.kind = 5
 · rw [el_5 h5]
   have hu := Zn3 G hG v hv false true true false
   simp only [Yg v] at hu
   generalize Ue v false true true false = u at *
   clear hcl hrg
   obtain ⟨p, hp⟩ := Zk.1 (hk5 h5)
   rw [hp, map_one]
   have hpm : p ∈ l.parts := by rw [hp]; simp
   have hp0 : l.parts[0]? = some p := by rw [hp]; rfl
   have hpl : (l.parts.length : Int) = 1 := by rw [hp]; rfl
   have hbo := bottom_d G hG _ p (Ze _) (hwf.part hpm)
   have hvb := vsm_bot _ p (Ze _) (hsm.part p hpm)
   have hpp := hpp p hpm
   clear hp
   simp only [Y4 p] at hbo hpp
   generalize Vg l.names v.names = al at *
   by_cases hbad : u = false ∨ v.names.length ≠ v.parts.length ∨ al = false
   · have e0 : (u && decide (v.names.length = v.parts.length) && al) = false := by
      rcases hbad with h | h | h
      · rw [h]; rfl
      · rw [decide_eq_false h]; simp
      · rw [h]; simp
     rw [e0, Zf]
     cases u
     all_goals
      cases al
     all_goals
      skip
      repeat' first
       | (with_reducible first | refine sA rfl ?_ | refine sI rfl rfl ?_ | refine sT rfl ?_ | refine sB rfl ?_)
       | (with_reducible refine Y9 ?_; first | refine Y5 ?_ | (refine ao1 rfl rfl fun K HK => ?_; (first | refine Y6 rfl ?_ | skip); simp only [go_sem, ↓reduceIte, Z1, Z3, Z2, Z4, Z5, Z6, Z7, Z8, Y4 l, Yg v, h5, Z9, Z0]; (first | refine V5 (fun hq => ?_) (fun hq => ?_) | skip) <;> (refine HK _ _ ?_; clear HK K)) | refine ao0 rfl rfl ?_ | (refine ao2 rfl rfl rfl Jm (hu _) ?_; rintro _ _ ⟨rfl, rfl⟩) | (refine ao2 rfl rfl rfl Yd5 (hal _) ?_; rintro _ _ ⟨rfl, rfl⟩))
      all_goals first | (exfalso; simp only [Bool.true_eq_false, false_or, or_false] at hbad; omega) | (exfalso; omega) | exact ⟨.inr rfl, endV hl0 rfl rfl ⟨rfl, rfl⟩⟩
   · have hu1 : u = true := by cases u <;> simp_all
     have hal1 : al = true := by cases al <;> simp_all
     have hlen : v.names.length = v.parts.length := Zm fun q => hbad (.inr (.inl q))
     have hlen2 : (v.names.length : Int) = (v.parts.length : Int) := by omega
     subst hu1 hal1
     rw [decide_eq_true hlen, Zh, Zh]
     generalize hMB : (v.parts.all fun v => Ua p v && decide (valC v (botV p) ≠ 0)) = MB
     repeat' first
      | (with_reducible first | refine sA rfl ?_ | refine sI rfl rfl ?_ | refine sT rfl ?_)
      | (with_reducible refine Y9 ?_; first | refine Y5 ?_ | (refine ao1 rfl rfl fun K HK => ?_; (first | refine Y6 rfl ?_ | skip); simp only [go_sem, ↓reduceIte, Z1, Z3, Z2, Z4, Z5, Z6, Z7, Z8, Y4 l, Yg v, h5, hlen2, Z9, Z0] <;> (refine HK _ _ ?_; clear HK K)) | (refine ao2 rfl rfl rfl Jm (hu _) ?_; rintro _ _ ⟨rfl, rfl⟩) | (refine ao2 rfl rfl rfl Yd5 (hal _) ?_; rintro _ _ ⟨rfl, rfl⟩))
     refine Yp (fun m e h' => ∃ (k : Nat) (T : List Ob), k ≤ v.parts.length ∧ m = v.parts.length - k ∧ MB = ((v.parts.drop k).all fun v => Ua p v && decide (valC v (botV p) ≠ 0)) ∧ h' = vM (.cells (latX l)) (.cells (vaX v)) T ∧ e 2 = .ptr 0 0 ∧ e 131 = .sl 4 (v.parts.map vaX) ∧ e 132 = .v (.int .i64 v.parts.length) ∧ e 133 = .v (.int .i64 k)) v.parts.length ⟨0, [], Zp _, rfl, hMB.symm, by rw [Y4 l, Yg v, h5]; rfl, rfl, rfl, rfl, rfl⟩ ?_
     rintro m e h' ⟨k, T, hk, rfl, hh, rfl, e2, e131, e132, e133⟩
     by_cases hlt : k < v.parts.length
     rotate_left
     · rw [Zl (by omega)] at hh
       rw [hh]
       repeat' first
        | (with_reducible first | refine sA rfl ?_ | refine sI rfl rfl ?_ | refine sT rfl ?_ | refine sB rfl ?_)
        | (with_reducible refine Y9 ?_; first | refine Y5 ?_ | (refine ao1 rfl rfl fun K HK => ?_; simp only [go_sem, ↓reduceIte, Z1, Z3, Z2, Z4, Z5, Z6, Z7, Z8, e2, e131, e132, e133, Z9]; (first | refine Y8 (fun hq => ?_) (fun hq => ?_) | (refine ⟨by omega, by omega, ?_⟩; intro row hrow; obtain ⟨x, hx, rfl⟩ := Ym hrow; clear hrow) | skip) <;> (refine HK _ _ ?_; clear HK K)))
        | (exfalso; omega)
       exact ⟨.inr rfl, endV hl0 rfl rfl ⟨rfl, rfl⟩⟩
     have hx : v.parts[k]? = some v.parts[k] := Zb hlt
     have wk : IntKind.i64.wrap ((k : Int) + 1) = ((k + 1 : Nat) : Int) := IntWalk.i64_in _ (by omega)
     rw [all_go (Zd hlt)] at hh
     have hpx := hpp _ (Zg hlt)
     have heq := equal_va G hG v.parts[k] (botV p) (hv.part _ (Zg hlt)) hvb
     generalize v.parts[k] = x at hx hh hpx heq
     generalize valC x (botV p) = vc at hh heq
     obtain ⟨bp, hbp⟩ : ∃ b, b = botV p := ⟨_, rfl⟩
     simp only [← hbp] at hbo heq
     clear hbp
     generalize Ua p x = ex at hh hpx
     have heq0 : ∀ b : Bool, decide (vc = 0) = b → ∀ h, Does Zn G 113 h [.agg (vaX x), .agg (vaX bp)] (fun h' r => h' = h ∧ r = .v (.bool b)) := fun b hb h => by rw [← hb]; exact heq h
     clear heq
     simp only [Yg x] at hpx heq0
     cases ex
     · rw [Zf, Zf] at hh
       rw [hh]
       repeat' first
        | (with_reducible first | refine sA rfl ?_ | refine sI rfl rfl ?_ | refine sT rfl ?_ | refine sB rfl ?_)
        | (with_reducible refine W2 ?_; first | refine Yf mixd (by kernel_rfl) ?_)
        | (with_reducible refine Y9 ?_; first | refine Y5 ?_ | (refine ao1 rfl rfl fun K HK => ?_; (first | refine Y6 rfl ?_ | skip); simp only [go_sem, ↓reduceIte, Z1, Z3, Z2, Z4, Z5, Z6, Z7, Z8, Y4 l, Y4 p, Yg x, e2, e131, e132, e133, Z9, Za, Zc, wk, vM_0, vM_1, Za3, Za4, vM_l, Zl6, Z0]; (first | refine Y8 (fun hq => ?_) (fun hq => ?_) | (refine ⟨by omega, by omega, ?_⟩; refine Ya (by assumption) ?_) | (refine ⟨by omega, ?_⟩; refine Ya (by assumption) ?_) | skip) <;> (refine HK _ _ ?_; clear HK K)) | (refine ao1' rfl fun K HK => ?_; simp only [go_sem, ↓reduceIte, Z1, Z3, Z2, Z4, Z5, Z6, Z7, Z8, Y4 l, Y4 p, Yg x, e2, e131, e132, e133, Z9, Za, Zc, wk, vM_0, vM_1, Za3, Za4, vM_l, Zl6, Z0]; refine HK _ _ ?_; clear HK K))
        | (with_reducible refine Vn ?_; first | (refine aq1 rfl rfl fun K HK => ?_; (first | refine Y6 rfl ?_ | skip); simp only [go_sem, ↓reduceIte, Z1, Z3, Z2, Z4, Z5, Z6, Z7, Z8, Y4 l, Y4 p, Yg x, e2, e131, e132, e133, Z9, Za, Zc, wk, vM_0, vM_1, Za3, Za4, vM_l, Zl6, Z0]; (first | refine Y8 (fun hq => ?_) (fun hq => ?_) | (refine ⟨by omega, by omega, ?_⟩; refine Ya (by assumption) ?_) | (refine ⟨by omega, ?_⟩; refine Ya (by assumption) ?_) | skip) <;> (refine HK _ _ rfl ?_; clear HK K)) | refine aq0 rfl rfl ?_ | refine Yv ?_ | refine aq2 rfl rfl rfl Zm7 (hpx _) ?_)
        | (exfalso; omega)
       all_goals first | (exfalso; omega) | exact ⟨.inr rfl, endV hl0 rfl rfl ⟨rfl, rfl⟩⟩
     · by_cases hz : vc = 0
       · rw [decide_eq_false (show ¬ vc ≠ 0 by omega), Bool.and_false, Zf] at hh
         rw [hh]
         repeat' first
          | (with_reducible first | refine sA rfl ?_ | refine sI rfl rfl ?_ | refine sT rfl ?_ | refine sB rfl ?_)
          | (with_reducible refine W2 ?_; first | refine Yf mixd (by kernel_rfl) ?_)
          | (with_reducible refine Y9 ?_; first | refine Y5 ?_ | (refine ao1 rfl rfl fun K HK => ?_; (first | refine Y6 rfl ?_ | skip); simp only [go_sem, ↓reduceIte, Z1, Z3, Z2, Z4, Z5, Z6, Z7, Z8, Y4 l, Y4 p, Yg x, e2, e131, e132, e133, Z9, Za, Zc, wk, vM_0, vM_1, Za3, Za4, vM_l, Zl6, Z0]; (first | refine Y8 (fun hq => ?_) (fun hq => ?_) | (refine ⟨by omega, by omega, ?_⟩; refine Ya (by assumption) ?_) | (refine ⟨by omega, ?_⟩; refine Ya (by assumption) ?_) | skip) <;> (refine HK _ _ ?_; clear HK K)) | (refine ao1' rfl fun K HK => ?_; simp only [go_sem, ↓reduceIte, Z1, Z3, Z2, Z4, Z5, Z6, Z7, Z8, Y4 l, Y4 p, Yg x, e2, e131, e132, e133, Z9, Za, Zc, wk, vM_0, vM_1, Za3, Za4, vM_l, Zl6, Z0]; refine HK _ _ ?_; clear HK K))
          | (with_reducible refine Vn ?_; first | (refine aq1 rfl rfl fun K HK => ?_; (first | refine Y6 rfl ?_ | skip); simp only [go_sem, ↓reduceIte, Z1, Z3, Z2, Z4, Z5, Z6, Z7, Z8, Y4 l, Y4 p, Yg x, e2, e131, e132, e133, Z9, Za, Zc, wk, vM_0, vM_1, Za3, Za4, vM_l, Zl6, Z0]; (first | refine Y8 (fun hq => ?_) (fun hq => ?_) | (refine ⟨by omega, by omega, ?_⟩; refine Ya (by assumption) ?_) | (refine ⟨by omega, ?_⟩; refine Ya (by assumption) ?_) | skip) <;> (refine HK _ _ rfl ?_; clear HK K)) | refine Yv ?_ | refine aq2 rfl rfl rfl Zm7 (hpx _) ?_ | refine aq2 rfl rfl rfl Yo5 (hbo _) ?_ | refine aq2 rfl rfl rfl ent_113 (heq0 true (decide_eq_true hz) _) ?_)
          | (exfalso; omega)
         all_goals first | (exfalso; omega) | exact ⟨.inr rfl, endV hl0 rfl rfl ⟨rfl, rfl⟩⟩
       · rw [decide_eq_true (show vc ≠ 0 from hz), Bool.and_true, Zh] at hh
         repeat' first
          | (with_reducible first | refine sA rfl ?_ | refine sI rfl rfl ?_ | refine sT rfl ?_ | refine sB rfl ?_)
          | (with_reducible refine W2 ?_; first | refine Yf mixd (by kernel_rfl) ?_)
          | (with_reducible refine Y9 ?_; first | refine Y5 ?_ | (refine ao1 rfl rfl fun K HK => ?_; (first | refine Y6 rfl ?_ | skip); simp only [go_sem, ↓reduceIte, Z1, Z3, Z2, Z4, Z5, Z6, Z7, Z8, Y4 l, Y4 p, Yg x, e2, e131, e132, e133, Z9, Za, Zc, wk, vM_0, vM_1, Za3, Za4, vM_l, Zl6, Z0]; (first | refine Y8 (fun hq => ?_) (fun hq => ?_) | (refine ⟨by omega, by omega, ?_⟩; refine Ya (by assumption) ?_) | (refine ⟨by omega, ?_⟩; refine Ya (by assumption) ?_) | skip) <;> (refine HK _ _ ?_; clear HK K)) | (refine ao1' rfl fun K HK => ?_; simp only [go_sem, ↓reduceIte, Z1, Z3, Z2, Z4, Z5, Z6, Z7, Z8, Y4 l, Y4 p, Yg x, e2, e131, e132, e133, Z9, Za, Zc, wk, vM_0, vM_1, Za3, Za4, vM_l, Zl6, Z0]; refine HK _ _ ?_; clear HK K))
          | (with_reducible refine Vn ?_; first | (refine aq1 rfl rfl fun K HK => ?_; (first | refine Y6 rfl ?_ | skip); simp only [go_sem, ↓reduceIte, Z1, Z3, Z2, Z4, Z5, Z6, Z7, Z8, Y4 l, Y4 p, Yg x, e2, e131, e132, e133, Z9, Za, Zc, wk, vM_0, vM_1, Za3, Za4, vM_l, Zl6, Z0]; (first | refine Y8 (fun hq => ?_) (fun hq => ?_) | (refine ⟨by omega, by omega, ?_⟩; refine Ya (by assumption) ?_) | (refine ⟨by omega, ?_⟩; refine Ya (by assumption) ?_) | skip) <;> (refine HK _ _ rfl ?_; clear HK K)) | refine Yv ?_ | refine aq2 rfl rfl rfl Zm7 (hpx _) ?_ | refine aq2 rfl rfl rfl Yo5 (hbo _) ?_ | refine aq2 rfl rfl rfl ent_113 (heq0 false (decide_eq_false hz) _) ?_)
          | (exfalso; omega)
         all_goals first | (exfalso; omega) | exact ⟨rfl, v.parts.length - (k + 1), by omega, k + 1, _, hlt, rfl, hh, by rw [Y4 l], e2, e131, e132, rfl⟩
 have h67 : l.kind = 6 ∨ l.kind = 7 := by omega
 rw [el_67 h67]
 have hu := Zn3 G hG v hv false false true false
 simp only [Yg v] at hu
 generalize Ue v false false true false = u at *
 clear hal hcl hrg
 have hk1 : ¬ l.kind = 1 := h1
 have hk2 : ¬ l.kind = 2 := by omega
 have hk3 : ¬ l.kind = 3 := by omega
 have hlpp := hsm.parts
 by_cases hbad : u = false ∨ v.parts.length ≠ l.parts.length
 · have e0 : (u && decide (v.parts.length = l.parts.length)) = false := by
    rcases hbad with h | h
    · rw [h]; rfl
    · rw [decide_eq_false h]; simp
   rw [e0, Zf]
   cases u
   all_goals
    skip
    repeat' first
     | (with_reducible first | refine sA rfl ?_ | refine sI rfl rfl ?_ | refine sT rfl ?_ | refine sB rfl ?_)
     | (with_reducible refine Y9 ?_; first | refine Y5 ?_ | (refine ao1 rfl rfl fun K HK => ?_; (first | refine Y6 rfl ?_ | skip); simp only [go_sem, ↓reduceIte, Z1, Z3, Z2, Z4, Z5, Z6, Z7, Z8, Y4 l, Yg v, hk1, hk2, hk3, h4, h5, h8, h9, h10, Z9, Z0]; (first | refine V5 (fun hq => ?_) (fun hq => ?_) | skip) <;> (refine HK _ _ ?_; clear HK K)) | refine ao0 rfl rfl ?_ | (refine ao2 rfl rfl rfl Jm (hu _) ?_; rintro _ _ ⟨rfl, rfl⟩))
    all_goals first | (exfalso; simp only [Bool.true_eq_false, false_or, or_false] at hbad; omega) | (exfalso; omega) | exact ⟨.inr rfl, endV hl0 rfl rfl ⟨rfl, rfl⟩⟩
 have hu1 : u = true := by cases u <;> simp_all
 have hlen : v.parts.length = l.parts.length := Zm fun q => hbad (.inr q)
 have hlen2 : (v.parts.length : Int) = (l.parts.length : Int) := by omega
 subst hu1
 rw [decide_eq_true hlen, Zh, Zh]
 repeat' first
  | (with_reducible first | refine sA rfl ?_ | refine sI rfl rfl ?_ | refine sT rfl ?_ | refine sB rfl ?_)
  | (with_reducible refine Y9 ?_; first | refine Y5 ?_ | (refine ao1 rfl rfl fun K HK => ?_; (first | refine Y6 rfl ?_ | skip); simp only [go_sem, ↓reduceIte, Z1, Z3, Z2, Z4, Z5, Z6, Z7, Z8, Y4 l, Yg v, hk1, hk2, hk3, h4, h5, h8, h9, h10, hlen2, Z9, Z0] <;> (refine HK _ _ ?_; clear HK K)) | (refine ao2 rfl rfl rfl Jm (hu _) ?_; rintro _ _ ⟨rfl, rfl⟩))
 refine Yp (fun m e h' => ∃ (k : Nat) (T : List Ob), k ≤ v.parts.length ∧ m = v.parts.length - k ∧ Zl5 l.parts v.parts = Zl5 (l.parts.drop k) (v.parts.drop k) ∧ h' = vM (.cells (latX l)) (.cells (vaX v)) T ∧ e 2 = .ptr 0 0 ∧ e 167 = .sl 4 (v.parts.map vaX) ∧ e 168 = .v (.int .i64 l.parts.length) ∧ e 169 = .v (.int .i64 k)) v.parts.length ⟨0, [], Zp _, rfl, rfl, by rw [Y4 l, Yg v]; rfl, rfl, rfl, rfl, rfl⟩ ?_
 rintro m e h' ⟨k, T, hk, rfl, hh, rfl, e2, e167, e168, e169⟩
 by_cases hlt : k < v.parts.length
 rotate_left
 · rw [Zl (by omega), els_nil] at hh
   rw [hh]
   repeat' first
    | (with_reducible first | refine sA rfl ?_ | refine sI rfl rfl ?_ | refine sT rfl ?_ | refine sB rfl ?_)
    | (with_reducible refine Y9 ?_; first | refine Y5 ?_ | (refine ao1 rfl rfl fun K HK => ?_; simp only [go_sem, ↓reduceIte, Z1, Z3, Z2, Z4, Z5, Z6, Z7, Z8, e2, e167, e168, e169, Z9]; (first | refine Y8 (fun hq => ?_) (fun hq => ?_) | (refine ⟨by omega, by omega, ?_⟩; intro row hrow; obtain ⟨x, hx, rfl⟩ := Ym hrow; clear hrow) | skip) <;> (refine HK _ _ ?_; clear HK K)))
    | (exfalso; omega)
   all_goals first | (exfalso; omega) | exact ⟨.inr rfl, endV hl0 rfl rfl ⟨rfl, rfl⟩⟩
 have hx : v.parts[k]? = some v.parts[k] := Zb hlt
 have hltp : k < l.parts.length := by omega
 have hp : l.parts[k]? = some l.parts[k] := Zb hltp
 have wk : IntKind.i64.wrap ((k : Int) + 1) = ((k + 1 : Nat) : Int) := IntWalk.i64_in _ (by omega)
 rw [els_go (Zd hltp) (Zd hlt)] at hh
 have hpx := hpp _ (Zg hltp) _ (Zg hlt)
 generalize v.parts[k] = x at hx hh hpx
 generalize l.parts[k] = p at hp hh hpx
 generalize Ua p x = ex at hh hpx
 simp only [Yg x, Y4 p] at hpx
 cases ex
 · rw [Zf] at hh
   rw [hh]
   repeat' first
    | (with_reducible first | refine sA rfl ?_ | refine sI rfl rfl ?_ | refine sT rfl ?_ | refine sB rfl ?_)
    | (with_reducible refine W2 ?_; first | refine Yf mixd (by kernel_rfl) ?_)
    | (with_reducible refine Y9 ?_; first | refine Y5 ?_ | (refine ao1 rfl rfl fun K HK => ?_; simp only [go_sem, ↓reduceIte, Z1, Z3, Z2, Z4, Z5, Z6, Z7, Z8, Y4 l, Y4 p, Yg x, e2, e167, e168, e169, Z9, Za, wk, vM_0, vM_1, Za3, Za4, vM_l, Zl6, Z0]; (first | refine Y8 (fun hq => ?_) (fun hq => ?_) | (refine ⟨by omega, by omega, ?_⟩; refine Ya (by assumption) ?_) | skip) <;> (refine HK _ _ ?_; clear HK K)) | (refine ao1' rfl fun K HK => ?_; simp only [go_sem, ↓reduceIte, Z1, Z3, Z2, Z4, Z5, Z6, Z7, Z8, Y4 l, Y4 p, Yg x, e2, e167, e168, e169, Z9, Za, wk, vM_0, vM_1, Za3, Za4, vM_l, Zl6, Z0]; refine HK _ _ ?_; clear HK K))
    | (with_reducible refine Vn ?_; first | (refine aq1 rfl rfl fun K HK => ?_; simp only [go_sem, ↓reduceIte, Z1, Z3, Z2, Z4, Z5, Z6, Z7, Z8, Y4 l, Y4 p, Yg x, e2, e167, e168, e169, Z9, Za, wk, vM_0, vM_1, Za3, Za4, vM_l, Zl6, Z0]; (first | refine Y8 (fun hq => ?_) (fun hq => ?_) | (refine ⟨by omega, by omega, ?_⟩; refine Ya (by assumption) ?_) | skip) <;> (refine HK _ _ rfl ?_; clear HK K)) | refine Yv ?_ | refine aq2 rfl rfl rfl Zm7 (hpx _) ?_)
    | (exfalso; omega)
   all_goals first | (exfalso; omega) | exact ⟨.inr rfl, endV hl0 rfl rfl ⟨rfl, rfl⟩⟩
 · rw [Zh] at hh
   repeat' first
    | (with_reducible first | refine sA rfl ?_ | refine sI rfl rfl ?_ | refine sT rfl ?_ | refine sB rfl ?_)
    | (with_reducible refine W2 ?_; first | refine Yf mixd (by kernel_rfl) ?_)
    | (with_reducible refine Y9 ?_; first | refine Y5 ?_ | (refine ao1 rfl rfl fun K HK => ?_; simp only [go_sem, ↓reduceIte, Z1, Z3, Z2, Z4, Z5, Z6, Z7, Z8, Y4 l, Y4 p, Yg x, e2, e167, e168, e169, Z9, Za, wk, vM_0, vM_1, Za3, Za4, vM_l, Zl6, Z0]; (first | refine Y8 (fun hq => ?_) (fun hq => ?_) | (refine ⟨by omega, by omega, ?_⟩; refine Ya (by assumption) ?_) | skip) <;> (refine HK _ _ ?_; clear HK K)) | (refine ao1' rfl fun K HK => ?_; simp only [go_sem, ↓reduceIte, Z1, Z3, Z2, Z4, Z5, Z6, Z7, Z8, Y4 l, Y4 p, Yg x, e2, e167, e168, e169, Z9, Za, wk, vM_0, vM_1, Za3, Za4, vM_l, Zl6, Z0]; refine HK _ _ ?_; clear HK K))
    | (with_reducible refine Vn ?_; first | (refine aq1 rfl rfl fun K HK => ?_; simp only [go_sem, ↓reduceIte, Z1, Z3, Z2, Z4, Z5, Z6, Z7, Z8, Y4 l, Y4 p, Yg x, e2, e167, e168, e169, Z9, Za, wk, vM_0, vM_1, Za3, Za4, vM_l, Zl6, Z0]; (first | refine Y8 (fun hq => ?_) (fun hq => ?_) | (refine ⟨by omega, by omega, ?_⟩; refine Ya (by assumption) ?_) | skip) <;> (refine HK _ _ rfl ?_; clear HK K)) | refine Yv ?_ | refine aq2 rfl rfl rfl Zm7 (hpx _) ?_)
    | (exfalso; omega)
   all_goals first | (exfalso; omega) | exact ⟨rfl, v.parts.length - (k + 1), by omega, k + 1, _, hlt, rfl, hh, by rw [Y4 l], e2, e167, e168, rfl⟩
end
section
attribute [local irreducible] on aOp
attribute [local go_sem] decide_true decide_false Zq Zo
attribute [local simp] byD_len
def isBotB (l : Lat) (v : Val) : Bool := decide (chkE l = 0) && decide (valC v (botV l) = 0)
theorem Zf5 {α : Type} {f : RS → α × RS} {enc : α → List UInt8} {p : α → Prop} (hk : Tks f enc) (hf : ∀ s : RS, s.Ok → s.data.length ≤ 1000000 → p (f s).1) : ∀ (n : Nat) (s : RS), s.Ok → s.data.length ≤ 1000000 → ∀ x ∈ (Yy f n s).1, p x
 | 0, s, _, _, x, hx => by simp [Zl9] at hx
 | n + 1, s, h, hl, x, hx => by
   by_cases h0 : s.err = 0
   · rw [J5 f n s h0] at hx
     obtain ⟨h1, h2⟩ := hk.ok s h
     rcases List.mem_cons.1 hx with rfl | hx
     · exact hf s h hl
     · exact Zf5 hk hf n _ h1 (by rw [h2]; exact hl) x hx
   · rw [Jx f _ s h0] at hx; simp at hx
theorem Za6 {α : Type} (f : RS → α × RS) : ∀ (n : Nat) (s : RS), (Yy f n s).1.length ≤ n
 | 0, s => by simp [Zl9]
 | n + 1, s => by
   by_cases h0 : s.err = 0
   · rw [J5 f n s h0]; have := Za6 f n (f s).2; simp; omega
   · rw [Jx f _ s h0]; simp
theorem Zj6 {s : RS} (h : s.Ok) (hl : s.data.length ≤ 1000000) : (Yx s).1.size ≤ 9223372036854775807 := by
 have := (Vc h).2.2
 show (strOf (Yn s).1).size ≤ _
 rw [strOf_size]; omega
theorem Yg5 {n : Int} {ns : List ByteArray} {ps : List Val} {es : List En} (h1 : ns.length ≤ 9223372036854775807) (h2 : ps.length ≤ 9223372036854775807) (h3 : es.length ≤ 9223372036854775807) (h4 : ∀ s ∈ ns, s.size ≤ 9223372036854775807) (h5 : ∀ e ∈ es, e.clock.length ≤ 9223372036854775807 ∧ e.name.size ≤ 9223372036854775807) (h6 : ∀ p ∈ ps, VSm p) : VSm (.mk n ns ps es) := .mk _ h1 h2 h3 h4 h5 h6
theorem Zn1 (n : Int) : VSm (.mk n [] [] []) := Yg5 (by simp) (by simp) (by simp) (by simp) (by simp) (by simp)
theorem Zn9 : ∀ (ps : List Lat), (∀ p ∈ ps, Tks (X3 p) (putV p)) → (∀ p ∈ ps, ∀ s : RS, s.Ok → s.data.length ≤ 1000000 → VSm (X3 p s).1) → ∀ s : RS, s.Ok → s.data.length ≤ 1000000 → (Yq ps s).1.length = ps.length ∧ ∀ x ∈ (Yq ps s).1, VSm x
 | [], _, _, s, _, _ => by simp [Yq]
 | p :: ps, ht, hv, s, ho, hl => by
  obtain ⟨o2, d2⟩ := (ht p (by simp)).ok s ho
  obtain ⟨h1, h2⟩ := Zn9 ps (fun q hq => ht q (by simp [hq])) (fun q hq => hv q (by simp [hq])) (X3 p s).2 o2 (by rw [d2]; exact hl)
  rw [Yq]
  refine ⟨by simp [h1], fun x hx => ?_⟩
  rcases List.mem_cons.1 hx with rfl | hx
  · exact hv p (by simp) s ho hl
  · exact h2 x hx
theorem count_okV {s : RS} (h : s.Ok) (hl : s.data.length ≤ 1000000) : (Yb s).2.Ok ∧ (Yb s).2.data.length ≤ 1000000 ∧ (Yb s).1 ≤ 1000000 := by
 obtain ⟨h1, h2, h3⟩ := U5 h
 exact ⟨h1, by rw [h2]; exact hl, by omega⟩
theorem read_smV (f : Nat) : ∀ l : Lat, SizeOf.sizeOf l ≤ f → WfL l → ∀ s : RS, s.Ok → s.data.length ≤ 1000000 → VSm (X3 l s).1 := by
 induction f with
 | zero => intro l hn; cases l; simp at hn
 | succ f ih =>
  intro l hn hwf s ho hl
  have hk := hwf.kinds
  have ip : ∀ p ∈ l.parts, ∀ s : RS, s.Ok → s.data.length ≤ 1000000 → VSm (X3 p s).1 := fun p hp => ih p (by have := Zh6 hp; omega) (hwf.part hp)
  have tp : ∀ p ∈ l.parts, Tks (X3 p) (putV p) := fun p hp => Yk0 _ p (Ze _) (hwf.part hp)
  obtain ⟨co, cl, cn⟩ := count_okV ho hl
  rcases Zs8 hk.1 with e | e | e | e | e | e | e
  · rw [rd_1 e]; exact Zn1 _
  · rw [rd_23 e]; exact Zn1 _
  · rw [rd_410 e]
    have := Za6 Yx (Yb s).1 (Yb s).2
    exact Yg5 (by omega) (by simp) (by simp) (fun x hx => Zf5 Ug (p := fun x => x.size ≤ 9223372036854775807) (fun s h hl => Zj6 h hl) _ _ co cl x hx) (by simp) (by simp)
  · obtain ⟨p, hb⟩ := Zk.1 (hk.2.1 e)
    rw [rd_5 e hb]
    have hpm : p ∈ l.parts := by rw [hb]; simp
    have := Za6 (Zd5 (X3 p)) (Yb s).1 (Yb s).2
    have hall : ∀ x ∈ (Yy (Zd5 (X3 p)) (Yb s).1 (Yb s).2).1, x.1.size ≤ 9223372036854775807 ∧ VSm x.2 := fun x hx => Zf5 (tks_pair (tp p hpm)) (p := fun x => x.1.size ≤ 9223372036854775807 ∧ VSm x.2) (fun s h hl => by
     obtain ⟨o2, d2⟩ := Ug.ok s h
     exact ⟨Zj6 h hl, ip p hpm _ o2 (by rw [d2]; exact hl)⟩) _ _ co cl x hx
    refine Yg5 (by rw [Z9]; omega) (by rw [Z9]; omega) (by simp) (fun x hx => ?_) (by simp) (fun x hx => ?_)
    · obtain ⟨y, hy, rfl⟩ := List.mem_map.1 hx; exact (hall y hy).1
    · obtain ⟨y, hy, rfl⟩ := List.mem_map.1 hx; exact (hall y hy).2
  · rw [rd_67 e]
    obtain ⟨h1, h2⟩ := Zn9 l.parts tp ip s ho hl
    have h67 : l.parts.length ≤ 8 := by rcases e with e | e; have := hk.2.2.2.1 e; omega; have := hk.2.2.1 e; omega
    exact Yg5 (by simp) (by omega) (by simp) (by simp) (by simp) h2
  · rw [rd_8 e]
    obtain ⟨o2, d2⟩ := Vp 2 ho
    split
    · exact Yg5 (by simp) (by simp) (by simp) (fun x hx => by simp only [List.mem_singleton] at hx; subst hx; exact Zj6 o2 (by rw [d2]; exact hl)) (by simp) (by simp)
    · exact Zn1 _
  · rw [rd_9 e]
    have := Za6 Za9 (Yb s).1 (Yb s).2
    refine Yg5 (by simp) (by simp) (by omega) (by simp) (fun x hx => ?_) (by simp)
    exact Zf5 Zy4 (p := fun x : En => x.clock.length ≤ 9223372036854775807 ∧ x.name.size ≤ 9223372036854775807) (fun s h hl => by
     obtain ⟨o2, l2, n2⟩ := count_okV h hl
     have hlen := Za6 Zi3 (Yb s).1 (Yb s).2
     obtain ⟨o3, d3⟩ := Zi4 Zv9 (Yb s).1 (Yb s).2 o2
     exact ⟨show (Yy Zi3 (Yb s).1 (Yb s).2).1.length ≤ _ by omega, Zj6 (s := (Yl8 s).2) o3 (by show (Yy Zi3 (Yb s).1 (Yb s).2).2.data.length ≤ _; rw [d3]; exact l2)⟩) _ _ co cl x hx
theorem Yj5 (e : Int) : Wk (.tup [.agg nilV, .v (.int .i64 e)]) (.tup [.agg (vaX zeroV), .v (.int .i64 e)]) := by
 rw [show vaX zeroV = [.v (.int .i64 0), .sl 1 [], .sl 4 [], .sl 2 []] by rw [Yg]; rfl]
 exact wk_tup (Uz (Zq8 Xs Xs Xs) (Uz (U1 _) wkL_nil))
variable (G : Nat → D) (hG : ∀ g, low 0 (G g))
include hG
theorem read_any (f : Nat) : ∀ l : Lat, SizeOf.sizeOf l ≤ f → WfL l → ReadD G l := by
 induction f with
 | zero => intro l hn; cases l; simp at hn
 | succ f ih =>
  intro l hn hwf
  have hk := hwf.kinds
  have hp : ∀ p ∈ l.parts, ReadD G p := fun p hp => ih p (by have := Zh6 hp; omega) (hwf.part hp)
  have ht : ∀ p ∈ l.parts, ∀ s : RS, s.Ok → (X3 p s).2.Ok ∧ (X3 p s).2.data = s.data := fun p hp => (Yk0 _ p (Ze _) (hwf.part hp)).ok
  rcases Zs8 hk.1 with e | e | e | e | e | e | e
  · exact read_1 G hG l e
  · exact read_23 G hG l e
  · exact read_410 G hG l e
  · obtain ⟨p, hb⟩ := Zk.1 (hk.2.1 e)
    exact read_5 G hG l e p hb (hp p (by rw [hb]; simp)) (ht p (by rw [hb]; simp))
  · exact read_67 G hG l e (by rcases e with e | e; have := hk.2.2.2.1 e; omega; have := hk.2.2.1 e; omega) hp ht
  · exact read_8 G hG l e
  · exact read_9 G hG l e
theorem decode_v (l : Lat) (hsm : Sm l) (b : List UInt8) (hb : b.length ≤ 1000000) (h : List Ob) : Does Zn G 91 h [.agg (latX l), .sl 1 (byD b)] (fun h' r => h' = h ∧ r = .tup [.agg (vaX (Zd3 l b).1), .v (.int .i64 (Zd3 l b).2)]) := by
 refine Yh G hG (by simp only [lowL, low]; exact ⟨Zm4 _ l, Yz _ b, trivial⟩) (by simp only [lowL, low]; exact ⟨Uk _ _, trivial, trivial⟩) ?_ h
 clear h
 have hck := check_d G hG l hsm
 simp only [Y4 l] at hck
 apply Does.weak
 refine Y7 Tryz.func91 rfl (Zi rfl) hG fun hl0 _ => ?_
 simp only [Tryz.ntmps91]
 by_cases hc : chkE l = 0
 rotate_left
 · have hR : Zd3 l b = (zeroV, 1) := by unfold Zd3; rw [if_pos hc]
   rw [hR]
   repeat' first
    | (with_reducible first | refine sA rfl ?_ | refine sI rfl rfl ?_ | refine sT rfl ?_)
    | (with_reducible refine Y9 ?_; first | refine Y5 ?_ | (refine ao1 rfl rfl fun K HK => ?_; simp only [go_sem, ↓reduceIte, Z1, Z3, Z2, Z4, Z5, Z6, Z7, Z8, Y4 l, hc, Z0] <;> (refine HK _ _ ?_; clear HK K)) | (refine ao2 rfl rfl rfl Zu9 (hck _) ?_; rintro _ _ ⟨rfl, rfl⟩) | (refine ao1' rfl fun K HK => ?_; simp only [go_sem, ↓reduceIte, Z1, Z3, Z2, Z4, Z5, Z6, Z7, Z8, Y4 l, hc, Z0]; refine HK _ _ ?_; clear HK K))
   exact ⟨.inr rfl, endD (ds := [.agg nilV, .v (.int .i64 1)]) (r := .tup [.agg nilV, .v (.int .i64 1)]) hl0 (by simp only [resD, Tryz.results91, go_sem, ↓reduceIte, Z1, Z3, Z2]; try rfl) (by simp) (by simp) (by simp [outD, cvD, cv1, nilV]) (by simp [low, lowL, nilV]) ⟨_, ⟨rfl, rfl⟩, Yj5 1⟩⟩
 rw [hc] at hck
 have hwf := chkE_wf hc
 have hvs := read_smV _ l (Ze _) hwf ⟨b, 0, 0, 0⟩ (new_ok b) hb
 obtain ⟨hto, htd⟩ := (Yk0 _ l (Ze _) hwf).ok ⟨b, 0, 0, 0⟩ (new_ok b)
 have hrd := fun (h : List Ob) (q : h[2]? = some (Yc ⟨b, 0, 0, 0⟩)) => (read_any G hG _ l (Ze _) hwf).at hG (new_ok b) hb q
 have hnw := Yb6 G hG b (by omega)
 have hR : Zd3 l b = if (X3 l ⟨b, 0, 0, 0⟩).2.ends ≠ 0 ∨ Ua l (X3 l ⟨b, 0, 0, 0⟩).1 = false then (zeroV, 2) else ((X3 l ⟨b, 0, 0, 0⟩).1, 0) := by unfold Zd3; rw [if_neg (fun h => h hc)]
 generalize X3 l ⟨b, 0, 0, 0⟩ = y at *
 obtain ⟨v, t⟩ := y
 simp only at hvs hto htd hrd hR
 have hen := fun (h : List Ob) (q : h[2]? = some (Yc t)) => rEnd_d G hG 2 t h q hto (by rw [htd]; show b.length ≤ _; omega)
 have hel := element_d G hG _ l v (Ze _) hwf hsm hvs
 simp only [Y4 l, Yg v] at hrd hel
 generalize t.ends = te at *
 by_cases he : te = 0
 rotate_left
 · rw [if_pos (.inl he)] at hR
   rw [hR]
   repeat' first
    | (with_reducible first | refine sA rfl ?_ | refine sI rfl rfl ?_ | refine sT rfl ?_)
    | (with_reducible refine Y9 ?_; first | refine Y5 ?_ | (refine ao1 rfl rfl fun K HK => ?_; (first | refine Y6 rfl ?_ | skip); simp only [go_sem, ↓reduceIte, Z1, Z3, Z2, Z4, Z5, Z6, Z7, Z8, Y4 l, he, Z0] <;> (refine HK _ _ ?_; clear HK K)) | refine ao0 rfl rfl ?_ | (refine ao2 rfl rfl rfl Zu9 (hck _) ?_; rintro _ _ ⟨rfl, rfl⟩) | (refine ao2 rfl rfl rfl ent_47 (hnw _) ?_; rintro _ _ ⟨rfl, rfl⟩) | (refine ao2 rfl rfl rfl Yd8 (hrd _ (by first | rfl | (simp; done))) ?_; rintro _ _ ⟨rfl, rfl⟩) | (refine ao2 rfl rfl rfl ent_52 (hen _ (by first | rfl | (simp; done))) ?_; rintro _ _ ⟨rfl, rfl⟩) | (refine ao1' rfl fun K HK => ?_; simp only [go_sem, ↓reduceIte, Z1, Z3, Z2, Z4, Z5, Z6, Z7, Z8, Y4 l, he, Z0]; refine HK _ _ ?_; clear HK K))
   exact ⟨.inr rfl, endD (ds := [.agg nilV, .v (.int .i64 2)]) (r := .tup [.agg nilV, .v (.int .i64 2)]) hl0 (by simp only [resD, Tryz.results91, go_sem, ↓reduceIte, Z1, Z3, Z2]; try rfl) (by simp) (by simp) (by simp [outD, cvD, cv1, nilV]) (by simp [low, lowL, nilV]) ⟨_, ⟨rfl, rfl⟩, Yj5 2⟩⟩
 subst he
 cases hel2 : Ua l v <;> rw [hel2] at hel
 · rw [if_pos (.inr hel2)] at hR
   rw [hR]
   repeat' first
    | (with_reducible first | refine sA rfl ?_ | refine sI rfl rfl ?_ | refine sT rfl ?_)
    | (with_reducible refine Y9 ?_; first | refine Y5 ?_ | (refine ao1 rfl rfl fun K HK => ?_; (first | refine Y6 rfl ?_ | skip); simp only [go_sem, ↓reduceIte, Z1, Z3, Z2, Z4, Z5, Z6, Z7, Z8, Y4 l, Z0] <;> (refine HK _ _ ?_; clear HK K)) | (refine ao2 rfl rfl rfl Zu9 (hck _) ?_; rintro _ _ ⟨rfl, rfl⟩) | (refine ao2 rfl rfl rfl ent_47 (hnw _) ?_; rintro _ _ ⟨rfl, rfl⟩) | (refine ao2 rfl rfl rfl Yd8 (hrd _ (by first | rfl | (simp; done))) ?_; rintro _ _ ⟨rfl, rfl⟩) | (refine ao2 rfl rfl rfl ent_52 (hen _ (by first | rfl | (simp; done))) ?_; rintro _ _ ⟨rfl, rfl⟩) | (refine ao2 rfl rfl rfl Zm7 (hel _) ?_; rintro _ _ ⟨rfl, rfl⟩) | (refine ao1' rfl fun K HK => ?_; simp only [go_sem, ↓reduceIte, Z1, Z3, Z2, Z4, Z5, Z6, Z7, Z8, Y4 l, Z0]; refine HK _ _ ?_; clear HK K))
   exact ⟨.inr rfl, endD (ds := [.agg nilV, .v (.int .i64 2)]) (r := .tup [.agg nilV, .v (.int .i64 2)]) hl0 (by simp only [resD, Tryz.results91, go_sem, ↓reduceIte, Z1, Z3, Z2]; try rfl) (by simp) (by simp) (by simp [outD, cvD, cv1, nilV]) (by simp [low, lowL, nilV]) ⟨_, ⟨rfl, rfl⟩, Yj5 2⟩⟩
 · rw [if_neg (by rw [hel2]; simp)] at hR
   rw [hR]
   repeat' first
    | (with_reducible first | refine sA rfl ?_ | refine sI rfl rfl ?_ | refine sT rfl ?_)
    | (with_reducible refine Y9 ?_; first | refine Y5 ?_ | (refine ao1 rfl rfl fun K HK => ?_; (first | refine Y6 rfl ?_ | skip); simp only [go_sem, ↓reduceIte, Z1, Z3, Z2, Z4, Z5, Z6, Z7, Z8, Y4 l, Z0] <;> (refine HK _ _ ?_; clear HK K)) | (refine ao2 rfl rfl rfl Zu9 (hck _) ?_; rintro _ _ ⟨rfl, rfl⟩) | (refine ao2 rfl rfl rfl ent_47 (hnw _) ?_; rintro _ _ ⟨rfl, rfl⟩) | (refine ao2 rfl rfl rfl Yd8 (hrd _ (by first | rfl | (simp; done))) ?_; rintro _ _ ⟨rfl, rfl⟩) | (refine ao2 rfl rfl rfl ent_52 (hen _ (by first | rfl | (simp; done))) ?_; rintro _ _ ⟨rfl, rfl⟩) | (refine ao2 rfl rfl rfl Zm7 (hel _) ?_; rintro _ _ ⟨rfl, rfl⟩) | (refine ao1' rfl fun K HK => ?_; simp only [go_sem, ↓reduceIte, Z1, Z3, Z2, Z4, Z5, Z6, Z7, Z8, Y4 l, Z0]; refine HK _ _ ?_; clear HK K))
   refine ⟨.inr rfl, endD (ds := [.agg [.v (.int .i64 v.n), .sl 1 (v.names.map strX), .sl 4 (v.parts.map vaX), .sl 2 (v.entries.map enX)], .v (.int .i64 0)]) (r := .tup [.agg (vaX v), .v (.int .i64 0)]) hl0 (by simp only [resD, Tryz.results91, go_sem, ↓reduceIte, Z1, Z3, Z2]; try rfl) (by simp) (by simp) ?_ (by simp only [lowL, low]; exact ⟨Uk _ _, trivial, trivial⟩) ⟨_, ⟨rfl, rfl⟩, U1 _⟩⟩
   rw [Yg v]; simp [outD, cvD, cv1]
theorem isBottom_v (l : Lat) (hsm : Sm l) (v : Val) (hv : VSm v) (h : List Ob) : Does Zn G 92 h [.agg (latX l), .agg (vaX v)] (fun h' r => h' = h ∧ r = .v (.bool (isBotB l v))) := by
 refine Yh G hG (by simp only [lowL, low]; exact ⟨Zm4 _ l, Uk _ v, trivial⟩) (by rw [low]; trivial) ?_ h
 clear h
 have hck := check_d G hG l hsm
 simp only [Y4 l] at hck
 unfold isBotB
 refine Y7 Tryz.func92 rfl (Zi rfl) hG fun hl0 _ => ?_
 simp only [Tryz.ntmps92]
 by_cases hc : chkE l = 0
 rotate_left
 · rw [decide_eq_false hc, Zf]
   repeat' first
    | (with_reducible first | refine sA rfl ?_ | refine sT rfl ?_)
    | (with_reducible refine W2 ?_; first | refine Yf mixd (by kernel_rfl) ?_)
    | (with_reducible refine Y9 ?_; first | refine Y5 ?_ | (refine ao1 rfl rfl fun K HK => ?_; (first | refine Y6 rfl ?_ | skip); simp only [go_sem, ↓reduceIte, Z1, Z3, Z2, Z4, Z5, Z6, Z7, Z8, Y4 l, Yg v, hc, Z0] <;> (refine HK _ _ ?_; clear HK K)))
    | (with_reducible refine Vn ?_; first | (refine aq1 rfl rfl fun K HK => ?_; (first | refine Y6 rfl ?_ | skip); simp only [go_sem, ↓reduceIte, Z1, Z3, Z2, Z4, Z5, Z6, Z7, Z8, Y4 l, Yg v, hc, Z0] <;> (refine HK _ _ rfl ?_; clear HK K)) | refine aq0 rfl rfl ?_ | refine Yv ?_ | refine aq2 rfl rfl rfl Zu9 (hck _) ?_)
   exact ⟨.inr rfl, endV hl0 rfl rfl ⟨rfl, rfl⟩⟩
 rw [hc] at hck
 have hbo := bottom_d G hG _ l (Ze _) (chkE_wf hc)
 have heq := equal_va G hG v (botV l) hv (vsm_bot _ l (Ze _) hsm)
 simp only [Y4 l] at hbo
 simp only [Yg v] at heq
 rw [decide_eq_true hc, Zh]
 generalize decide (valC v (botV l) = 0) = bb at *
 repeat' first
  | (with_reducible first | refine sA rfl ?_ | refine sT rfl ?_)
  | (with_reducible refine W2 ?_; first | refine Yf mixd (by kernel_rfl) ?_)
  | (with_reducible refine Y9 ?_; first | refine Y5 ?_ | (refine ao1 rfl rfl fun K HK => ?_; (first | refine Y6 rfl ?_ | skip); simp only [go_sem, ↓reduceIte, Z1, Z3, Z2, Z4, Z5, Z6, Z7, Z8, Y4 l, Yg v, Z0] <;> (refine HK _ _ ?_; clear HK K)))
  | (with_reducible refine Vn ?_; first | (refine aq1 rfl rfl fun K HK => ?_; (first | refine Y6 rfl ?_ | skip); simp only [go_sem, ↓reduceIte, Z1, Z3, Z2, Z4, Z5, Z6, Z7, Z8, Y4 l, Yg v, Z0] <;> (refine HK _ _ rfl ?_; clear HK K)) | refine Yv ?_ | refine aq2 rfl rfl rfl Zu9 (hck _) ?_ | refine aq2 rfl rfl rfl Yo5 (hbo _) ?_ | refine aq2 rfl rfl rfl ent_113 (heq _) ?_)
 exact ⟨.inr rfl, endV hl0 rfl rfl ⟨rfl, rfl⟩⟩
end
section
attribute [local irreducible] on aOp
attribute [local go_sem] decide_true decide_false Zq Zo
attribute [local simp] byD_len
theorem latsE_go {l : List (ByteArray × Lat)} {k : Nat} {o : ByteArray × Lat} (h : l.drop k = o :: l.drop (k + 1)) : Yg1 (l.drop k) = if chkE o.2 ≠ 0 then chkE o.2 else Yg1 (l.drop (k + 1)) := by rw [h, Yg1]
theorem names_at {l : List (ByteArray × Lat)} {k : Nat} {o : ByteArray × Lat} (h : l[k]? = some o) : (l.map (·.1))[k]? = some o.1 := by rw [List.getElem?_map, h]; rfl
theorem ris_0 {l : List ByteArray} {x : ByteArray} (h : l[0]? = some x) : Xj l 0 = (Js x && Xj l 1) := by
 obtain ⟨hl, rfl⟩ := Zj.1 h
 exact rising_step0 l hl
theorem ris_s {l : List ByteArray} {j : Nat} {x y : ByteArray} (hy : l[j]? = some y) (hx : l[j + 1]? = some x) : Xj l (j + 1) = (Js x && (Yf7 y x && Xj l (j + 2))) := by
 obtain ⟨hl, rfl⟩ := Zj.1 hx
 obtain ⟨hm, rfl⟩ := Zj.1 hy
 exact rising_step l j hl
variable (G : Nat → D) (hG : ∀ g, low 0 (G g))
include hG
theorem genesis_d (g : GenL) (hg : GSm g) (h : List Ob) : Does Zn G 14 h [.agg (gnX g)] (fun h' r => h' = h ∧ r = .v (.int .i64 (genE g))) := by
 refine Yh G hG (by rw [lowL, lowL, low]; exact ⟨low_gn _ g, trivial⟩) (by rw [low]; trivial) ?_ h
 clear h
 have hfo := rising_d G hG g.founders g.replicas hg.fo
 have had := rising_d G hG g.admins g.clients hg.ad
 have hfl := hg.fo
 have hal := hg.ad
 have hol := hg.ob
 have bad1 : Zu6 g → genE g = 1 := fun q => by unfold genE; rw [if_pos q]
 have good1 : ¬ Zu6 g → genE g = if 64 < g.objects.length then 6 else if Jc (g.objects.map (·.1)) = false then 3 else Yg1 g.objects := fun q => by unfold genE; rw [if_neg q]
 unfold Zu6 at bad1 good1
 generalize risP g.replicas (-1) g.founders = rf at *
 generalize risP g.clients (-1) g.admins = ra at *
 generalize genE g = ge at *
 refine Y7 Tryz.func14 rfl (Zi rfl) hG fun hl0 _ => ?_
 simp only [Tryz.ntmps14]
 by_cases hb : (g.mode ≠ 1 ∧ g.mode ≠ 2) ∨ g.replicas < 1 ∨ 12 < g.replicas ∨ g.clients < 1 ∨ 6 < g.clients ∨ g.founders.length = 0 ∨ rf = false ∨ ra = false
 · obtain rfl := bad1 hb
   clear bad1 good1
   cases rf
   · skip
     repeat' first
      | (with_reducible first | refine sA rfl ?_ | refine sI rfl rfl ?_ | refine sT rfl ?_)
      | (with_reducible refine Y9 ?_; first | refine Y5 ?_ | (refine ao1 rfl rfl fun K HK => ?_; (first | refine Y6 rfl ?_ | skip); simp only [go_sem, ↓reduceIte, Z1, Z3, Z2, Z4, Z5, Z6, Z7, Z8, Xq g, Z9, Z0]; (first | refine Y8 (fun hq => ?_) (fun hq => ?_) | refine V5 (fun hq => ?_) (fun hq => ?_) | skip) <;> (refine HK _ _ ?_; clear HK K)) | refine ao0 rfl rfl ?_ | (refine ao2 rfl rfl rfl Zq0 (hfo _) ?_; rintro _ _ ⟨rfl, rfl⟩))
     all_goals first
     | (exfalso; omega)
     | exact ⟨.inr rfl, endV hl0 rfl rfl ⟨rfl, rfl⟩⟩
   · cases ra
     · skip
       repeat' first
        | (with_reducible first | refine sA rfl ?_ | refine sI rfl rfl ?_ | refine sT rfl ?_)
        | (with_reducible refine Y9 ?_; first | refine Y5 ?_ | (refine ao1 rfl rfl fun K HK => ?_; (first | refine Y6 rfl ?_ | skip); simp only [go_sem, ↓reduceIte, Z1, Z3, Z2, Z4, Z5, Z6, Z7, Z8, Xq g, Z9, Z0]; (first | refine Y8 (fun hq => ?_) (fun hq => ?_) | refine V5 (fun hq => ?_) (fun hq => ?_) | skip) <;> (refine HK _ _ ?_; clear HK K)) | refine ao0 rfl rfl ?_ | (refine ao2 rfl rfl rfl Zq0 (hfo _) ?_; rintro _ _ ⟨rfl, rfl⟩) | (refine ao2 rfl rfl rfl Zq0 (had _) ?_; rintro _ _ ⟨rfl, rfl⟩))
       all_goals first
       | (exfalso; omega)
       | exact ⟨.inr rfl, endV hl0 rfl rfl ⟨rfl, rfl⟩⟩
     · have hb : (g.mode ≠ 1 ∧ g.mode ≠ 2) ∨ g.replicas < 1 ∨ 12 < g.replicas ∨ g.clients < 1 ∨ 6 < g.clients ∨ g.founders.length = 0 := by
        rcases hb with h | h | h | h | h | h | h | h
        all_goals first | omega | cases h
       repeat' first
        | (with_reducible first | refine sA rfl ?_ | refine sI rfl rfl ?_ | refine sT rfl ?_)
        | (with_reducible refine Y9 ?_; first | refine Y5 ?_ | (refine ao1 rfl rfl fun K HK => ?_; (first | refine Y6 rfl ?_ | skip); simp only [go_sem, ↓reduceIte, Z1, Z3, Z2, Z4, Z5, Z6, Z7, Z8, Xq g, Z9, Z0]; (first | refine Y8 (fun hq => ?_) (fun hq => ?_) | refine V5 (fun hq => ?_) (fun hq => ?_) | skip) <;> (refine HK _ _ ?_; clear HK K)) | refine ao0 rfl rfl ?_ | (refine ao2 rfl rfl rfl Zq0 (hfo _) ?_; rintro _ _ ⟨rfl, rfl⟩) | (refine ao2 rfl rfl rfl Zq0 (had _) ?_; rintro _ _ ⟨rfl, rfl⟩))
        | (exfalso; omega)
       all_goals first
       | (exfalso; omega)
       | exact ⟨.inr rfl, endV hl0 rfl rfl ⟨rfl, rfl⟩⟩
 have hge := good1 hb
 clear bad1 good1
 obtain rfl : rf = true := by cases rf <;> simp_all
 obtain rfl : ra = true := by cases ra <;> simp_all
 have hb1 : (g.mode = 1 ∨ g.mode = 2) ∧ 1 ≤ g.replicas ∧ g.replicas ≤ 12 ∧ 1 ≤ g.clients ∧ g.clients ≤ 6 ∧ g.founders.length ≠ 0 := by
  refine ⟨?_, ?_, ?_, ?_, ?_, ?_⟩ <;> (by_cases hz : g.mode = 1 <;> by_cases hy : g.mode = 2 <;> simp_all <;> omega)
 clear hb
 by_cases h64 : 64 < g.objects.length
 · rw [if_pos h64] at hge
   repeat' first
    | (with_reducible first | refine sA rfl ?_ | refine sI rfl rfl ?_ | refine sT rfl ?_)
    | (with_reducible refine Y9 ?_; first | refine Y5 ?_ | (refine ao1 rfl rfl fun K HK => ?_; (first | refine Y6 rfl ?_ | skip); simp only [go_sem, ↓reduceIte, Z1, Z3, Z2, Z4, Z5, Z6, Z7, Z8, Xq g, Z9, Z0]; (first | refine Y8 (fun hq => ?_) (fun hq => ?_) | refine V5 (fun hq => ?_) (fun hq => ?_) | skip) <;> (refine HK _ _ ?_; clear HK K)) | refine ao0 rfl rfl ?_ | (refine ao2 rfl rfl rfl Zq0 (hfo _) ?_; rintro _ _ ⟨rfl, rfl⟩) | (refine ao2 rfl rfl rfl Zq0 (had _) ?_; rintro _ _ ⟨rfl, rfl⟩))
    | (exfalso; omega)
   all_goals first
   | (exfalso; omega)
   | exact ⟨.inr rfl, endD (r := .v (.int .i64 6)) hl0 rfl (by simp) (by simp) rfl (by rw [low]; trivial) ⟨rfl, by rw [hge]⟩⟩
 rw [if_neg h64] at hge
 have m1 : ¬ (g.mode ≠ 1 ∧ g.mode ≠ 2) := by omega
 have step : ∀ (P : Prop), P → P := fun _ h => h
 repeat' first
  | (with_reducible first | refine sA rfl ?_ | refine sI rfl rfl ?_ | refine sT rfl ?_)
  | (with_reducible refine Y9 ?_; first | refine Y5 ?_ | (refine ao1 rfl rfl fun K HK => ?_; (first | refine Y6 rfl ?_ | skip); simp only [go_sem, ↓reduceIte, Z1, Z3, Z2, Z4, Z5, Z6, Z7, Z8, Xq g, Z9, Z0]; (first | refine Y8 (fun hq => ?_) (fun hq => ?_) | refine V5 (fun hq => ?_) (fun hq => ?_) | skip) <;> (refine HK _ _ ?_; clear HK K)) | refine ao0 rfl rfl ?_ | (refine ao2 rfl rfl rfl Zq0 (hfo _) ?_; rintro _ _ ⟨rfl, rfl⟩) | (refine ao2 rfl rfl rfl Zq0 (had _) ?_; rintro _ _ ⟨rfl, rfl⟩))
  | (exfalso; omega)
 all_goals try (exfalso; omega)
 all_goals
  refine Yp (fun m e h' => ∃ (k : Nat) (T : List Ob), k ≤ g.objects.length ∧ m = g.objects.length - k ∧ Xj (g.objects.map (·.1)) 0 = Xj (g.objects.map (·.1)) k ∧ h' = gM (.cells (gnX g)) T ∧ e 1 = .ptr 0 0 ∧ e 63 = .sl 7 (g.objects.map gobX) ∧ e 64 = .v (.int .i64 g.objects.length) ∧ e 65 = .v (.int .i64 k)) g.objects.length ⟨0, [], Zp _, rfl, rfl, rfl, rfl, rfl, rfl, rfl⟩ ?_
  rintro m e h' ⟨k, T, hk, rfl, ho, rfl, e1, e63, e64, e65⟩
  by_cases hlt : k < g.objects.length
  · have hx : g.objects[k]? = some g.objects[k] := Zb hlt
    have hxn := names_at hx
    have wk : IntKind.i64.wrap ((k : Int) + 1) = ((k + 1 : Nat) : Int) := IntWalk.i64_in _ (by omega)
    have hn := Zg0 G hG g.objects[k].1 (hg.na _ (Zg hlt))
    generalize g.objects[k] = x at hx hn hxn
    rcases Nat.eq_zero_or_pos k with h0 | h0
    · subst h0
      have ho2 := ris_0 hxn
      cases hnb : Js x.1 <;> rw [hnb] at hn ho2
      · have e0 : Jc (g.objects.map (·.1)) = false := by rw [← Zf2, ho2]; rfl
        rw [if_pos e0] at hge
        repeat' first
         | (with_reducible first | refine sA rfl ?_ | refine sI rfl rfl ?_ | refine sT rfl ?_ | refine sB rfl ?_)
         | (with_reducible refine W2 ?_; first | refine Yf mixd (by kernel_rfl) ?_)
         | (with_reducible refine Y9 ?_; first | refine Y5 ?_ | (refine ao1 rfl rfl fun K HK => ?_; (first | refine Y6 rfl ?_ | skip); simp only [go_sem, ↓reduceIte, Z1, Z3, Z2, Z4, Z5, Z6, Z7, Z8, Xq g, Xp x, e1, e63, e64, e65, Z9, Za, wk, gM_0, Wo, Wp, gM_l, Um, Z0]; (first | refine Y8 (fun hq => ?_) (fun hq => ?_) | (refine ⟨by omega, by omega, ?_⟩; refine Ya (by assumption) ?_) | skip) <;> (refine HK _ _ ?_; clear HK K)) | (refine ao1' rfl fun K HK => ?_; simp only [go_sem, ↓reduceIte, Z1, Z3, Z2, Z4, Z5, Z6, Z7, Z8, Xq g, Xp x, e1, e63, e64, e65, Z9, Za, wk, gM_0, Wo, Wp, gM_l, Um, Z0]; refine HK _ _ ?_; clear HK K))
         | (with_reducible refine Vn ?_; first | (refine aq1 rfl rfl fun K HK => ?_; (first | refine Y6 rfl ?_ | skip); simp only [go_sem, ↓reduceIte, Z1, Z3, Z2, Z4, Z5, Z6, Z7, Z8, Xq g, Xp x, e1, e63, e64, e65, Z9, Za, wk, gM_0, Wo, Wp, gM_l, Um, Z0]; (first | refine Y8 (fun hq => ?_) (fun hq => ?_) | (refine ⟨by omega, by omega, ?_⟩; refine Ya (by assumption) ?_) | skip) <;> (refine HK _ _ rfl ?_; clear HK K)) | refine aq0 rfl rfl ?_ | refine Yv ?_ | refine aq2 rfl rfl rfl J7 (hn _) ?_)
         | (exfalso; omega)
        exact ⟨.inr rfl, endD (r := .v (.int .i64 3)) hl0 rfl (by simp) (by simp) rfl (by rw [low]; trivial) ⟨rfl, by rw [hge]⟩⟩
      · skip
        repeat' first
         | (with_reducible first | refine sA rfl ?_ | refine sI rfl rfl ?_ | refine sT rfl ?_ | refine sB rfl ?_)
         | (with_reducible refine W2 ?_; first | refine Yf mixd (by kernel_rfl) ?_)
         | (with_reducible refine Y9 ?_; first | refine Y5 ?_ | (refine ao1 rfl rfl fun K HK => ?_; (first | refine Y6 rfl ?_ | skip); simp only [go_sem, ↓reduceIte, Z1, Z3, Z2, Z4, Z5, Z6, Z7, Z8, Xq g, Xp x, e1, e63, e64, e65, Z9, Za, wk, gM_0, Wo, Wp, gM_l, Um, Z0]; (first | refine Y8 (fun hq => ?_) (fun hq => ?_) | (refine ⟨by omega, by omega, ?_⟩; refine Ya (by assumption) ?_) | (refine ⟨by omega, by omega, ?_⟩; intro row hrow; obtain ⟨x, hx, rfl⟩ := Ym hrow; clear hrow) | skip) <;> (refine HK _ _ ?_; clear HK K)) | (refine ao1' rfl fun K HK => ?_; simp only [go_sem, ↓reduceIte, Z1, Z3, Z2, Z4, Z5, Z6, Z7, Z8, Xq g, Xp x, e1, e63, e64, e65, Z9, Za, wk, gM_0, Wo, Wp, gM_l, Um, Z0]; refine HK _ _ ?_; clear HK K))
         | (with_reducible refine Vn ?_; first | (refine aq1 rfl rfl fun K HK => ?_; (first | refine Y6 rfl ?_ | skip); simp only [go_sem, ↓reduceIte, Z1, Z3, Z2, Z4, Z5, Z6, Z7, Z8, Xq g, Xp x, e1, e63, e64, e65, Z9, Za, wk, gM_0, Wo, Wp, gM_l, Um, Z0]; (first | refine Y8 (fun hq => ?_) (fun hq => ?_) | (refine ⟨by omega, by omega, ?_⟩; refine Ya (by assumption) ?_) | (refine ⟨by omega, by omega, ?_⟩; intro row hrow; obtain ⟨x, hx, rfl⟩ := Ym hrow; clear hrow) | skip) <;> (refine HK _ _ rfl ?_; clear HK K)) | refine aq0 rfl rfl ?_ | refine Yv ?_ | refine aq2 rfl rfl rfl J7 (hn _) ?_)
         | (exfalso; omega)
        exact ⟨rfl, g.objects.length - 1, by omega, 1, _, hlt, rfl, ho2, rfl, e1, e63, e64, rfl⟩
    · obtain ⟨j, rfl⟩ : ∃ j, k = j + 1 := ⟨k - 1, by omega⟩
      have hy : g.objects[j]? = some g.objects[j] := Zb (by omega)
      have hyn := names_at hy
      rw [ris_s hyn hxn] at ho
      generalize g.objects[j] = y at hy hyn ho
      have wm : IntKind.i64.wrap (((j + 1 : Nat) : Int) - 1) = (j : Int) := by rw [show ((j + 1 : Nat) : Int) - 1 = (j : Int) by omega]; exact IntWalk.i64_in _ (by omega)
      have gp : decide ((0 : Int) < ((j + 1 : Nat) : Int)) = true := decide_eq_true (by omega)
      unfold Yf7 at ho
      cases hnb : Js x.1 <;> rw [hnb] at hn ho
      · have e0 : Jc (g.objects.map (·.1)) = false := by rw [← Zf2, ho]; rfl
        rw [if_pos e0] at hge
        repeat' first
         | (with_reducible first | refine sA rfl ?_ | refine sI rfl rfl ?_ | refine sT rfl ?_ | refine sB rfl ?_)
         | (with_reducible refine W2 ?_; first | refine Yf mixd (by kernel_rfl) ?_)
         | (with_reducible refine Y9 ?_; first | refine Y5 ?_ | (refine ao1 rfl rfl fun K HK => ?_; (first | refine Y6 rfl ?_ | skip); simp only [go_sem, ↓reduceIte, Z1, Z3, Z2, Z4, Z5, Z6, Z7, Z8, Xq g, Xp x, e1, e63, e64, e65, Z9, Za, wk, gM_0, Wo, Wp, gM_l, Um, Z0]; (first | refine Y8 (fun hq => ?_) (fun hq => ?_) | (refine ⟨by omega, by omega, ?_⟩; refine Ya (by assumption) ?_) | skip) <;> (refine HK _ _ ?_; clear HK K)) | (refine ao1' rfl fun K HK => ?_; simp only [go_sem, ↓reduceIte, Z1, Z3, Z2, Z4, Z5, Z6, Z7, Z8, Xq g, Xp x, e1, e63, e64, e65, Z9, Za, wk, gM_0, Wo, Wp, gM_l, Um, Z0]; refine HK _ _ ?_; clear HK K))
         | (with_reducible refine Vn ?_; first | (refine aq1 rfl rfl fun K HK => ?_; (first | refine Y6 rfl ?_ | skip); simp only [go_sem, ↓reduceIte, Z1, Z3, Z2, Z4, Z5, Z6, Z7, Z8, Xq g, Xp x, e1, e63, e64, e65, Z9, Za, wk, gM_0, Wo, Wp, gM_l, Um, Z0]; (first | refine Y8 (fun hq => ?_) (fun hq => ?_) | (refine ⟨by omega, by omega, ?_⟩; refine Ya (by assumption) ?_) | skip) <;> (refine HK _ _ rfl ?_; clear HK K)) | refine aq0 rfl rfl ?_ | refine Yv ?_ | refine aq2 rfl rfl rfl J7 (hn _) ?_)
         | (exfalso; omega)
        exact ⟨.inr rfl, endD (r := .v (.int .i64 3)) hl0 rfl (by simp) (by simp) rfl (by rw [low]; trivial) ⟨rfl, by rw [hge]⟩⟩
      · cases hlt2 : Op.bytesLess y.1.toList x.1.toList
        · have e0 : Jc (g.objects.map (·.1)) = false := by rw [← Zf2, ho, hlt2]; rfl
          rw [if_pos e0] at hge
          repeat' first
           | (with_reducible first | refine sA rfl ?_ | refine sI rfl rfl ?_ | refine sT rfl ?_ | refine sB rfl ?_)
           | (with_reducible refine W2 ?_; first | refine Yf mixd (by kernel_rfl) ?_)
           | (with_reducible refine Y9 ?_; first | refine Y5 ?_ | (refine ao1 rfl rfl fun K HK => ?_; (first | refine Y6 rfl ?_ | skip); simp only [go_sem, ↓reduceIte, Z1, Z3, Z2, Z4, Z5, Z6, Z7, Z8, Xq g, Xp x, Xp y, e1, e63, e64, e65, Z9, Za, wk, wm, gp, hlt2, gM_0, Wo, Wp, gM_l, Um, Z0]; (first | refine Y8 (fun hq => ?_) (fun hq => ?_) | (refine ⟨by omega, by omega, ?_⟩; refine Ya (by assumption) ?_) | skip) <;> (refine HK _ _ ?_; clear HK K)) | (refine ao1' rfl fun K HK => ?_; simp only [go_sem, ↓reduceIte, Z1, Z3, Z2, Z4, Z5, Z6, Z7, Z8, Xq g, Xp x, Xp y, e1, e63, e64, e65, Z9, Za, wk, wm, gp, hlt2, gM_0, Wo, Wp, gM_l, Um, Z0]; refine HK _ _ ?_; clear HK K))
           | (with_reducible refine Vn ?_; first | (refine aq1 rfl rfl fun K HK => ?_; (first | refine Y6 rfl ?_ | skip); simp only [go_sem, ↓reduceIte, Z1, Z3, Z2, Z4, Z5, Z6, Z7, Z8, Xq g, Xp x, Xp y, e1, e63, e64, e65, Z9, Za, wk, wm, gp, hlt2, gM_0, Wo, Wp, gM_l, Um, Z0]; (first | refine Y8 (fun hq => ?_) (fun hq => ?_) | (refine ⟨by omega, by omega, ?_⟩; refine Ya (by assumption) ?_) | skip) <;> (refine HK _ _ rfl ?_; clear HK K)) | refine Yv ?_ | refine aq2 rfl rfl rfl J7 (hn _) ?_)
           | (exfalso; omega)
          exact ⟨.inr rfl, endD (r := .v (.int .i64 3)) hl0 rfl (by simp) (by simp) rfl (by rw [low]; trivial) ⟨rfl, by rw [hge]⟩⟩
        · skip
          repeat' first
           | (with_reducible first | refine sA rfl ?_ | refine sI rfl rfl ?_ | refine sT rfl ?_ | refine sB rfl ?_)
           | (with_reducible refine W2 ?_; first | refine Yf mixd (by kernel_rfl) ?_)
           | (with_reducible refine Y9 ?_; first | refine Y5 ?_ | (refine ao1 rfl rfl fun K HK => ?_; (first | refine Y6 rfl ?_ | skip); simp only [go_sem, ↓reduceIte, Z1, Z3, Z2, Z4, Z5, Z6, Z7, Z8, Xq g, Xp x, Xp y, e1, e63, e64, e65, Z9, Za, wk, wm, gp, hlt2, gM_0, Wo, Wp, gM_l, Um, Z0]; (first | refine Y8 (fun hq => ?_) (fun hq => ?_) | (refine ⟨by omega, by omega, ?_⟩; refine Ya (by assumption) ?_) | skip) <;> (refine HK _ _ ?_; clear HK K)) | (refine ao1' rfl fun K HK => ?_; simp only [go_sem, ↓reduceIte, Z1, Z3, Z2, Z4, Z5, Z6, Z7, Z8, Xq g, Xp x, Xp y, e1, e63, e64, e65, Z9, Za, wk, wm, gp, hlt2, gM_0, Wo, Wp, gM_l, Um, Z0]; refine HK _ _ ?_; clear HK K))
           | (with_reducible refine Vn ?_; first | (refine aq1 rfl rfl fun K HK => ?_; (first | refine Y6 rfl ?_ | skip); simp only [go_sem, ↓reduceIte, Z1, Z3, Z2, Z4, Z5, Z6, Z7, Z8, Xq g, Xp x, Xp y, e1, e63, e64, e65, Z9, Za, wk, wm, gp, hlt2, gM_0, Wo, Wp, gM_l, Um, Z0]; (first | refine Y8 (fun hq => ?_) (fun hq => ?_) | (refine ⟨by omega, by omega, ?_⟩; refine Ya (by assumption) ?_) | skip) <;> (refine HK _ _ rfl ?_; clear HK K)) | refine Yv ?_ | refine aq2 rfl rfl rfl J7 (hn _) ?_)
           | (exfalso; omega)
          exact ⟨rfl, g.objects.length - (j + 2), by omega, j + 2, _, by omega, rfl, by rw [ho, hlt2]; rfl, rfl, e1, e63, e64, rfl⟩
  have e0 : Jc (g.objects.map (·.1)) = true := by rw [← Zf2, ho, rising_end _ _ (by rw [Z9]; omega)]
  rw [if_neg (by rw [e0]; decide)] at hge
  repeat' first
   | (with_reducible first | refine sA rfl ?_ | refine sI rfl rfl ?_ | refine sT rfl ?_ | refine sB rfl ?_)
   | (with_reducible refine Y9 ?_; first | refine Y5 ?_ | (refine ao1 rfl rfl fun K HK => ?_; simp only [go_sem, ↓reduceIte, Z1, Z3, Z2, Z4, Z5, Z6, Z7, Z8, Xq g, e1, e63, e64, e65, Z9, gM_0, Z0]; (first | refine Y8 (fun hq => ?_) (fun hq => ?_) | (refine ⟨by omega, by omega, ?_⟩; intro row hrow; obtain ⟨x, hx, rfl⟩ := Ym hrow; clear hrow) | skip) <;> (refine HK _ _ ?_; clear HK K)))
   | (exfalso; omega)
  refine Yp (fun m e h' => ∃ (k : Nat) (T : List Ob), k ≤ g.objects.length ∧ m = g.objects.length - k ∧ Yg1 g.objects = Yg1 (g.objects.drop k) ∧ h' = gM (.cells (gnX g)) T ∧ e 92 = .sl 7 (g.objects.map gobX) ∧ e 93 = .v (.int .i64 g.objects.length) ∧ e 94 = .v (.int .i64 k)) g.objects.length ⟨0, T, Zp _, rfl, rfl, rfl, rfl, rfl, rfl⟩ ?_
  clear e1 e63 e64 e65 ho hlt
  rintro m e h' ⟨k, T, hk, rfl, ho, rfl, e92, e93, e94⟩
  by_cases hlt : k < g.objects.length
  · have hx : g.objects[k]? = some g.objects[k] := Zb hlt
    have wk : IntKind.i64.wrap ((k : Int) + 1) = ((k + 1 : Nat) : Int) := IntWalk.i64_in _ (by omega)
    have hc := check_d G hG g.objects[k].2 (hg.la _ (Zg hlt))
    rw [latsE_go (Zd hlt)] at ho
    generalize g.objects[k] = x at hx hc ho
    simp only [Y4] at hc
    generalize chkE x.2 = ce at hc ho
    by_cases hz : ce = 0
    · rw [if_neg (fun q => q hz)] at ho
      repeat' first
       | (with_reducible first | refine sA rfl ?_ | refine sI rfl rfl ?_ | refine sT rfl ?_ | refine sB rfl ?_)
       | (with_reducible refine Y9 ?_; first | refine Y5 ?_ | (refine ao1 rfl rfl fun K HK => ?_; simp only [go_sem, ↓reduceIte, Z1, Z3, Z2, Z4, Z5, Z6, Z7, Z8, Xp x, e92, e93, e94, hz, Z9, Za, wk, gM_0, Wo, Wp, gM_l, Um, Z0]; (first | refine Y8 (fun hq => ?_) (fun hq => ?_) | (refine ⟨by omega, by omega, ?_⟩; refine Ya (by assumption) ?_) | skip) <;> (refine HK _ _ ?_; clear HK K)) | (refine ao2 rfl rfl rfl Zu9 (hc _) ?_; rintro _ _ ⟨rfl, rfl⟩) | (refine ao1' rfl fun K HK => ?_; simp only [go_sem, ↓reduceIte, Z1, Z3, Z2, Z4, Z5, Z6, Z7, Z8, Xp x, e92, e93, e94, hz, Z9, Za, wk, gM_0, Wo, Wp, gM_l, Um, Z0]; refine HK _ _ ?_; clear HK K))
       | (exfalso; omega)
      exact ⟨rfl, g.objects.length - (k + 1), by omega, k + 1, _, hlt, rfl, ho, rfl, e92, e93, rfl⟩
    · rw [if_pos hz] at ho
      repeat' first
       | (with_reducible first | refine sA rfl ?_ | refine sI rfl rfl ?_ | refine sT rfl ?_ | refine sB rfl ?_)
       | (with_reducible refine Y9 ?_; first | refine Y5 ?_ | (refine ao1 rfl rfl fun K HK => ?_; simp only [go_sem, ↓reduceIte, Z1, Z3, Z2, Z4, Z5, Z6, Z7, Z8, Xp x, e92, e93, e94, hz, Z9, Za, wk, gM_0, Wo, Wp, gM_l, Um, Z0]; (first | refine Y8 (fun hq => ?_) (fun hq => ?_) | (refine ⟨by omega, by omega, ?_⟩; refine Ya (by assumption) ?_) | skip) <;> (refine HK _ _ ?_; clear HK K)) | (refine ao2 rfl rfl rfl Zu9 (hc _) ?_; rintro _ _ ⟨rfl, rfl⟩) | (refine ao1' rfl fun K HK => ?_; simp only [go_sem, ↓reduceIte, Z1, Z3, Z2, Z4, Z5, Z6, Z7, Z8, Xp x, e92, e93, e94, hz, Z9, Za, wk, gM_0, Wo, Wp, gM_l, Um, Z0]; refine HK _ _ ?_; clear HK K))
       | (exfalso; omega)
      exact ⟨.inr rfl, endD (r := .v (.int .i64 ce)) hl0 rfl (by simp) (by simp) rfl (by rw [low]; trivial) ⟨rfl, by rw [hge, ho]⟩⟩
  · have e2 : Yg1 g.objects = 0 := by rw [ho, Zl (by omega)]; rfl
    rw [e2] at hge
    repeat' first
     | (with_reducible first | refine sA rfl ?_ | refine sI rfl rfl ?_ | refine sT rfl ?_ | refine sB rfl ?_)
     | (with_reducible refine Y9 ?_; first | refine Y5 ?_ | (refine ao1 rfl rfl fun K HK => ?_; simp only [go_sem, ↓reduceIte, Z1, Z3, Z2, Z4, Z5, Z6, Z7, Z8, e92, e93, e94, Z9, gM_0, Z0]; (first | refine Y8 (fun hq => ?_) (fun hq => ?_) | (refine ⟨by omega, by omega, ?_⟩; intro row hrow; obtain ⟨x, hx, rfl⟩ := Ym hrow; clear hrow) | skip) <;> (refine HK _ _ ?_; clear HK K)))
     | (exfalso; omega)
    exact ⟨.inr rfl, endD (r := .v (.int .i64 0)) hl0 rfl (by simp) (by simp) rfl (by rw [low]; trivial) ⟨rfl, by rw [hge]⟩⟩
end
end Go.Proofs.YtgkjcmglcnhpaaaGreatDoor
