/-
  What the statements of the chapter share, part 17: RV6.
-/
import Derived.Test.YtbhkcbidcfofiaaGreatY14
import Derived.Test.YtbhkcbidcfofiaaGreatY16
set_option linter.unusedVariables false
set_option linter.unusedSimpArgs false
set_option maxRecDepth 100000
set_option maxHeartbeats 8000000
namespace Go.Proofs.YtbhkcbidcfofiaaGreat
open _root_.List renaming drop_eq_getElem_cons → Z0, getElem?_eq_getElem → Z1, getElem_mem → Z2
open _root_.Nat renaming zero_le → Z3
open Go.RowKit
section
set_option maxHeartbeats 16000000
attribute [local irreducible] on aOp
attribute [local go_sem] decide_true decide_false Bool.not_true Bool.not_false
attribute [local simp] byD_len
theorem lenI_ne {m n : Nat} (h : ¬ m = n) : lenI m n ≠ 0 := by unfold lenI; rw [if_neg h]; split <;> decide
variable (G : Nat → D) (hG : ∀ g, low 0 (G g))
include hG
attribute [local go_sem] Bool.false_eq_true Int.reduceEq Int.reduceLE Int.reduceLT Int.toNat_natCast List.length_map Nat.reduceAdd Nat.reduceBEq Nat.reduceEqDiff Nat.reduceLeDiff Nat.reduceMul X1 Wi
attribute [local go_sem ↓] reduceIte
theorem rcmp_va (n : Nat) : ∀ (a b : Val), SizeOf.sizeOf a ≤ n → VSm a → VSm b → ∀ (h : List Ob), Does Tryz.prog G 46 h [.agg (vaX a), .agg (vaX b)] (fun h' r => h' = h ∧ r = .v (.int .i64 (valC a b))) := by
 induction n with
 | zero => intro a b hn; cases a; simp at hn
 | succ n ih =>
 intro a b hsz sa sb h
 refine Y9 G hG (by rw [lowL, lowL, lowL, low, low]; exact ⟨Yb _ a, Yb _ b, trivial⟩) (by rw [low]; trivial) ?_ h
 clear h
 have hpp : ∀ x ∈ a.parts, ∀ y ∈ b.parts, ∀ h, Does Tryz.prog G 46 h [.agg (vaX x), .agg (vaX y)] (fun h' r => h' = h ∧ r = .v (.int .i64 (valC x y))) := fun x hx y hy => ih x y (by
   have := List.sizeOf_lt_of_mem hx
   cases a with
   | mk m ns ps es => simp only [Val.parts] at this; simp only [Val.mk.sizeOf_spec] at hsz; omega) (sa.part x hx) (sb.part y hy)
 have hee : ∀ x ∈ a.entries, ∀ y ∈ b.entries, ∀ h, Does Tryz.prog G 97 h [.agg (enX x), .agg (enX y)] (fun h' r => h' = h ∧ r = .v (.int .i64 (entC x y))) := fun x hx y hy => ents_d G hG x y (sa.ents x hx).1 (sb.ents y hy).1
 have sn1 := sa.names
 have sn2 := sb.names
 have sp1 := sa.parts
 have sp2 := sb.parts
 have se1 := sa.entries
 have se2 := sb.entries
 rw [Y5 a, Y5 b, Ze3 a b]
 generalize a.n = p
 generalize b.n = q
 refine Y6 Tryz.func46 rfl (Nat.le_of_ble_eq_true rfl) hG fun hl0 _ => ?_
 simp only [Tryz.ntmps46]
 by_cases hn : p = q
 rotate_left
 · rw [cmpI_ne hn, ite_ne]
   have F := hn
   repeat' first
    | refine gg ?_
    | refine Two.mk (fun hq => ?_) fun hq => ?_
    | (with_reducible refine Y7 ?_; refine gc rfl rfl rfl Yi2 (Yf8 G hG _ _) ?_)
   all_goals first | (exfalso; omega) | exact ⟨.inr rfl, endD (r := .v (.int .i64 (-1))) hl0 rfl (by simp) (by simp) rfl (by rw [low]; trivial) ⟨rfl, by rw [if_pos (by omega)]⟩⟩ | exact ⟨.inr rfl, endD (r := .v (.int .i64 1)) hl0 rfl (by simp) (by simp) rfl (by rw [low]; trivial) ⟨rfl, by rw [if_neg (by omega)]⟩⟩
 subst hn
 have hnz : ¬ cmpI p p ≠ 0 := fun q => q (Yq2 rfl)
 rw [if_neg hnz]
 repeat' first
  | refine g0 ?_
  | fail
 refine Yh (fun m e h' => ∃ k : Nat, k ≤ a.names.length ∧ k ≤ b.names.length ∧ m = a.names.length - k ∧ lexC strC a.names b.names = lexC strC (a.names.drop k) (b.names.drop k) ∧ h' = [.cells [.v (.int .i64 p), .sl 1 (a.names.map strX), .sl 4 (a.parts.map vaX), .sl 2 (a.entries.map enX)], .cells [.v (.int .i64 p), .sl 1 (b.names.map strX), .sl 4 (b.parts.map vaX), .sl 2 (b.entries.map enX)]] ∧ e 2 = .ptr 0 0 ∧ e 3 = .ptr 1 0 ∧ e 5 = .v (.int .i64 k)) a.names.length ⟨0, Z3 _, Z3 _, rfl, rfl, rfl, rfl, rfl, rfl⟩ ?_
 clear hnz
 rintro m e h' ⟨k, hka, hkb, rfl, ho, rfl, e2, e3, e5⟩
 by_cases hlt : k < a.names.length ∧ k < b.names.length
 · have hx : a.names[k]? = some (a.names[k]'hlt.1) := Z1 hlt.1
   have hy : b.names[k]? = some (b.names[k]'hlt.2) := Z1 hlt.2
   have hxm : (a.names[k]'hlt.1) ∈ a.names := Z2 _
   have hym : (b.names[k]'hlt.2) ∈ b.names := Z2 _
   rw [Zu7 (Z0 hlt.1) (Z0 hlt.2)] at ho
   generalize (a.names[k]'hlt.1) = x at hx hxm ho
   generalize (b.names[k]'hlt.2) = y at hy hym ho
   have wk : IntKind.i64.wrap ((k : Int) + 1) = ((k + 1 : Nat) : Int) := IntWalk.i64_in _ (by omega)
   by_cases hq1 : x = y
   · subst hq1
     rw [strC_self, if_neg (by simp)] at ho
     have F : _ ∧ _ ∧ _ ∧ _ := ⟨e2, e3, e5, wk⟩
     repeat' first
      | (with_reducible refine Yc ?_; refine Y8 mixd (by kernel_rfl) ?_)
      | refine gg ?_
      | refine Two.mk (fun hq => ?_) fun hq => ?_
      | (exfalso; omega)
     all_goals first | (exfalso; omega) | exact ⟨rfl, a.names.length - (k + 1), by omega, k + 1, by omega, by omega, rfl, ho, rfl, e2, e3, rfl⟩
   · rw [strC_ne hq1] at ho
     unfold J2 at ho
     cases hlq : Op.bytesLess x.toList y.toList <;> rw [hlq] at ho
     all_goals
      have F : _ ∧ _ ∧ _ ∧ _ ∧ _ ∧ _ := ⟨e2, e3, e5, wk, hq1, hlq⟩
      repeat' first
       | (with_reducible refine Yc ?_; refine Y8 mixd (by kernel_rfl) ?_)
       | refine gg ?_
       | refine Two.mk (fun hq => ?_) fun hq => ?_
       | (with_reducible refine X6 ?_; refine aq2 rfl rfl rfl Yi2 (Yf8 G hG _ _) ?_)
       | (exfalso; omega)
      all_goals first | (exfalso; omega) | exact ⟨.inr rfl, endD (r := .v (.int .i64 _)) hl0 rfl (by simp) (by simp) rfl (by rw [low]; trivial) ⟨rfl, by rw [ho]; rfl⟩⟩
 rw [Yn4 strC hka hkb (by omega)] at ho
 by_cases hl : a.names.length = b.names.length
 rotate_left
 · have hne := lenI_ne hl
   have hli : ¬ (a.names.length : Int) = (b.names.length : Int) := by omega
   rw [ho, if_pos hne]
   have F : _ ∧ _ ∧ _ ∧ _ := ⟨e2, e3, e5, hli⟩
   repeat' first
    | (with_reducible refine Yc ?_; refine Y8 mixd (by kernel_rfl) ?_)
    | refine gg ?_
    | refine Two.mk (fun hq => ?_) fun hq => ?_
    | refine Evry.mk fun x hx => ?_
    | (with_reducible refine Y7 ?_; refine gc rfl rfl rfl ent_96 (lens_d G hG a.names.length b.names.length _) ?_)
    | (exfalso; omega)
   all_goals first | (exfalso; omega) | exact ⟨.inr rfl, endD (r := .v (.int .i64 (lenI a.names.length b.names.length))) hl0 rfl (by simp) (by simp) rfl (by rw [low]; trivial) ⟨rfl, rfl⟩⟩
 have hli : (a.names.length : Int) = (b.names.length : Int) := by omega
 have hz : lenI a.names.length b.names.length = 0 := by unfold lenI; rw [if_pos hl]
 rw [ho, hz, if_neg (by simp)]
 have F : _ ∧ _ ∧ _ ∧ _ := ⟨e2, e3, e5, hli⟩
 repeat' first
  | (with_reducible refine Yc ?_; refine Y8 mixd (by kernel_rfl) ?_)
  | refine gg ?_
  | refine Two.mk (fun hq => ?_) fun hq => ?_
  | refine Evry.mk fun x hx => ?_
  | (exfalso; omega)
 all_goals try (exfalso; omega)
 refine Yh (fun m e h' => ∃ k : Nat, k ≤ a.parts.length ∧ k ≤ b.parts.length ∧ m = a.parts.length - k ∧ lexC valC a.parts b.parts = lexC valC (a.parts.drop k) (b.parts.drop k) ∧ h' = [.cells [.v (.int .i64 p), .sl 1 (a.names.map strX), .sl 4 (a.parts.map vaX), .sl 2 (a.entries.map enX)], .cells [.v (.int .i64 p), .sl 1 (b.names.map strX), .sl 4 (b.parts.map vaX), .sl 2 (b.entries.map enX)]] ∧ e 2 = .ptr 0 0 ∧ e 3 = .ptr 1 0 ∧ e 6 = .v (.int .i64 k)) a.parts.length ⟨0, Z3 _, Z3 _, rfl, rfl, rfl, e2, e3, rfl⟩ ?_
 (try clear F); clear hlt ho hka hkb hl hli hz e2 e3 e5 e
 rintro m e h' ⟨k, hka, hkb, rfl, ho, rfl, e2, e3, e6⟩
 by_cases hlt : k < a.parts.length ∧ k < b.parts.length
 · have hx : a.parts[k]? = some (a.parts[k]'hlt.1) := Z1 hlt.1
   have hy : b.parts[k]? = some (b.parts[k]'hlt.2) := Z1 hlt.2
   have hxm : (a.parts[k]'hlt.1) ∈ a.parts := Z2 _
   have hym : (b.parts[k]'hlt.2) ∈ b.parts := Z2 _
   rw [Zu7 (Z0 hlt.1) (Z0 hlt.2)] at ho
   generalize (a.parts[k]'hlt.1) = x at hx hxm ho
   generalize (b.parts[k]'hlt.2) = y at hy hym ho
   have wk : IntKind.i64.wrap ((k : Int) + 1) = ((k + 1 : Nat) : Int) := IntWalk.i64_in _ (by omega)
   have hpc := hpp x hxm y hym
   generalize valC x y = c at hpc ho
   simp only [Y5 x, Y5 y] at hpc
   by_cases hq1 : c = 0
   · rw [if_neg (by simp [hq1])] at ho
     have F : _ ∧ _ ∧ _ ∧ _ ∧ _ ∧ _ ∧ _ := ⟨e2, e3, e6, Y5 x, Y5 y, wk, hq1⟩
     repeat' first
      | (with_reducible refine Yc ?_; refine Y8 mixd (by kernel_rfl) ?_)
      | refine gg ?_
      | refine Two.mk (fun hq => ?_) fun hq => ?_
      | (with_reducible refine X6 ?_; refine aq2 rfl rfl rfl ent_46 (hpc _) ?_)
      | (exfalso; omega)
     all_goals first | (exfalso; omega) | exact ⟨rfl, a.parts.length - (k + 1), by omega, k + 1, by omega, by omega, rfl, ho, rfl, e2, e3, rfl⟩
   · rw [if_pos hq1] at ho
     have F : _ ∧ _ ∧ _ ∧ _ ∧ _ ∧ _ ∧ _ := ⟨e2, e3, e6, Y5 x, Y5 y, wk, hq1⟩
     repeat' first
      | (with_reducible refine Yc ?_; refine Y8 mixd (by kernel_rfl) ?_)
      | refine gg ?_
      | refine Two.mk (fun hq => ?_) fun hq => ?_
      | (with_reducible refine X6 ?_; refine aq2 rfl rfl rfl ent_46 (hpc _) ?_)
      | (exfalso; omega)
     all_goals first | (exfalso; omega) | exact ⟨.inr rfl, endD (r := .v (.int .i64 c)) hl0 rfl (by simp) (by simp) rfl (by rw [low]; trivial) ⟨rfl, by rw [ho, if_pos hq1]⟩⟩
 rw [Yn4 valC hka hkb (by omega)] at ho
 by_cases hl : a.parts.length = b.parts.length
 rotate_left
 · have hne := lenI_ne hl
   have hli : ¬ (a.parts.length : Int) = (b.parts.length : Int) := by omega
   rw [ho, if_pos hne]
   have F : _ ∧ _ ∧ _ ∧ _ := ⟨e2, e3, e6, hli⟩
   repeat' first
    | (with_reducible refine Yc ?_; refine Y8 mixd (by kernel_rfl) ?_)
    | refine gg ?_
    | refine Two.mk (fun hq => ?_) fun hq => ?_
    | refine Evry.mk fun x hx => ?_
    | (with_reducible refine Y7 ?_; refine gc rfl rfl rfl ent_96 (lens_d G hG a.parts.length b.parts.length _) ?_)
    | (exfalso; omega)
   all_goals first | (exfalso; omega) | exact ⟨.inr rfl, endD (r := .v (.int .i64 (lenI a.parts.length b.parts.length))) hl0 rfl (by simp) (by simp) rfl (by rw [low]; trivial) ⟨rfl, rfl⟩⟩
 have hli : (a.parts.length : Int) = (b.parts.length : Int) := by omega
 have hz : lenI a.parts.length b.parts.length = 0 := by unfold lenI; rw [if_pos hl]
 rw [ho, hz, if_neg (by simp)]
 have F : _ ∧ _ ∧ _ ∧ _ := ⟨e2, e3, e6, hli⟩
 repeat' first
  | (with_reducible refine Yc ?_; refine Y8 mixd (by kernel_rfl) ?_)
  | refine gg ?_
  | refine Two.mk (fun hq => ?_) fun hq => ?_
  | refine Evry.mk fun x hx => ?_
  | (exfalso; omega)
 all_goals try (exfalso; omega)
 refine Yh (fun m e h' => ∃ k : Nat, k ≤ a.entries.length ∧ k ≤ b.entries.length ∧ m = a.entries.length - k ∧ lexC entC a.entries b.entries = lexC entC (a.entries.drop k) (b.entries.drop k) ∧ h' = [.cells [.v (.int .i64 p), .sl 1 (a.names.map strX), .sl 4 (a.parts.map vaX), .sl 2 (a.entries.map enX)], .cells [.v (.int .i64 p), .sl 1 (b.names.map strX), .sl 4 (b.parts.map vaX), .sl 2 (b.entries.map enX)]] ∧ e 2 = .ptr 0 0 ∧ e 3 = .ptr 1 0 ∧ e 8 = .v (.int .i64 k)) a.entries.length ⟨0, Z3 _, Z3 _, rfl, rfl, rfl, e2, e3, rfl⟩ ?_
 (try clear F); clear hlt ho hka hkb hl hli hz e2 e3 e6 e
 rintro m e h' ⟨k, hka, hkb, rfl, ho, rfl, e2, e3, e8⟩
 by_cases hlt : k < a.entries.length ∧ k < b.entries.length
 · have hx : a.entries[k]? = some (a.entries[k]'hlt.1) := Z1 hlt.1
   have hy : b.entries[k]? = some (b.entries[k]'hlt.2) := Z1 hlt.2
   have hxm : (a.entries[k]'hlt.1) ∈ a.entries := Z2 _
   have hym : (b.entries[k]'hlt.2) ∈ b.entries := Z2 _
   rw [Zu7 (Z0 hlt.1) (Z0 hlt.2)] at ho
   generalize (a.entries[k]'hlt.1) = x at hx hxm ho
   generalize (b.entries[k]'hlt.2) = y at hy hym ho
   have wk : IntKind.i64.wrap ((k : Int) + 1) = ((k + 1 : Nat) : Int) := IntWalk.i64_in _ (by omega)
   have hpc := hee x hxm y hym
   generalize entC x y = c at hpc ho
   simp only [X1] at hpc
   by_cases hq1 : c = 0
   · rw [if_neg (by simp [hq1])] at ho
     have F : _ ∧ _ ∧ _ ∧ _ ∧ _ := ⟨e2, e3, e8, wk, hq1⟩
     repeat' first
      | (with_reducible refine Yc ?_; refine Y8 mixd (by kernel_rfl) ?_)
      | refine gg ?_
      | refine Two.mk (fun hq => ?_) fun hq => ?_
      | (with_reducible refine X6 ?_; refine aq2 rfl rfl rfl ent_97 (hpc _) ?_)
      | (exfalso; omega)
     all_goals first | (exfalso; omega) | exact ⟨rfl, a.entries.length - (k + 1), by omega, k + 1, by omega, by omega, rfl, ho, rfl, e2, e3, rfl⟩
   · rw [if_pos hq1] at ho
     have F : _ ∧ _ ∧ _ ∧ _ ∧ _ := ⟨e2, e3, e8, wk, hq1⟩
     repeat' first
      | (with_reducible refine Yc ?_; refine Y8 mixd (by kernel_rfl) ?_)
      | refine gg ?_
      | refine Two.mk (fun hq => ?_) fun hq => ?_
      | (with_reducible refine X6 ?_; refine aq2 rfl rfl rfl ent_97 (hpc _) ?_)
      | (exfalso; omega)
     all_goals first | (exfalso; omega) | exact ⟨.inr rfl, endD (r := .v (.int .i64 c)) hl0 rfl (by simp) (by simp) rfl (by rw [low]; trivial) ⟨rfl, by rw [ho]⟩⟩
 rw [Yn4 entC hka hkb (by omega)] at ho
 rw [ho]
 have F : _ ∧ _ ∧ _ := ⟨e2, e3, e8⟩
 repeat' first
  | (with_reducible refine Yc ?_; refine Y8 mixd (by kernel_rfl) ?_)
  | refine gg ?_
  | refine Two.mk (fun hq => ?_) fun hq => ?_
  | refine Evry.mk fun x hx => ?_
  | (with_reducible refine Y7 ?_; refine gc rfl rfl rfl ent_96 (lens_d G hG a.entries.length b.entries.length _) ?_)
  | (exfalso; omega)
 all_goals first | (exfalso; omega) | exact ⟨.inr rfl, endD (r := .v (.int .i64 (lenI a.entries.length b.entries.length))) hl0 rfl (by simp) (by simp) rfl (by rw [low]; trivial) ⟨rfl, rfl⟩⟩
theorem requal_va (a b : Val) (sa : VSm a) (sb : VSm b) (h : List Ob) : Does Tryz.prog G 23 h [.agg (vaX a), .agg (vaX b)] (fun h' r => h' = h ∧ r = .v (.bool (decide (valC a b = 0)))) := by
 refine Y9 G hG (by rw [lowL, lowL, lowL, low, low]; exact ⟨Yb _ a, Yb _ b, trivial⟩) (by rw [low]; trivial) ?_ h
 clear h
 have hc := rcmp_va G hG _ a b (Nat.le_refl _) sa sb
 generalize valC a b = c at *
 simp only [Y5] at hc
 refine Y6 Tryz.func23 rfl (Nat.le_of_ble_eq_true rfl) hG fun hl0 _ => ?_
 simp only [Tryz.ntmps23]
 have F := Y5
 repeat' first
  | refine gg ?_
  | refine Two.mk (fun hq => ?_) fun hq => ?_
  | (with_reducible refine Y7 ?_; refine gc rfl rfl rfl ent_46 (hc _) ?_)
 all_goals exact ⟨.inr rfl, endV hl0 rfl rfl ⟨rfl, by first | rw [decide_eq_true hq] | rw [decide_eq_false hq] | rfl⟩⟩
end
end Go.Proofs.YtbhkcbidcfofiaaGreat
