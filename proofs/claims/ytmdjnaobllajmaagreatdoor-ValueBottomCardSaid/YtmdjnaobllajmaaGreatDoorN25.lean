/-
  What the statements of the chapter share, part 25: VE8, VE9, VK4.
-/
import Derived.Test.YtmdjnaobllajmaaGreatDoorN09
import Derived.Test.YtmdjnaobllajmaaGreatDoorN20
import Derived.Test.YtmdjnaobllajmaaGreatDoorN23
import Derived.Test.YtmdjnaobllajmaaGreatDoorN24
import Derived.Deep.Cut
set_option linter.unusedVariables false
set_option linter.unusedSimpArgs false
set_option maxRecDepth 100000
set_option maxHeartbeats 8000000
namespace Go.Proofs.YtmdjnaobllajmaaGreatDoor
open Go.RowKit
theorem relem_1 (lo hi' : Int) (sn sp sr : Value) (vn : Int) (a b c : Nat) (bn bp be : Option Addr) (bcn bcp bce : Nat) (w : World) (R : Bool)
    (HE : Hid (R = true ↔ c = 0 ∧ (vn = 0 ∨ vn = 1) ∧ a = 0 ∧ b = 0)) :
    Calls Tryz.prog 38 #[.agg #[.int .i64 1, .int .i64 lo, .int .i64 hi', sn, sp, sr], .agg #[.int .i64 vn, .slice bn a bcn, .slice bp b bcp, .slice be c bce]] w fun e w' => e = .returned (.bool R) ∧ Below w.heap.size w w' := by
  have HB : Hid (∀ x : Ext ((w.alloc (.cells #[.int .i64 1, .int .i64 lo, .int .i64 hi', sn, sp, sr] 26)).alloc (.cells #[.int .i64 vn, .slice bn a bcn, .slice bp b bcp, .slice be c bce] 30)), Below w.heap.size w x.1) := hid fun x => (((Below.refl _ _).alloc (Nat.le_refl _) _).alloc (by simp) _).trans (x.2.mono (by simp; omega))
  have HBl : Hid (Box ((w.alloc (.cells #[.int .i64 1, .int .i64 lo, .int .i64 hi', sn, sp, sr] 26)).alloc (.cells #[.int .i64 vn, .slice bn a bcn, .slice bp b bcp, .slice be c bce] 30)) (w.heap.size) #[.int .i64 1, .int .i64 lo, .int .i64 hi', sn, sp, sr]) := hid ((Box.new _ _ _ _ rfl).alloc _)
  have HBv : Hid (Box ((w.alloc (.cells #[.int .i64 1, .int .i64 lo, .int .i64 hi', sn, sp, sr] 26)).alloc (.cells #[.int .i64 vn, .slice bn a bcn, .slice bp b bcp, .slice be c bce] 30)) (w.heap.size + 1) #[.int .i64 vn, .slice bn a bcn, .slice bp b bcp, .slice be c bce]) := hid (Box.new _ _ _ _ (by simp))
  go_enter Tryz.func38, Tryz.ntmps38
  go_upto_region 1 with fail
  generalize (w.alloc (.cells #[.int .i64 1, .int .i64 lo, .int .i64 hi', sn, sp, sr] 26)).alloc (.cells #[.int .i64 vn, .slice bn a bcn, .slice bp b bcp, .slice be c bce] 30) = W2 at HB HBl HBv ⊢
  obtain ⟨x0, hx⟩ := ext_self W2
  rw [hx]
  clear hx
  have l0 : ∀ x : Ext W2, x.1.cell? ⟨w.heap.size, 0, none⟩ = some (.int .i64 1) := fun x => (HBl.out.ext x) 0 _ rfl
  have l1 : ∀ x : Ext W2, x.1.cell? ⟨w.heap.size, 1, none⟩ = some (.int .i64 lo) := fun x => (HBl.out.ext x) 1 _ rfl
  have l2 : ∀ x : Ext W2, x.1.cell? ⟨w.heap.size, 2, none⟩ = some (.int .i64 hi') := fun x => (HBl.out.ext x) 2 _ rfl
  have l3 : ∀ x : Ext W2, x.1.cell? ⟨w.heap.size, 3, none⟩ = some (sn) := fun x => (HBl.out.ext x) 3 _ rfl
  have l4 : ∀ x : Ext W2, x.1.cell? ⟨w.heap.size, 4, none⟩ = some (sp) := fun x => (HBl.out.ext x) 4 _ rfl
  have l5 : ∀ x : Ext W2, x.1.cell? ⟨w.heap.size, 5, none⟩ = some (sr) := fun x => (HBl.out.ext x) 5 _ rfl
  have v0 : ∀ x : Ext W2, x.1.cell? ⟨w.heap.size + 1, 0, none⟩ = some (.int .i64 vn) := fun x => (HBv.out.ext x) 0 _ rfl
  have v1 : ∀ x : Ext W2, x.1.cell? ⟨w.heap.size + 1, 1, none⟩ = some (.slice bn a bcn) := fun x => (HBv.out.ext x) 1 _ rfl
  have v2 : ∀ x : Ext W2, x.1.cell? ⟨w.heap.size + 1, 2, none⟩ = some (.slice bp b bcp) := fun x => (HBv.out.ext x) 2 _ rfl
  have v3 : ∀ x : Ext W2, x.1.cell? ⟨w.heap.size + 1, 3, none⟩ = some (.slice be c bce) := fun x => (HBv.out.ext x) 3 _ rfl
  go_wp2_with fail
  all_goals
    go_ret
    refine ⟨ret_bool ?_, HB.out _⟩
    rw [Bool.eq_iff_iff, HE.out]
    clear HB HE
    simp only [bne_iff_ne, ne_eq, bne_eq_false_iff_eq, beq_iff_eq, decide_eq_true_eq, Decidable.not_not, Bool.false_eq_true, true_iff, false_iff, Bool.true_eq_false, and_true, and_false, true_and, false_and, iff_true, iff_false, or_false] at * <;> omega
theorem relem_2 (lo hi' : Int) (sn sp sr : Value) (vn : Int) (a b c : Nat) (bn bp be : Option Addr) (bcn bcp bce : Nat) (w : World) (R : Bool)
    (HE : Hid (R = true ↔ c = 0 ∧ (lo ≤ vn ∧ vn ≤ hi') ∧ a = 0 ∧ b = 0)) :
    Calls Tryz.prog 38 #[.agg #[.int .i64 2, .int .i64 lo, .int .i64 hi', sn, sp, sr], .agg #[.int .i64 vn, .slice bn a bcn, .slice bp b bcp, .slice be c bce]] w fun e w' => e = .returned (.bool R) ∧ Below w.heap.size w w' := by
  have HB : Hid (∀ x : Ext ((w.alloc (.cells #[.int .i64 2, .int .i64 lo, .int .i64 hi', sn, sp, sr] 26)).alloc (.cells #[.int .i64 vn, .slice bn a bcn, .slice bp b bcp, .slice be c bce] 30)), Below w.heap.size w x.1) := hid fun x => (((Below.refl _ _).alloc (Nat.le_refl _) _).alloc (by simp) _).trans (x.2.mono (by simp; omega))
  have HBl : Hid (Box ((w.alloc (.cells #[.int .i64 2, .int .i64 lo, .int .i64 hi', sn, sp, sr] 26)).alloc (.cells #[.int .i64 vn, .slice bn a bcn, .slice bp b bcp, .slice be c bce] 30)) (w.heap.size) #[.int .i64 2, .int .i64 lo, .int .i64 hi', sn, sp, sr]) := hid ((Box.new _ _ _ _ rfl).alloc _)
  have HBv : Hid (Box ((w.alloc (.cells #[.int .i64 2, .int .i64 lo, .int .i64 hi', sn, sp, sr] 26)).alloc (.cells #[.int .i64 vn, .slice bn a bcn, .slice bp b bcp, .slice be c bce] 30)) (w.heap.size + 1) #[.int .i64 vn, .slice bn a bcn, .slice bp b bcp, .slice be c bce]) := hid (Box.new _ _ _ _ (by simp))
  go_enter Tryz.func38, Tryz.ntmps38
  go_upto_region 1 with fail
  generalize (w.alloc (.cells #[.int .i64 2, .int .i64 lo, .int .i64 hi', sn, sp, sr] 26)).alloc (.cells #[.int .i64 vn, .slice bn a bcn, .slice bp b bcp, .slice be c bce] 30) = W2 at HB HBl HBv ⊢
  obtain ⟨x0, hx⟩ := ext_self W2
  rw [hx]
  clear hx
  have l0 : ∀ x : Ext W2, x.1.cell? ⟨w.heap.size, 0, none⟩ = some (.int .i64 2) := fun x => (HBl.out.ext x) 0 _ rfl
  have l1 : ∀ x : Ext W2, x.1.cell? ⟨w.heap.size, 1, none⟩ = some (.int .i64 lo) := fun x => (HBl.out.ext x) 1 _ rfl
  have l2 : ∀ x : Ext W2, x.1.cell? ⟨w.heap.size, 2, none⟩ = some (.int .i64 hi') := fun x => (HBl.out.ext x) 2 _ rfl
  have l3 : ∀ x : Ext W2, x.1.cell? ⟨w.heap.size, 3, none⟩ = some (sn) := fun x => (HBl.out.ext x) 3 _ rfl
  have l4 : ∀ x : Ext W2, x.1.cell? ⟨w.heap.size, 4, none⟩ = some (sp) := fun x => (HBl.out.ext x) 4 _ rfl
  have l5 : ∀ x : Ext W2, x.1.cell? ⟨w.heap.size, 5, none⟩ = some (sr) := fun x => (HBl.out.ext x) 5 _ rfl
  have v0 : ∀ x : Ext W2, x.1.cell? ⟨w.heap.size + 1, 0, none⟩ = some (.int .i64 vn) := fun x => (HBv.out.ext x) 0 _ rfl
  have v1 : ∀ x : Ext W2, x.1.cell? ⟨w.heap.size + 1, 1, none⟩ = some (.slice bn a bcn) := fun x => (HBv.out.ext x) 1 _ rfl
  have v2 : ∀ x : Ext W2, x.1.cell? ⟨w.heap.size + 1, 2, none⟩ = some (.slice bp b bcp) := fun x => (HBv.out.ext x) 2 _ rfl
  have v3 : ∀ x : Ext W2, x.1.cell? ⟨w.heap.size + 1, 3, none⟩ = some (.slice be c bce) := fun x => (HBv.out.ext x) 3 _ rfl
  go_wp2_with fail
  all_goals
    go_ret
    refine ⟨ret_bool ?_, HB.out _⟩
    rw [Bool.eq_iff_iff, HE.out]
    clear HB HE
    simp only [bne_iff_ne, ne_eq, bne_eq_false_iff_eq, beq_iff_eq, decide_eq_true_eq, Decidable.not_not, Bool.false_eq_true, true_iff, false_iff, Bool.true_eq_false, and_true, and_false, true_and, false_and, iff_true, iff_false, or_false] at * <;> omega
theorem relem_3 (lo hi' : Int) (sn sp sr : Value) (vn : Int) (a b c : Nat) (bn bp be : Option Addr) (bcn bcp bce : Nat) (w : World) (R : Bool)
    (HE : Hid (R = true ↔ c = 0 ∧ (lo ≤ vn ∧ vn ≤ hi') ∧ a = 0 ∧ b = 0)) :
    Calls Tryz.prog 38 #[.agg #[.int .i64 3, .int .i64 lo, .int .i64 hi', sn, sp, sr], .agg #[.int .i64 vn, .slice bn a bcn, .slice bp b bcp, .slice be c bce]] w fun e w' => e = .returned (.bool R) ∧ Below w.heap.size w w' := by
  have HB : Hid (∀ x : Ext ((w.alloc (.cells #[.int .i64 3, .int .i64 lo, .int .i64 hi', sn, sp, sr] 26)).alloc (.cells #[.int .i64 vn, .slice bn a bcn, .slice bp b bcp, .slice be c bce] 30)), Below w.heap.size w x.1) := hid fun x => (((Below.refl _ _).alloc (Nat.le_refl _) _).alloc (by simp) _).trans (x.2.mono (by simp; omega))
  have HBl : Hid (Box ((w.alloc (.cells #[.int .i64 3, .int .i64 lo, .int .i64 hi', sn, sp, sr] 26)).alloc (.cells #[.int .i64 vn, .slice bn a bcn, .slice bp b bcp, .slice be c bce] 30)) (w.heap.size) #[.int .i64 3, .int .i64 lo, .int .i64 hi', sn, sp, sr]) := hid ((Box.new _ _ _ _ rfl).alloc _)
  have HBv : Hid (Box ((w.alloc (.cells #[.int .i64 3, .int .i64 lo, .int .i64 hi', sn, sp, sr] 26)).alloc (.cells #[.int .i64 vn, .slice bn a bcn, .slice bp b bcp, .slice be c bce] 30)) (w.heap.size + 1) #[.int .i64 vn, .slice bn a bcn, .slice bp b bcp, .slice be c bce]) := hid (Box.new _ _ _ _ (by simp))
  go_enter Tryz.func38, Tryz.ntmps38
  go_upto_region 1 with fail
  generalize (w.alloc (.cells #[.int .i64 3, .int .i64 lo, .int .i64 hi', sn, sp, sr] 26)).alloc (.cells #[.int .i64 vn, .slice bn a bcn, .slice bp b bcp, .slice be c bce] 30) = W2 at HB HBl HBv ⊢
  obtain ⟨x0, hx⟩ := ext_self W2
  rw [hx]
  clear hx
  have l0 : ∀ x : Ext W2, x.1.cell? ⟨w.heap.size, 0, none⟩ = some (.int .i64 3) := fun x => (HBl.out.ext x) 0 _ rfl
  have l1 : ∀ x : Ext W2, x.1.cell? ⟨w.heap.size, 1, none⟩ = some (.int .i64 lo) := fun x => (HBl.out.ext x) 1 _ rfl
  have l2 : ∀ x : Ext W2, x.1.cell? ⟨w.heap.size, 2, none⟩ = some (.int .i64 hi') := fun x => (HBl.out.ext x) 2 _ rfl
  have l3 : ∀ x : Ext W2, x.1.cell? ⟨w.heap.size, 3, none⟩ = some (sn) := fun x => (HBl.out.ext x) 3 _ rfl
  have l4 : ∀ x : Ext W2, x.1.cell? ⟨w.heap.size, 4, none⟩ = some (sp) := fun x => (HBl.out.ext x) 4 _ rfl
  have l5 : ∀ x : Ext W2, x.1.cell? ⟨w.heap.size, 5, none⟩ = some (sr) := fun x => (HBl.out.ext x) 5 _ rfl
  have v0 : ∀ x : Ext W2, x.1.cell? ⟨w.heap.size + 1, 0, none⟩ = some (.int .i64 vn) := fun x => (HBv.out.ext x) 0 _ rfl
  have v1 : ∀ x : Ext W2, x.1.cell? ⟨w.heap.size + 1, 1, none⟩ = some (.slice bn a bcn) := fun x => (HBv.out.ext x) 1 _ rfl
  have v2 : ∀ x : Ext W2, x.1.cell? ⟨w.heap.size + 1, 2, none⟩ = some (.slice bp b bcp) := fun x => (HBv.out.ext x) 2 _ rfl
  have v3 : ∀ x : Ext W2, x.1.cell? ⟨w.heap.size + 1, 3, none⟩ = some (.slice be c bce) := fun x => (HBv.out.ext x) 3 _ rfl
  go_wp2_with fail
  all_goals
    go_ret
    refine ⟨ret_bool ?_, HB.out _⟩
    rw [Bool.eq_iff_iff, HE.out]
    clear HB HE
    simp only [bne_iff_ne, ne_eq, bne_eq_false_iff_eq, beq_iff_eq, decide_eq_true_eq, Decidable.not_not, Bool.false_eq_true, true_iff, false_iff, Bool.true_eq_false, and_true, and_false, true_and, false_and, iff_true, iff_false, or_false] at * <;> omega
theorem relem_4 (lo hi' : Int) (sn sp sr : Value) (vn : Int) (a b c : Nat) (bn bp be : Option Addr) (bcn bcp bce : Nat) (w : World) (R : Bool) (M : Bool)
    (HM : Hid (∀ W, Below w.heap.size w W → Calls Tryz.prog 68 #[sn, .slice bn a bcn] W fun e w' => e = .returned (.bool M) ∧ Below W.heap.size W w'))
    (HE : Hid (R = true ↔ c = 0 ∧ vn = 0 ∧ b = 0 ∧ M = true)) :
    Calls Tryz.prog 38 #[.agg #[.int .i64 4, .int .i64 lo, .int .i64 hi', sn, sp, sr], .agg #[.int .i64 vn, .slice bn a bcn, .slice bp b bcp, .slice be c bce]] w fun e w' => e = .returned (.bool R) ∧ Below w.heap.size w w' := by
  have HB : Hid (∀ x : Ext ((w.alloc (.cells #[.int .i64 4, .int .i64 lo, .int .i64 hi', sn, sp, sr] 26)).alloc (.cells #[.int .i64 vn, .slice bn a bcn, .slice bp b bcp, .slice be c bce] 30)), Below w.heap.size w x.1) := hid fun x => (((Below.refl _ _).alloc (Nat.le_refl _) _).alloc (by simp) _).trans (x.2.mono (by simp; omega))
  have HBl : Hid (Box ((w.alloc (.cells #[.int .i64 4, .int .i64 lo, .int .i64 hi', sn, sp, sr] 26)).alloc (.cells #[.int .i64 vn, .slice bn a bcn, .slice bp b bcp, .slice be c bce] 30)) (w.heap.size) #[.int .i64 4, .int .i64 lo, .int .i64 hi', sn, sp, sr]) := hid ((Box.new _ _ _ _ rfl).alloc _)
  have HBv : Hid (Box ((w.alloc (.cells #[.int .i64 4, .int .i64 lo, .int .i64 hi', sn, sp, sr] 26)).alloc (.cells #[.int .i64 vn, .slice bn a bcn, .slice bp b bcp, .slice be c bce] 30)) (w.heap.size + 1) #[.int .i64 vn, .slice bn a bcn, .slice bp b bcp, .slice be c bce]) := hid (Box.new _ _ _ _ (by simp))
  go_enter Tryz.func38, Tryz.ntmps38
  go_upto_region 1 with fail
  generalize (w.alloc (.cells #[.int .i64 4, .int .i64 lo, .int .i64 hi', sn, sp, sr] 26)).alloc (.cells #[.int .i64 vn, .slice bn a bcn, .slice bp b bcp, .slice be c bce] 30) = W2 at HB HBl HBv ⊢
  obtain ⟨x0, hx⟩ := ext_self W2
  rw [hx]
  clear hx
  have l0 : ∀ x : Ext W2, x.1.cell? ⟨w.heap.size, 0, none⟩ = some (.int .i64 4) := fun x => (HBl.out.ext x) 0 _ rfl
  have l1 : ∀ x : Ext W2, x.1.cell? ⟨w.heap.size, 1, none⟩ = some (.int .i64 lo) := fun x => (HBl.out.ext x) 1 _ rfl
  have l2 : ∀ x : Ext W2, x.1.cell? ⟨w.heap.size, 2, none⟩ = some (.int .i64 hi') := fun x => (HBl.out.ext x) 2 _ rfl
  have l3 : ∀ x : Ext W2, x.1.cell? ⟨w.heap.size, 3, none⟩ = some (sn) := fun x => (HBl.out.ext x) 3 _ rfl
  have l4 : ∀ x : Ext W2, x.1.cell? ⟨w.heap.size, 4, none⟩ = some (sp) := fun x => (HBl.out.ext x) 4 _ rfl
  have l5 : ∀ x : Ext W2, x.1.cell? ⟨w.heap.size, 5, none⟩ = some (sr) := fun x => (HBl.out.ext x) 5 _ rfl
  have v0 : ∀ x : Ext W2, x.1.cell? ⟨w.heap.size + 1, 0, none⟩ = some (.int .i64 vn) := fun x => (HBv.out.ext x) 0 _ rfl
  have v1 : ∀ x : Ext W2, x.1.cell? ⟨w.heap.size + 1, 1, none⟩ = some (.slice bn a bcn) := fun x => (HBv.out.ext x) 1 _ rfl
  have v2 : ∀ x : Ext W2, x.1.cell? ⟨w.heap.size + 1, 2, none⟩ = some (.slice bp b bcp) := fun x => (HBv.out.ext x) 2 _ rfl
  have v3 : ∀ x : Ext W2, x.1.cell? ⟨w.heap.size + 1, 3, none⟩ = some (.slice be c bce) := fun x => (HBv.out.ext x) 3 _ rfl
  replace HM := hid (ext_of HB.out HM.out)
  cases M
  all_goals
    go_wp2_with (first | (go_at_call 68; refine (HM.out _).mono ?_; rintro e _ ⟨rfl, y, rfl⟩))
    all_goals
      go_ret
      refine ⟨ret_bool ?_, HB.out _⟩
      rw [Bool.eq_iff_iff, HE.out]
      clear HB HE
      simp only [bne_iff_ne, ne_eq, bne_eq_false_iff_eq, beq_iff_eq, decide_eq_true_eq, Decidable.not_not, Bool.false_eq_true, true_iff, false_iff, Bool.true_eq_false, and_true, and_false, true_and, false_and, iff_true, iff_false, or_false] at * <;> omega
theorem relem_8 (lo hi' : Int) (sn sp sr : Value) (vn : Int) (a b c : Nat) (bn bp be : Option Addr) (bcn bcp bce : Nat) (w : World) (R : Bool) (M : Bool)
    (HM : Hid (∀ W, Below w.heap.size w W → Calls Tryz.prog 68 #[sn, .slice bn a bcn] W fun e w' => e = .returned (.bool M) ∧ Below W.heap.size W w'))
    (HE : Hid (R = true ↔ c = 0 ∧ b = 0 ∧ ((vn = 0 ∨ vn = 2) ∧ a = 0 ∨ vn = 1 ∧ a = 1 ∧ M = true))) :
    Calls Tryz.prog 38 #[.agg #[.int .i64 8, .int .i64 lo, .int .i64 hi', sn, sp, sr], .agg #[.int .i64 vn, .slice bn a bcn, .slice bp b bcp, .slice be c bce]] w fun e w' => e = .returned (.bool R) ∧ Below w.heap.size w w' := by
  have HB : Hid (∀ x : Ext ((w.alloc (.cells #[.int .i64 8, .int .i64 lo, .int .i64 hi', sn, sp, sr] 26)).alloc (.cells #[.int .i64 vn, .slice bn a bcn, .slice bp b bcp, .slice be c bce] 30)), Below w.heap.size w x.1) := hid fun x => (((Below.refl _ _).alloc (Nat.le_refl _) _).alloc (by simp) _).trans (x.2.mono (by simp; omega))
  have HBl : Hid (Box ((w.alloc (.cells #[.int .i64 8, .int .i64 lo, .int .i64 hi', sn, sp, sr] 26)).alloc (.cells #[.int .i64 vn, .slice bn a bcn, .slice bp b bcp, .slice be c bce] 30)) (w.heap.size) #[.int .i64 8, .int .i64 lo, .int .i64 hi', sn, sp, sr]) := hid ((Box.new _ _ _ _ rfl).alloc _)
  have HBv : Hid (Box ((w.alloc (.cells #[.int .i64 8, .int .i64 lo, .int .i64 hi', sn, sp, sr] 26)).alloc (.cells #[.int .i64 vn, .slice bn a bcn, .slice bp b bcp, .slice be c bce] 30)) (w.heap.size + 1) #[.int .i64 vn, .slice bn a bcn, .slice bp b bcp, .slice be c bce]) := hid (Box.new _ _ _ _ (by simp))
  go_enter Tryz.func38, Tryz.ntmps38
  go_upto_region 1 with fail
  generalize (w.alloc (.cells #[.int .i64 8, .int .i64 lo, .int .i64 hi', sn, sp, sr] 26)).alloc (.cells #[.int .i64 vn, .slice bn a bcn, .slice bp b bcp, .slice be c bce] 30) = W2 at HB HBl HBv ⊢
  obtain ⟨x0, hx⟩ := ext_self W2
  rw [hx]
  clear hx
  have l0 : ∀ x : Ext W2, x.1.cell? ⟨w.heap.size, 0, none⟩ = some (.int .i64 8) := fun x => (HBl.out.ext x) 0 _ rfl
  have l1 : ∀ x : Ext W2, x.1.cell? ⟨w.heap.size, 1, none⟩ = some (.int .i64 lo) := fun x => (HBl.out.ext x) 1 _ rfl
  have l2 : ∀ x : Ext W2, x.1.cell? ⟨w.heap.size, 2, none⟩ = some (.int .i64 hi') := fun x => (HBl.out.ext x) 2 _ rfl
  have l3 : ∀ x : Ext W2, x.1.cell? ⟨w.heap.size, 3, none⟩ = some (sn) := fun x => (HBl.out.ext x) 3 _ rfl
  have l4 : ∀ x : Ext W2, x.1.cell? ⟨w.heap.size, 4, none⟩ = some (sp) := fun x => (HBl.out.ext x) 4 _ rfl
  have l5 : ∀ x : Ext W2, x.1.cell? ⟨w.heap.size, 5, none⟩ = some (sr) := fun x => (HBl.out.ext x) 5 _ rfl
  have v0 : ∀ x : Ext W2, x.1.cell? ⟨w.heap.size + 1, 0, none⟩ = some (.int .i64 vn) := fun x => (HBv.out.ext x) 0 _ rfl
  have v1 : ∀ x : Ext W2, x.1.cell? ⟨w.heap.size + 1, 1, none⟩ = some (.slice bn a bcn) := fun x => (HBv.out.ext x) 1 _ rfl
  have v2 : ∀ x : Ext W2, x.1.cell? ⟨w.heap.size + 1, 2, none⟩ = some (.slice bp b bcp) := fun x => (HBv.out.ext x) 2 _ rfl
  have v3 : ∀ x : Ext W2, x.1.cell? ⟨w.heap.size + 1, 3, none⟩ = some (.slice be c bce) := fun x => (HBv.out.ext x) 3 _ rfl
  replace HM := hid (ext_of HB.out HM.out)
  cases M
  all_goals
    go_wp2_with (first | (go_at_call 68; refine (HM.out _).mono ?_; rintro e _ ⟨rfl, y, rfl⟩))
    all_goals
      go_ret
      refine ⟨ret_bool ?_, HB.out _⟩
      rw [Bool.eq_iff_iff, HE.out]
      clear HB HE
      simp only [bne_iff_ne, ne_eq, bne_eq_false_iff_eq, beq_iff_eq, decide_eq_true_eq, Decidable.not_not, Bool.false_eq_true, true_iff, false_iff, Bool.true_eq_false, and_true, and_false, true_and, false_and, iff_true, iff_false, or_false] at * <;> omega
theorem relem_9 (lo hi' : Int) (sn sp sr : Value) (vn : Int) (a b c : Nat) (bn bp be : Option Addr) (bcn bcp bce : Nat) (w : World) (R : Bool) (E : Bool)
    (HEN : Hid (∀ W, Below w.heap.size w W → Calls Tryz.prog 69 #[.slice be c bce] W fun e w' => e = .returned (.bool E) ∧ Below W.heap.size W w'))
    (HE : Hid (R = true ↔ vn = 0 ∧ a = 0 ∧ b = 0 ∧ E = true)) :
    Calls Tryz.prog 38 #[.agg #[.int .i64 9, .int .i64 lo, .int .i64 hi', sn, sp, sr], .agg #[.int .i64 vn, .slice bn a bcn, .slice bp b bcp, .slice be c bce]] w fun e w' => e = .returned (.bool R) ∧ Below w.heap.size w w' := by
  have HB : Hid (∀ x : Ext ((w.alloc (.cells #[.int .i64 9, .int .i64 lo, .int .i64 hi', sn, sp, sr] 26)).alloc (.cells #[.int .i64 vn, .slice bn a bcn, .slice bp b bcp, .slice be c bce] 30)), Below w.heap.size w x.1) := hid fun x => (((Below.refl _ _).alloc (Nat.le_refl _) _).alloc (by simp) _).trans (x.2.mono (by simp; omega))
  have HBl : Hid (Box ((w.alloc (.cells #[.int .i64 9, .int .i64 lo, .int .i64 hi', sn, sp, sr] 26)).alloc (.cells #[.int .i64 vn, .slice bn a bcn, .slice bp b bcp, .slice be c bce] 30)) (w.heap.size) #[.int .i64 9, .int .i64 lo, .int .i64 hi', sn, sp, sr]) := hid ((Box.new _ _ _ _ rfl).alloc _)
  have HBv : Hid (Box ((w.alloc (.cells #[.int .i64 9, .int .i64 lo, .int .i64 hi', sn, sp, sr] 26)).alloc (.cells #[.int .i64 vn, .slice bn a bcn, .slice bp b bcp, .slice be c bce] 30)) (w.heap.size + 1) #[.int .i64 vn, .slice bn a bcn, .slice bp b bcp, .slice be c bce]) := hid (Box.new _ _ _ _ (by simp))
  go_enter Tryz.func38, Tryz.ntmps38
  go_upto_region 1 with fail
  generalize (w.alloc (.cells #[.int .i64 9, .int .i64 lo, .int .i64 hi', sn, sp, sr] 26)).alloc (.cells #[.int .i64 vn, .slice bn a bcn, .slice bp b bcp, .slice be c bce] 30) = W2 at HB HBl HBv ⊢
  obtain ⟨x0, hx⟩ := ext_self W2
  rw [hx]
  clear hx
  have l0 : ∀ x : Ext W2, x.1.cell? ⟨w.heap.size, 0, none⟩ = some (.int .i64 9) := fun x => (HBl.out.ext x) 0 _ rfl
  have l1 : ∀ x : Ext W2, x.1.cell? ⟨w.heap.size, 1, none⟩ = some (.int .i64 lo) := fun x => (HBl.out.ext x) 1 _ rfl
  have l2 : ∀ x : Ext W2, x.1.cell? ⟨w.heap.size, 2, none⟩ = some (.int .i64 hi') := fun x => (HBl.out.ext x) 2 _ rfl
  have l3 : ∀ x : Ext W2, x.1.cell? ⟨w.heap.size, 3, none⟩ = some (sn) := fun x => (HBl.out.ext x) 3 _ rfl
  have l4 : ∀ x : Ext W2, x.1.cell? ⟨w.heap.size, 4, none⟩ = some (sp) := fun x => (HBl.out.ext x) 4 _ rfl
  have l5 : ∀ x : Ext W2, x.1.cell? ⟨w.heap.size, 5, none⟩ = some (sr) := fun x => (HBl.out.ext x) 5 _ rfl
  have v0 : ∀ x : Ext W2, x.1.cell? ⟨w.heap.size + 1, 0, none⟩ = some (.int .i64 vn) := fun x => (HBv.out.ext x) 0 _ rfl
  have v1 : ∀ x : Ext W2, x.1.cell? ⟨w.heap.size + 1, 1, none⟩ = some (.slice bn a bcn) := fun x => (HBv.out.ext x) 1 _ rfl
  have v2 : ∀ x : Ext W2, x.1.cell? ⟨w.heap.size + 1, 2, none⟩ = some (.slice bp b bcp) := fun x => (HBv.out.ext x) 2 _ rfl
  have v3 : ∀ x : Ext W2, x.1.cell? ⟨w.heap.size + 1, 3, none⟩ = some (.slice be c bce) := fun x => (HBv.out.ext x) 3 _ rfl
  replace HEN := hid (ext_of HB.out HEN.out)
  cases E
  all_goals
    go_wp2_with (first | (go_at_call 69; refine (HEN.out _).mono ?_; rintro e _ ⟨rfl, y, rfl⟩))
    all_goals
      go_ret
      refine ⟨ret_bool ?_, HB.out _⟩
      rw [Bool.eq_iff_iff, HE.out]
      clear HB HE
      simp only [bne_iff_ne, ne_eq, bne_eq_false_iff_eq, beq_iff_eq, decide_eq_true_eq, Decidable.not_not, Bool.false_eq_true, true_iff, false_iff, Bool.true_eq_false, and_true, and_false, true_and, false_and, iff_true, iff_false, or_false] at * <;> omega
theorem relem_10 (lo hi' : Int) (sn sp sr : Value) (vn : Int) (a b c : Nat) (bn bp be : Option Addr) (bcn bcp bce : Nat) (w : World) (R : Bool) (M : Bool)
    (HM : Hid (∀ W, Below w.heap.size w W → Calls Tryz.prog 68 #[sn, .slice bn a bcn] W fun e w' => e = .returned (.bool M) ∧ Below W.heap.size W w')) (C : Bool)
    (HCL : Hid (∀ W, Below w.heap.size w W → Calls Tryz.prog 70 #[sr, .slice bn a bcn] W fun e w' => e = .returned (.bool C) ∧ Below W.heap.size W w'))
    (HE : Hid (R = true ↔ c = 0 ∧ vn = 0 ∧ b = 0 ∧ M = true ∧ C = true)) :
    Calls Tryz.prog 38 #[.agg #[.int .i64 10, .int .i64 lo, .int .i64 hi', sn, sp, sr], .agg #[.int .i64 vn, .slice bn a bcn, .slice bp b bcp, .slice be c bce]] w fun e w' => e = .returned (.bool R) ∧ Below w.heap.size w w' := by
  have HB : Hid (∀ x : Ext ((w.alloc (.cells #[.int .i64 10, .int .i64 lo, .int .i64 hi', sn, sp, sr] 26)).alloc (.cells #[.int .i64 vn, .slice bn a bcn, .slice bp b bcp, .slice be c bce] 30)), Below w.heap.size w x.1) := hid fun x => (((Below.refl _ _).alloc (Nat.le_refl _) _).alloc (by simp) _).trans (x.2.mono (by simp; omega))
  have HBl : Hid (Box ((w.alloc (.cells #[.int .i64 10, .int .i64 lo, .int .i64 hi', sn, sp, sr] 26)).alloc (.cells #[.int .i64 vn, .slice bn a bcn, .slice bp b bcp, .slice be c bce] 30)) (w.heap.size) #[.int .i64 10, .int .i64 lo, .int .i64 hi', sn, sp, sr]) := hid ((Box.new _ _ _ _ rfl).alloc _)
  have HBv : Hid (Box ((w.alloc (.cells #[.int .i64 10, .int .i64 lo, .int .i64 hi', sn, sp, sr] 26)).alloc (.cells #[.int .i64 vn, .slice bn a bcn, .slice bp b bcp, .slice be c bce] 30)) (w.heap.size + 1) #[.int .i64 vn, .slice bn a bcn, .slice bp b bcp, .slice be c bce]) := hid (Box.new _ _ _ _ (by simp))
  go_enter Tryz.func38, Tryz.ntmps38
  go_upto_region 1 with fail
  generalize (w.alloc (.cells #[.int .i64 10, .int .i64 lo, .int .i64 hi', sn, sp, sr] 26)).alloc (.cells #[.int .i64 vn, .slice bn a bcn, .slice bp b bcp, .slice be c bce] 30) = W2 at HB HBl HBv ⊢
  obtain ⟨x0, hx⟩ := ext_self W2
  rw [hx]
  clear hx
  have l0 : ∀ x : Ext W2, x.1.cell? ⟨w.heap.size, 0, none⟩ = some (.int .i64 10) := fun x => (HBl.out.ext x) 0 _ rfl
  have l1 : ∀ x : Ext W2, x.1.cell? ⟨w.heap.size, 1, none⟩ = some (.int .i64 lo) := fun x => (HBl.out.ext x) 1 _ rfl
  have l2 : ∀ x : Ext W2, x.1.cell? ⟨w.heap.size, 2, none⟩ = some (.int .i64 hi') := fun x => (HBl.out.ext x) 2 _ rfl
  have l3 : ∀ x : Ext W2, x.1.cell? ⟨w.heap.size, 3, none⟩ = some (sn) := fun x => (HBl.out.ext x) 3 _ rfl
  have l4 : ∀ x : Ext W2, x.1.cell? ⟨w.heap.size, 4, none⟩ = some (sp) := fun x => (HBl.out.ext x) 4 _ rfl
  have l5 : ∀ x : Ext W2, x.1.cell? ⟨w.heap.size, 5, none⟩ = some (sr) := fun x => (HBl.out.ext x) 5 _ rfl
  have v0 : ∀ x : Ext W2, x.1.cell? ⟨w.heap.size + 1, 0, none⟩ = some (.int .i64 vn) := fun x => (HBv.out.ext x) 0 _ rfl
  have v1 : ∀ x : Ext W2, x.1.cell? ⟨w.heap.size + 1, 1, none⟩ = some (.slice bn a bcn) := fun x => (HBv.out.ext x) 1 _ rfl
  have v2 : ∀ x : Ext W2, x.1.cell? ⟨w.heap.size + 1, 2, none⟩ = some (.slice bp b bcp) := fun x => (HBv.out.ext x) 2 _ rfl
  have v3 : ∀ x : Ext W2, x.1.cell? ⟨w.heap.size + 1, 3, none⟩ = some (.slice be c bce) := fun x => (HBv.out.ext x) 3 _ rfl
  replace HM := hid (ext_of HB.out HM.out)
  replace HCL := hid (ext_of HB.out HCL.out)
  cases M <;> cases C
  all_goals
    go_wp2_with (first | (go_at_call 68; refine (HM.out _).mono ?_; rintro e _ ⟨rfl, y, rfl⟩) | (go_at_call 70; refine (HCL.out _).mono ?_; rintro e _ ⟨rfl, y, rfl⟩))
    all_goals
      go_ret
      refine ⟨ret_bool ?_, HB.out _⟩
      rw [Bool.eq_iff_iff, HE.out]
      clear HB HE
      simp only [bne_iff_ne, ne_eq, bne_eq_false_iff_eq, beq_iff_eq, decide_eq_true_eq, Decidable.not_not, Bool.false_eq_true, true_iff, false_iff, Bool.true_eq_false, and_true, and_false, true_and, false_and, iff_true, iff_false, or_false] at * <;> omega
theorem relem_6 (lo hi' : Int) (sn sr : Value) (vn : Int) (a c : Nat) (bn bp be : Option Addr) (bcn bcp bce : Nat) (w : World) (R : Bool) (vps : List Val) (ap : Option Addr) (cp : Nat) (ps : List Lat) (HVP : Hid (SlRd w 4 (valRd w) (.slice bp vps.length bcp) vps)) (HPS : Hid (SlRd w 6 (latRd w) (.slice ap ps.length cp) ps))
    (HEL : Hid (∀ (p : Lat) (q : Val) (cl cq : List Value) (W : World), p ∈ ps → Below w.heap.size w W → latRd W p cl → valRd W q cq → Calls Tryz.prog 38 #[.agg cl.toArray, .agg cq.toArray] W fun e w' => e = .returned (.bool (elemB p q)) ∧ Below W.heap.size W w'))
    (HE : Hid (R = (decide (c = 0) && (decide (vn = 0) && (decide (a = 0) && (decide (vps.length = ps.length) && elemsB ps vps)))))) :
    Calls Tryz.prog 38 #[.agg #[.int .i64 6, .int .i64 lo, .int .i64 hi', sn, .slice ap ps.length cp, sr], .agg #[.int .i64 vn, .slice bn a bcn, .slice bp vps.length bcp, .slice be c bce]] w fun e w' => e = .returned (.bool R) ∧ Below w.heap.size w w' := by
  have hvl : vps.length ≤ 9223372036854775807 := by obtain ⟨_, _, _, _, h⟩ := HVP.out.shape; omega
  have hpl : ps.length ≤ 9223372036854775807 := by obtain ⟨_, _, _, _, h⟩ := HPS.out.shape; omega
  have HB : Hid (∀ x : Ext ((w.alloc (.cells #[.int .i64 6, .int .i64 lo, .int .i64 hi', sn, .slice ap ps.length cp, sr] 26)).alloc (.cells #[.int .i64 vn, .slice bn a bcn, .slice bp vps.length bcp, .slice be c bce] 30)), Below w.heap.size w x.1) := hid fun x => (((Below.refl _ _).alloc (Nat.le_refl _) _).alloc (by simp) _).trans (x.2.mono (by simp; omega))
  have HBl : Hid (Box ((w.alloc (.cells #[.int .i64 6, .int .i64 lo, .int .i64 hi', sn, .slice ap ps.length cp, sr] 26)).alloc (.cells #[.int .i64 vn, .slice bn a bcn, .slice bp vps.length bcp, .slice be c bce] 30)) (w.heap.size) #[.int .i64 6, .int .i64 lo, .int .i64 hi', sn, .slice ap ps.length cp, sr]) := hid ((Box.new _ _ _ _ rfl).alloc _)
  have HBv : Hid (Box ((w.alloc (.cells #[.int .i64 6, .int .i64 lo, .int .i64 hi', sn, .slice ap ps.length cp, sr] 26)).alloc (.cells #[.int .i64 vn, .slice bn a bcn, .slice bp vps.length bcp, .slice be c bce] 30)) (w.heap.size + 1) #[.int .i64 vn, .slice bn a bcn, .slice bp vps.length bcp, .slice be c bce]) := hid (Box.new _ _ _ _ (by simp))
  go_enter Tryz.func38, Tryz.ntmps38
  go_upto_region 1 with fail
  generalize (w.alloc (.cells #[.int .i64 6, .int .i64 lo, .int .i64 hi', sn, .slice ap ps.length cp, sr] 26)).alloc (.cells #[.int .i64 vn, .slice bn a bcn, .slice bp vps.length bcp, .slice be c bce] 30) = W2 at HB HBl HBv ⊢
  obtain ⟨x0, hx⟩ := ext_self W2
  rw [hx]
  clear hx
  have l0 : ∀ x : Ext W2, x.1.cell? ⟨w.heap.size, 0, none⟩ = some (.int .i64 6) := fun x => (HBl.out.ext x) 0 _ rfl
  have l1 : ∀ x : Ext W2, x.1.cell? ⟨w.heap.size, 1, none⟩ = some (.int .i64 lo) := fun x => (HBl.out.ext x) 1 _ rfl
  have l2 : ∀ x : Ext W2, x.1.cell? ⟨w.heap.size, 2, none⟩ = some (.int .i64 hi') := fun x => (HBl.out.ext x) 2 _ rfl
  have l3 : ∀ x : Ext W2, x.1.cell? ⟨w.heap.size, 3, none⟩ = some (sn) := fun x => (HBl.out.ext x) 3 _ rfl
  have l4 : ∀ x : Ext W2, x.1.cell? ⟨w.heap.size, 4, none⟩ = some (.slice ap ps.length cp) := fun x => (HBl.out.ext x) 4 _ rfl
  have l5 : ∀ x : Ext W2, x.1.cell? ⟨w.heap.size, 5, none⟩ = some (sr) := fun x => (HBl.out.ext x) 5 _ rfl
  have v0 : ∀ x : Ext W2, x.1.cell? ⟨w.heap.size + 1, 0, none⟩ = some (.int .i64 vn) := fun x => (HBv.out.ext x) 0 _ rfl
  have v1 : ∀ x : Ext W2, x.1.cell? ⟨w.heap.size + 1, 1, none⟩ = some (.slice bn a bcn) := fun x => (HBv.out.ext x) 1 _ rfl
  have v2 : ∀ x : Ext W2, x.1.cell? ⟨w.heap.size + 1, 2, none⟩ = some (.slice bp vps.length bcp) := fun x => (HBv.out.ext x) 2 _ rfl
  have v3 : ∀ x : Ext W2, x.1.cell? ⟨w.heap.size + 1, 3, none⟩ = some (.slice be c bce) := fun x => (HBv.out.ext x) 3 _ rfl
  by_cases h1 : c = 0
  case neg =>
    have e1 : ((c : Int) != 0) = true := by rw [bne_iff_ne]; omega
    have HF : Hid (R = false) := hid (by rw [HE.out, decide_eq_false h1]; rfl)
    clear HE h1
    go_wp2_with fail
    go_ret
    exact ⟨ret_bool HF.out.symm, HB.out _⟩
  subst h1
  by_cases h2 : vn = 0
  case neg =>
    have e1 : (vn != 0) = true := by rw [bne_iff_ne]; exact h2
    have HF : Hid (R = false) := hid (by rw [HE.out, decide_eq_false h2, Bool.false_and, Bool.and_false])
    clear HE h2
    go_wp2_with fail
    go_ret
    exact ⟨ret_bool HF.out.symm, HB.out _⟩
  subst h2
  by_cases h3 : a = 0
  case neg =>
    have e1 : ((a : Int) != 0) = true := by rw [bne_iff_ne]; omega
    have HF : Hid (R = false) := hid (by rw [HE.out, decide_eq_false h3, Bool.false_and, Bool.and_false, Bool.and_false])
    clear HE h3
    go_wp2_with fail
    go_ret
    exact ⟨ret_bool HF.out.symm, HB.out _⟩
  subst h3
  obtain ⟨nv, hnv⟩ : ∃ n, n = vps.length := ⟨_, rfl⟩
  have HNV := hid hnv
  rw [← hnv] at HVP HE hvl ⊢
  have v2' : ∀ x : Ext W2, x.1.cell? ⟨w.heap.size + 1, 2, none⟩ = some (.slice bp nv bcp) := fun x => by rw [HNV.out]; exact v2 x
  clear v2 hnv
  obtain ⟨np, hnp⟩ : ∃ n, n = ps.length := ⟨_, rfl⟩
  have HNP := hid hnp
  rw [← hnp] at HPS HE hpl ⊢
  have l4' : ∀ x : Ext W2, x.1.cell? ⟨w.heap.size, 4, none⟩ = some (.slice ap np cp) := fun x => by rw [HNP.out]; exact l4 x
  clear l4 hnp
  by_cases h4 : nv = np
  case neg =>
    have e1 : ((nv : Int) != (np : Int)) = true := by rw [bne_iff_ne]; omega
    have HF : Hid (R = false) := hid (by rw [HE.out, decide_eq_false h4, Bool.false_and, Bool.and_false, Bool.and_false, Bool.and_false])
    clear HE h4
    go_wp2_with fail
    go_ret
    exact ⟨ret_bool HF.out.symm, HB.out _⟩
  subst h4
  have HD : Hid (R = elemsB (ps.drop 0) (vps.drop 0)) := hid (by rw [HE.out]; simp)
  clear HE
  go_wp2_with fail
  go_loopw [7] (fun i wr => ∃ (j : Nat) (x : Ext W2), j ≤ nv ∧ i = .int .i64 j ∧ wr = x.1 ∧ Hid (R = elemsB (ps.drop j) (vps.drop j))) (fun i _ => nv - (intOf i).toNat)
  case atStart => exact ⟨0, _, Nat.zero_le _, rfl, rfl, HD⟩
  case round =>
    obtain ⟨j, x, hj, rfl, rfl, He⟩ := hrel
    by_cases hlt : j < nv
    · obtain ⟨q, qb, qo, qn, qdn, qp, qdp, qe, qde, _, _, hqd, _, rfl, hqr, hqc⟩ := valEl HVP.out j (by rw [← HNV.out]; exact hlt)
      have HQR := hid hqr
      have HQC := hid hqc
      have q0 : ∀ x : Ext W2, x.1.cell? ⟨qb, qo + j * 4, none⟩ = some (.int .i64 q.n) := fun x => (HQC.out.below (HB.out x)) 0 (by simp)
      have q1 : ∀ x : Ext W2, x.1.cell? ⟨qb, qo + j * 4 + 1, none⟩ = some (.slice qn q.names.length qdn) := fun x => (HQC.out.below (HB.out x)) 1 (by simp)
      have q2 : ∀ x : Ext W2, x.1.cell? ⟨qb, qo + j * 4 + 2, none⟩ = some (.slice qp q.parts.length qdp) := fun x => (HQC.out.below (HB.out x)) 2 (by simp)
      have q3 : ∀ x : Ext W2, x.1.cell? ⟨qb, qo + j * 4 + 3, none⟩ = some (.slice qe q.entries.length qde) := fun x => (HQC.out.below (HB.out x)) 3 (by simp)
      obtain ⟨p, pb, po, pan, pcn, pap, pcp, par, pcr, _, hpm, hpd, _, rfl, hpr, hpc⟩ := latEl HPS.out j (by rw [← HNP.out]; exact hlt)
      have HPR := hid hpr
      have HPC := hid hpc
      have HPM := hid hpm
      have p0 : ∀ x : Ext W2, x.1.cell? ⟨pb, po + j * 6, none⟩ = some (.int .i64 p.kind) := fun x => (HPC.out.below (HB.out x)) 0 (by simp)
      have p1 : ∀ x : Ext W2, x.1.cell? ⟨pb, po + j * 6 + 1, none⟩ = some (.int .i64 p.lo) := fun x => (HPC.out.below (HB.out x)) 1 (by simp)
      have p2 : ∀ x : Ext W2, x.1.cell? ⟨pb, po + j * 6 + 2, none⟩ = some (.int .i64 p.hi) := fun x => (HPC.out.below (HB.out x)) 2 (by simp)
      have p3 : ∀ x : Ext W2, x.1.cell? ⟨pb, po + j * 6 + 3, none⟩ = some (.slice pan p.names.length pcn) := fun x => (HPC.out.below (HB.out x)) 3 (by simp)
      have p4 : ∀ x : Ext W2, x.1.cell? ⟨pb, po + j * 6 + 4, none⟩ = some (.slice pap p.parts.length pcp) := fun x => (HPC.out.below (HB.out x)) 4 (by simp)
      have p5 : ∀ x : Ext W2, x.1.cell? ⟨pb, po + j * 6 + 5, none⟩ = some (.slice par p.rules.length pcr) := fun x => (HPC.out.below (HB.out x)) 5 (by simp)
      have hi1 : (j : Int) < (nv : Int) := by omega
      have HJ : Hid (j + 1 ≤ nv) := hid hlt
      have HCE : Hid (∀ y : Ext W2, Calls Tryz.prog 38 #[.agg #[.int .i64 p.kind, .int .i64 p.lo, .int .i64 p.hi, .slice pan p.names.length pcn, .slice pap p.parts.length pcp, .slice par p.rules.length pcr], .agg #[.int .i64 q.n, .slice qn q.names.length qdn, .slice qp q.parts.length qdp, .slice qe q.entries.length qde]] y.1 fun e w' => e = .returned (.bool (elemB p q)) ∧ ∃ z : Ext W2, w' = z.1) := hid fun y => ext_call y (HEL.out p q _ _ y.1 HPM.out (HB.out y) (latRd.below (HB.out y) _ _ HPR.out) (valRd.below (HB.out y) _ _ HQR.out))
      have HS : Hid (R = (elemB p q && elemsB (ps.drop (j + 1)) (vps.drop (j + 1)))) := hid (by rw [He.out, hpd, hqd, elemsB])
      clear He hpd hqd hpr hqr hpc hqc hpm hlt hj
      generalize elemB p q = EL at HCE HS
      cases EL
      · have HF : Hid (R = false) := hid (by rw [HS.out]; rfl)
        clear HS
        go_wp2_with fail
        refine wp_region_at (by kernel_rfl) (by kernel_rfl) _ ?_
        repeat (go_big_quiet_step (with_reducible exact HCE.out _))
        refine wpQuiet_nil ?_
        rintro _ ⟨z, rfl⟩
        go_wp2_with fail
        go_ret
        exact ⟨ret_bool HF.out.symm, HB.out _⟩
      · have HF : Hid (R = elemsB (ps.drop (j + 1)) (vps.drop (j + 1))) := hid (by rw [HS.out]; rfl)
        clear HS
        go_wp2_with fail
        refine wp_region_at (by kernel_rfl) (by kernel_rfl) _ ?_
        repeat (go_big_quiet_step (with_reducible exact HCE.out _))
        refine wpQuiet_nil ?_
        rintro _ ⟨z, rfl⟩
        go_wp2_with fail
        go_roundw
        case rel => exact ⟨j + 1, z, HJ.out, by go_num, rfl, HF⟩
        case measure => have := HJ.out; simp [intOf]; omega
    · have hjj : j = nv := by omega
      subst hjj
      have HF : Hid (R = true) := hid (by rw [He.out, List.drop_eq_nil_of_le (Nat.le_of_eq HNP.out.symm), List.drop_eq_nil_of_le (Nat.le_of_eq HNV.out.symm), elemsB])
      clear hlt hj
      go_wp2_with fail
      go_ret
      exact ⟨ret_bool HF.out.symm, HB.out _⟩
theorem relem_7 (lo hi' : Int) (sn sr : Value) (vn : Int) (a c : Nat) (bn bp be : Option Addr) (bcn bcp bce : Nat) (w : World) (R : Bool) (vps : List Val) (ap : Option Addr) (cp : Nat) (ps : List Lat) (HVP : Hid (SlRd w 4 (valRd w) (.slice bp vps.length bcp) vps)) (HPS : Hid (SlRd w 6 (latRd w) (.slice ap ps.length cp) ps))
    (HEL : Hid (∀ (p : Lat) (q : Val) (cl cq : List Value) (W : World), p ∈ ps → Below w.heap.size w W → latRd W p cl → valRd W q cq → Calls Tryz.prog 38 #[.agg cl.toArray, .agg cq.toArray] W fun e w' => e = .returned (.bool (elemB p q)) ∧ Below W.heap.size W w'))
    (HE : Hid (R = (decide (c = 0) && (decide (vn = 0) && (decide (a = 0) && (decide (vps.length = ps.length) && elemsB ps vps)))))) :
    Calls Tryz.prog 38 #[.agg #[.int .i64 7, .int .i64 lo, .int .i64 hi', sn, .slice ap ps.length cp, sr], .agg #[.int .i64 vn, .slice bn a bcn, .slice bp vps.length bcp, .slice be c bce]] w fun e w' => e = .returned (.bool R) ∧ Below w.heap.size w w' := by
  have hvl : vps.length ≤ 9223372036854775807 := by obtain ⟨_, _, _, _, h⟩ := HVP.out.shape; omega
  have hpl : ps.length ≤ 9223372036854775807 := by obtain ⟨_, _, _, _, h⟩ := HPS.out.shape; omega
  have HB : Hid (∀ x : Ext ((w.alloc (.cells #[.int .i64 7, .int .i64 lo, .int .i64 hi', sn, .slice ap ps.length cp, sr] 26)).alloc (.cells #[.int .i64 vn, .slice bn a bcn, .slice bp vps.length bcp, .slice be c bce] 30)), Below w.heap.size w x.1) := hid fun x => (((Below.refl _ _).alloc (Nat.le_refl _) _).alloc (by simp) _).trans (x.2.mono (by simp; omega))
  have HBl : Hid (Box ((w.alloc (.cells #[.int .i64 7, .int .i64 lo, .int .i64 hi', sn, .slice ap ps.length cp, sr] 26)).alloc (.cells #[.int .i64 vn, .slice bn a bcn, .slice bp vps.length bcp, .slice be c bce] 30)) (w.heap.size) #[.int .i64 7, .int .i64 lo, .int .i64 hi', sn, .slice ap ps.length cp, sr]) := hid ((Box.new _ _ _ _ rfl).alloc _)
  have HBv : Hid (Box ((w.alloc (.cells #[.int .i64 7, .int .i64 lo, .int .i64 hi', sn, .slice ap ps.length cp, sr] 26)).alloc (.cells #[.int .i64 vn, .slice bn a bcn, .slice bp vps.length bcp, .slice be c bce] 30)) (w.heap.size + 1) #[.int .i64 vn, .slice bn a bcn, .slice bp vps.length bcp, .slice be c bce]) := hid (Box.new _ _ _ _ (by simp))
  go_enter Tryz.func38, Tryz.ntmps38
  go_upto_region 1 with fail
  generalize (w.alloc (.cells #[.int .i64 7, .int .i64 lo, .int .i64 hi', sn, .slice ap ps.length cp, sr] 26)).alloc (.cells #[.int .i64 vn, .slice bn a bcn, .slice bp vps.length bcp, .slice be c bce] 30) = W2 at HB HBl HBv ⊢
  obtain ⟨x0, hx⟩ := ext_self W2
  rw [hx]
  clear hx
  have l0 : ∀ x : Ext W2, x.1.cell? ⟨w.heap.size, 0, none⟩ = some (.int .i64 7) := fun x => (HBl.out.ext x) 0 _ rfl
  have l1 : ∀ x : Ext W2, x.1.cell? ⟨w.heap.size, 1, none⟩ = some (.int .i64 lo) := fun x => (HBl.out.ext x) 1 _ rfl
  have l2 : ∀ x : Ext W2, x.1.cell? ⟨w.heap.size, 2, none⟩ = some (.int .i64 hi') := fun x => (HBl.out.ext x) 2 _ rfl
  have l3 : ∀ x : Ext W2, x.1.cell? ⟨w.heap.size, 3, none⟩ = some (sn) := fun x => (HBl.out.ext x) 3 _ rfl
  have l4 : ∀ x : Ext W2, x.1.cell? ⟨w.heap.size, 4, none⟩ = some (.slice ap ps.length cp) := fun x => (HBl.out.ext x) 4 _ rfl
  have l5 : ∀ x : Ext W2, x.1.cell? ⟨w.heap.size, 5, none⟩ = some (sr) := fun x => (HBl.out.ext x) 5 _ rfl
  have v0 : ∀ x : Ext W2, x.1.cell? ⟨w.heap.size + 1, 0, none⟩ = some (.int .i64 vn) := fun x => (HBv.out.ext x) 0 _ rfl
  have v1 : ∀ x : Ext W2, x.1.cell? ⟨w.heap.size + 1, 1, none⟩ = some (.slice bn a bcn) := fun x => (HBv.out.ext x) 1 _ rfl
  have v2 : ∀ x : Ext W2, x.1.cell? ⟨w.heap.size + 1, 2, none⟩ = some (.slice bp vps.length bcp) := fun x => (HBv.out.ext x) 2 _ rfl
  have v3 : ∀ x : Ext W2, x.1.cell? ⟨w.heap.size + 1, 3, none⟩ = some (.slice be c bce) := fun x => (HBv.out.ext x) 3 _ rfl
  by_cases h1 : c = 0
  case neg =>
    have e1 : ((c : Int) != 0) = true := by rw [bne_iff_ne]; omega
    have HF : Hid (R = false) := hid (by rw [HE.out, decide_eq_false h1]; rfl)
    clear HE h1
    go_wp2_with fail
    go_ret
    exact ⟨ret_bool HF.out.symm, HB.out _⟩
  subst h1
  by_cases h2 : vn = 0
  case neg =>
    have e1 : (vn != 0) = true := by rw [bne_iff_ne]; exact h2
    have HF : Hid (R = false) := hid (by rw [HE.out, decide_eq_false h2, Bool.false_and, Bool.and_false])
    clear HE h2
    go_wp2_with fail
    go_ret
    exact ⟨ret_bool HF.out.symm, HB.out _⟩
  subst h2
  by_cases h3 : a = 0
  case neg =>
    have e1 : ((a : Int) != 0) = true := by rw [bne_iff_ne]; omega
    have HF : Hid (R = false) := hid (by rw [HE.out, decide_eq_false h3, Bool.false_and, Bool.and_false, Bool.and_false])
    clear HE h3
    go_wp2_with fail
    go_ret
    exact ⟨ret_bool HF.out.symm, HB.out _⟩
  subst h3
  obtain ⟨nv, hnv⟩ : ∃ n, n = vps.length := ⟨_, rfl⟩
  have HNV := hid hnv
  rw [← hnv] at HVP HE hvl ⊢
  have v2' : ∀ x : Ext W2, x.1.cell? ⟨w.heap.size + 1, 2, none⟩ = some (.slice bp nv bcp) := fun x => by rw [HNV.out]; exact v2 x
  clear v2 hnv
  obtain ⟨np, hnp⟩ : ∃ n, n = ps.length := ⟨_, rfl⟩
  have HNP := hid hnp
  rw [← hnp] at HPS HE hpl ⊢
  have l4' : ∀ x : Ext W2, x.1.cell? ⟨w.heap.size, 4, none⟩ = some (.slice ap np cp) := fun x => by rw [HNP.out]; exact l4 x
  clear l4 hnp
  by_cases h4 : nv = np
  case neg =>
    have e1 : ((nv : Int) != (np : Int)) = true := by rw [bne_iff_ne]; omega
    have HF : Hid (R = false) := hid (by rw [HE.out, decide_eq_false h4, Bool.false_and, Bool.and_false, Bool.and_false, Bool.and_false])
    clear HE h4
    go_wp2_with fail
    go_ret
    exact ⟨ret_bool HF.out.symm, HB.out _⟩
  subst h4
  have HD : Hid (R = elemsB (ps.drop 0) (vps.drop 0)) := hid (by rw [HE.out]; simp)
  clear HE
  go_wp2_with fail
  go_loopw [7] (fun i wr => ∃ (j : Nat) (x : Ext W2), j ≤ nv ∧ i = .int .i64 j ∧ wr = x.1 ∧ Hid (R = elemsB (ps.drop j) (vps.drop j))) (fun i _ => nv - (intOf i).toNat)
  case atStart => exact ⟨0, _, Nat.zero_le _, rfl, rfl, HD⟩
  case round =>
    obtain ⟨j, x, hj, rfl, rfl, He⟩ := hrel
    by_cases hlt : j < nv
    · obtain ⟨q, qb, qo, qn, qdn, qp, qdp, qe, qde, _, _, hqd, _, rfl, hqr, hqc⟩ := valEl HVP.out j (by rw [← HNV.out]; exact hlt)
      have HQR := hid hqr
      have HQC := hid hqc
      have q0 : ∀ x : Ext W2, x.1.cell? ⟨qb, qo + j * 4, none⟩ = some (.int .i64 q.n) := fun x => (HQC.out.below (HB.out x)) 0 (by simp)
      have q1 : ∀ x : Ext W2, x.1.cell? ⟨qb, qo + j * 4 + 1, none⟩ = some (.slice qn q.names.length qdn) := fun x => (HQC.out.below (HB.out x)) 1 (by simp)
      have q2 : ∀ x : Ext W2, x.1.cell? ⟨qb, qo + j * 4 + 2, none⟩ = some (.slice qp q.parts.length qdp) := fun x => (HQC.out.below (HB.out x)) 2 (by simp)
      have q3 : ∀ x : Ext W2, x.1.cell? ⟨qb, qo + j * 4 + 3, none⟩ = some (.slice qe q.entries.length qde) := fun x => (HQC.out.below (HB.out x)) 3 (by simp)
      obtain ⟨p, pb, po, pan, pcn, pap, pcp, par, pcr, _, hpm, hpd, _, rfl, hpr, hpc⟩ := latEl HPS.out j (by rw [← HNP.out]; exact hlt)
      have HPR := hid hpr
      have HPC := hid hpc
      have HPM := hid hpm
      have p0 : ∀ x : Ext W2, x.1.cell? ⟨pb, po + j * 6, none⟩ = some (.int .i64 p.kind) := fun x => (HPC.out.below (HB.out x)) 0 (by simp)
      have p1 : ∀ x : Ext W2, x.1.cell? ⟨pb, po + j * 6 + 1, none⟩ = some (.int .i64 p.lo) := fun x => (HPC.out.below (HB.out x)) 1 (by simp)
      have p2 : ∀ x : Ext W2, x.1.cell? ⟨pb, po + j * 6 + 2, none⟩ = some (.int .i64 p.hi) := fun x => (HPC.out.below (HB.out x)) 2 (by simp)
      have p3 : ∀ x : Ext W2, x.1.cell? ⟨pb, po + j * 6 + 3, none⟩ = some (.slice pan p.names.length pcn) := fun x => (HPC.out.below (HB.out x)) 3 (by simp)
      have p4 : ∀ x : Ext W2, x.1.cell? ⟨pb, po + j * 6 + 4, none⟩ = some (.slice pap p.parts.length pcp) := fun x => (HPC.out.below (HB.out x)) 4 (by simp)
      have p5 : ∀ x : Ext W2, x.1.cell? ⟨pb, po + j * 6 + 5, none⟩ = some (.slice par p.rules.length pcr) := fun x => (HPC.out.below (HB.out x)) 5 (by simp)
      have hi1 : (j : Int) < (nv : Int) := by omega
      have HJ : Hid (j + 1 ≤ nv) := hid hlt
      have HCE : Hid (∀ y : Ext W2, Calls Tryz.prog 38 #[.agg #[.int .i64 p.kind, .int .i64 p.lo, .int .i64 p.hi, .slice pan p.names.length pcn, .slice pap p.parts.length pcp, .slice par p.rules.length pcr], .agg #[.int .i64 q.n, .slice qn q.names.length qdn, .slice qp q.parts.length qdp, .slice qe q.entries.length qde]] y.1 fun e w' => e = .returned (.bool (elemB p q)) ∧ ∃ z : Ext W2, w' = z.1) := hid fun y => ext_call y (HEL.out p q _ _ y.1 HPM.out (HB.out y) (latRd.below (HB.out y) _ _ HPR.out) (valRd.below (HB.out y) _ _ HQR.out))
      have HS : Hid (R = (elemB p q && elemsB (ps.drop (j + 1)) (vps.drop (j + 1)))) := hid (by rw [He.out, hpd, hqd, elemsB])
      clear He hpd hqd hpr hqr hpc hqc hpm hlt hj
      generalize elemB p q = EL at HCE HS
      cases EL
      · have HF : Hid (R = false) := hid (by rw [HS.out]; rfl)
        clear HS
        go_wp2_with fail
        refine wp_region_at (by kernel_rfl) (by kernel_rfl) _ ?_
        repeat (go_big_quiet_step (with_reducible exact HCE.out _))
        refine wpQuiet_nil ?_
        rintro _ ⟨z, rfl⟩
        go_wp2_with fail
        go_ret
        exact ⟨ret_bool HF.out.symm, HB.out _⟩
      · have HF : Hid (R = elemsB (ps.drop (j + 1)) (vps.drop (j + 1))) := hid (by rw [HS.out]; rfl)
        clear HS
        go_wp2_with fail
        refine wp_region_at (by kernel_rfl) (by kernel_rfl) _ ?_
        repeat (go_big_quiet_step (with_reducible exact HCE.out _))
        refine wpQuiet_nil ?_
        rintro _ ⟨z, rfl⟩
        go_wp2_with fail
        go_roundw
        case rel => exact ⟨j + 1, z, HJ.out, by go_num, rfl, HF⟩
        case measure => have := HJ.out; simp [intOf]; omega
    · have hjj : j = nv := by omega
      subst hjj
      have HF : Hid (R = true) := hid (by rw [He.out, List.drop_eq_nil_of_le (Nat.le_of_eq HNP.out.symm), List.drop_eq_nil_of_le (Nat.le_of_eq HNV.out.symm), elemsB])
      clear hlt hj
      go_wp2_with fail
      go_ret
      exact ⟨ret_bool HF.out.symm, HB.out _⟩
theorem relem_5 (lo hi' : Int) (sn sr : Value) (vn : Int) (a c : Nat) (bn bp be : Option Addr) (bcn bcp bce : Nat) (w : World) (R : Bool) (vps : List Val) (ap : Option Addr) (cp : Nat) (ps : List Lat) (HVP : Hid (SlRd w 4 (valRd w) (.slice bp vps.length bcp) vps)) (HPS : Hid (SlRd w 6 (latRd w) (.slice ap ps.length cp) ps)) (p : Lat) (hps : ps = [p]) (M : Bool)
    (HM : Hid (∀ W, Below w.heap.size w W → Calls Tryz.prog 68 #[sn, .slice bn a bcn] W fun e w' => e = .returned (.bool M) ∧ Below W.heap.size W w'))
    (HEL : Hid (∀ (q : Val) (cl cq : List Value) (W : World), Below w.heap.size w W → latRd W p cl → valRd W q cq → Calls Tryz.prog 38 #[.agg cl.toArray, .agg cq.toArray] W fun e w' => e = .returned (.bool (elemB p q)) ∧ Below W.heap.size W w'))
    (HLE : Hid (∀ (cl : List Value) (W : World), Below w.heap.size w W → latRd W p cl → Calls Tryz.prog 62 #[.agg cl.toArray] W (ValPost W (botV p))))
    (HE : Hid (R = (decide (c = 0) && (decide (vn = 0) && (decide (a = vps.length) && (M && vps.all fun v => elemB p v && decide (valC v (botV p) ≠ 0))))))) :
    Calls Tryz.prog 38 #[.agg #[.int .i64 5, .int .i64 lo, .int .i64 hi', sn, .slice ap ps.length cp, sr], .agg #[.int .i64 vn, .slice bn a bcn, .slice bp vps.length bcp, .slice be c bce]] w fun e w' => e = .returned (.bool R) ∧ Below w.heap.size w w' := by
  have hvl : vps.length ≤ 9223372036854775807 := by obtain ⟨_, _, _, _, h⟩ := HVP.out.shape; omega
  have hpl : ps.length ≤ 9223372036854775807 := by obtain ⟨_, _, _, _, h⟩ := HPS.out.shape; omega
  have HPSE := hid hps
  clear hps
  have HB : Hid (∀ x : Ext ((w.alloc (.cells #[.int .i64 5, .int .i64 lo, .int .i64 hi', sn, .slice ap ps.length cp, sr] 26)).alloc (.cells #[.int .i64 vn, .slice bn a bcn, .slice bp vps.length bcp, .slice be c bce] 30)), Below w.heap.size w x.1) := hid fun x => (((Below.refl _ _).alloc (Nat.le_refl _) _).alloc (by simp) _).trans (x.2.mono (by simp; omega))
  have HBl : Hid (Box ((w.alloc (.cells #[.int .i64 5, .int .i64 lo, .int .i64 hi', sn, .slice ap ps.length cp, sr] 26)).alloc (.cells #[.int .i64 vn, .slice bn a bcn, .slice bp vps.length bcp, .slice be c bce] 30)) (w.heap.size) #[.int .i64 5, .int .i64 lo, .int .i64 hi', sn, .slice ap ps.length cp, sr]) := hid ((Box.new _ _ _ _ rfl).alloc _)
  have HBv : Hid (Box ((w.alloc (.cells #[.int .i64 5, .int .i64 lo, .int .i64 hi', sn, .slice ap ps.length cp, sr] 26)).alloc (.cells #[.int .i64 vn, .slice bn a bcn, .slice bp vps.length bcp, .slice be c bce] 30)) (w.heap.size + 1) #[.int .i64 vn, .slice bn a bcn, .slice bp vps.length bcp, .slice be c bce]) := hid (Box.new _ _ _ _ (by simp))
  go_enter Tryz.func38, Tryz.ntmps38
  go_upto_region 1 with fail
  generalize (w.alloc (.cells #[.int .i64 5, .int .i64 lo, .int .i64 hi', sn, .slice ap ps.length cp, sr] 26)).alloc (.cells #[.int .i64 vn, .slice bn a bcn, .slice bp vps.length bcp, .slice be c bce] 30) = W2 at HB HBl HBv ⊢
  obtain ⟨x0, hx⟩ := ext_self W2
  rw [hx]
  clear hx
  have l0 : ∀ x : Ext W2, x.1.cell? ⟨w.heap.size, 0, none⟩ = some (.int .i64 5) := fun x => (HBl.out.ext x) 0 _ rfl
  have l1 : ∀ x : Ext W2, x.1.cell? ⟨w.heap.size, 1, none⟩ = some (.int .i64 lo) := fun x => (HBl.out.ext x) 1 _ rfl
  have l2 : ∀ x : Ext W2, x.1.cell? ⟨w.heap.size, 2, none⟩ = some (.int .i64 hi') := fun x => (HBl.out.ext x) 2 _ rfl
  have l3 : ∀ x : Ext W2, x.1.cell? ⟨w.heap.size, 3, none⟩ = some (sn) := fun x => (HBl.out.ext x) 3 _ rfl
  have l4 : ∀ x : Ext W2, x.1.cell? ⟨w.heap.size, 4, none⟩ = some (.slice ap ps.length cp) := fun x => (HBl.out.ext x) 4 _ rfl
  have l5 : ∀ x : Ext W2, x.1.cell? ⟨w.heap.size, 5, none⟩ = some (sr) := fun x => (HBl.out.ext x) 5 _ rfl
  have v0 : ∀ x : Ext W2, x.1.cell? ⟨w.heap.size + 1, 0, none⟩ = some (.int .i64 vn) := fun x => (HBv.out.ext x) 0 _ rfl
  have v1 : ∀ x : Ext W2, x.1.cell? ⟨w.heap.size + 1, 1, none⟩ = some (.slice bn a bcn) := fun x => (HBv.out.ext x) 1 _ rfl
  have v2 : ∀ x : Ext W2, x.1.cell? ⟨w.heap.size + 1, 2, none⟩ = some (.slice bp vps.length bcp) := fun x => (HBv.out.ext x) 2 _ rfl
  have v3 : ∀ x : Ext W2, x.1.cell? ⟨w.heap.size + 1, 3, none⟩ = some (.slice be c bce) := fun x => (HBv.out.ext x) 3 _ rfl
  by_cases h1 : c = 0
  case neg =>
    have e1 : ((c : Int) != 0) = true := by rw [bne_iff_ne]; omega
    have HF : Hid (R = false) := hid (by rw [HE.out, decide_eq_false h1]; rfl)
    clear HE h1
    go_wp2_with fail
    go_ret
    exact ⟨ret_bool HF.out.symm, HB.out _⟩
  subst h1
  by_cases h2 : vn = 0
  case neg =>
    have e1 : (vn != 0) = true := by rw [bne_iff_ne]; exact h2
    have HF : Hid (R = false) := hid (by rw [HE.out, decide_eq_false h2, Bool.false_and, Bool.and_false])
    clear HE h2
    go_wp2_with fail
    go_ret
    exact ⟨ret_bool HF.out.symm, HB.out _⟩
  subst h2
  obtain ⟨nv, hnv⟩ : ∃ n, n = vps.length := ⟨_, rfl⟩
  have HNV := hid hnv
  rw [← hnv] at HVP HE hvl ⊢
  have v2' : ∀ x : Ext W2, x.1.cell? ⟨w.heap.size + 1, 2, none⟩ = some (.slice bp nv bcp) := fun x => by rw [HNV.out]; exact v2 x
  clear v2 hnv
  by_cases h3 : a = nv
  case neg =>
    have e1 : ((a : Int) != (nv : Int)) = true := by rw [bne_iff_ne]; omega
    have HF : Hid (R = false) := hid (by rw [HE.out, decide_eq_false h3, Bool.false_and, Bool.and_false, Bool.and_false])
    clear HE h3
    go_wp2_with fail
    go_ret
    exact ⟨ret_bool HF.out.symm, HB.out _⟩
  subst h3
  replace HM := hid (ext_of HB.out HM.out)
  cases M
  case false =>
    have HF : Hid (R = false) := hid (by rw [HE.out, Bool.false_and, Bool.and_false, Bool.and_false, Bool.and_false])
    clear HE 
    go_wp2_with (first | (go_at_call 68; refine (HM.out _).mono ?_; rintro e _ ⟨rfl, y, rfl⟩))
    go_ret
    exact ⟨ret_bool HF.out.symm, HB.out _⟩
  have HD : Hid (R = (vps.drop 0).all fun v => elemB p v && decide (valC v (botV p) ≠ 0)) := hid (by rw [HE.out]; simp)
  clear HE
  go_wp2_with (first | (go_at_call 68; refine (HM.out _).mono ?_; rintro e _ ⟨rfl, y, rfl⟩))
  go_loopw [6] (fun i wr => ∃ (j : Nat) (x : Ext W2), j ≤ a ∧ i = .int .i64 j ∧ wr = x.1 ∧ Hid (R = (vps.drop j).all fun v => elemB p v && decide (valC v (botV p) ≠ 0))) (fun i _ => a - (intOf i).toNat)
  case atStart => exact ⟨0, _, Nat.zero_le _, rfl, rfl, HD⟩
  case round =>
    obtain ⟨j, x, hj, rfl, rfl, He⟩ := hrel
    by_cases hlt : j < a
    · obtain ⟨q, qb, qo, qn, qdn, qp, qdp, qe, qde, _, _, hqd, _, rfl, hqr, hqc⟩ := valEl HVP.out j (by rw [← HNV.out]; exact hlt)
      have HQR := hid hqr
      have HQC := hid hqc
      have q0 : ∀ x : Ext W2, x.1.cell? ⟨qb, qo + j * 4, none⟩ = some (.int .i64 q.n) := fun x => (HQC.out.below (HB.out x)) 0 (by simp)
      have q1 : ∀ x : Ext W2, x.1.cell? ⟨qb, qo + j * 4 + 1, none⟩ = some (.slice qn q.names.length qdn) := fun x => (HQC.out.below (HB.out x)) 1 (by simp)
      have q2 : ∀ x : Ext W2, x.1.cell? ⟨qb, qo + j * 4 + 2, none⟩ = some (.slice qp q.parts.length qdp) := fun x => (HQC.out.below (HB.out x)) 2 (by simp)
      have q3 : ∀ x : Ext W2, x.1.cell? ⟨qb, qo + j * 4 + 3, none⟩ = some (.slice qe q.entries.length qde) := fun x => (HQC.out.below (HB.out x)) 3 (by simp)
      obtain ⟨p', pb, po, pan, pcn, pap, pcp, par, pcr, hp0, _, _, _, rfl, hpr, hpc⟩ := latEl HPS.out 0 (by rw [HPSE.out]; exact Nat.one_pos)
      obtain rfl : p = p' := by rw [HPSE.out] at hp0; exact Option.some.inj hp0
      have HPR := hid hpr
      have hpc' : CellsAt w pb po [.int .i64 p.kind, .int .i64 p.lo, .int .i64 p.hi, .slice pan p.names.length pcn, .slice pap p.parts.length pcp, .slice par p.rules.length pcr] := by rw [Nat.zero_mul, Nat.add_zero] at hpc; exact hpc
      have HPC := hid hpc'
      have hpl1 : (0 : Int) < (ps.length : Int) := by rw [HPSE.out]; show (0 : Int) < ((1 : Nat) : Int); omega
      have hpl2 : 0 < ps.length := by rw [HPSE.out]; exact Nat.one_pos
      have p0 : ∀ x : Ext W2, x.1.cell? ⟨pb, po, none⟩ = some (.int .i64 p.kind) := fun x => (HPC.out.below (HB.out x)) 0 (by simp)
      have p1 : ∀ x : Ext W2, x.1.cell? ⟨pb, po + 1, none⟩ = some (.int .i64 p.lo) := fun x => (HPC.out.below (HB.out x)) 1 (by simp)
      have p2 : ∀ x : Ext W2, x.1.cell? ⟨pb, po + 2, none⟩ = some (.int .i64 p.hi) := fun x => (HPC.out.below (HB.out x)) 2 (by simp)
      have p3 : ∀ x : Ext W2, x.1.cell? ⟨pb, po + 3, none⟩ = some (.slice pan p.names.length pcn) := fun x => (HPC.out.below (HB.out x)) 3 (by simp)
      have p4 : ∀ x : Ext W2, x.1.cell? ⟨pb, po + 4, none⟩ = some (.slice pap p.parts.length pcp) := fun x => (HPC.out.below (HB.out x)) 4 (by simp)
      have p5 : ∀ x : Ext W2, x.1.cell? ⟨pb, po + 5, none⟩ = some (.slice par p.rules.length pcr) := fun x => (HPC.out.below (HB.out x)) 5 (by simp)
      have hi1 : (j : Int) < (a : Int) := by omega
      have HJ : Hid (j + 1 ≤ a) := hid hlt
      have HCE : Hid (∀ y : Ext W2, Calls Tryz.prog 38 #[.agg #[.int .i64 p.kind, .int .i64 p.lo, .int .i64 p.hi, .slice pan p.names.length pcn, .slice pap p.parts.length pcp, .slice par p.rules.length pcr], .agg #[.int .i64 q.n, .slice qn q.names.length qdn, .slice qp q.parts.length qdp, .slice qe q.entries.length qde]] y.1 fun e w' => e = .returned (.bool (elemB p q)) ∧ ∃ z : Ext W2, w' = z.1) := hid fun y => ext_call y (HEL.out q _ _ y.1 (HB.out y) (latRd.below (HB.out y) _ _ HPR.out) (valRd.below (HB.out y) _ _ HQR.out))
      have HS : Hid (R = ((elemB p q && decide (valC q (botV p) ≠ 0)) && (vps.drop (j + 1)).all fun v => elemB p v && decide (valC v (botV p) ≠ 0))) := hid (by rw [He.out, hqd, List.all_cons])
      clear He hqd hpr hqr hpc hqc hlt hj hp0 hpc'
      cases hel : elemB p q
      · have HF : Hid (R = false) := hid (by rw [HS.out, hel]; rfl)
        rw [hel] at HCE
        clear HS hel
        go_wp2_with fail
        refine wp_region_at (by kernel_rfl) (by kernel_rfl) _ ?_
        repeat (go_big_quiet_step (with_reducible exact HCE.out _))
        refine wpQuiet_nil ?_
        rintro _ ⟨z, rfl⟩
        go_wp2_with fail
        go_ret
        exact ⟨ret_bool HF.out.symm, HB.out _⟩
      · have HEL3 : Hid (∀ W, Below w.heap.size w W → Calls Tryz.prog 38 #[.agg #[.int .i64 p.kind, .int .i64 p.lo, .int .i64 p.hi, .slice pan p.names.length pcn, .slice pap p.parts.length pcp, .slice par p.rules.length pcr], .agg #[.int .i64 q.n, .slice qn q.names.length qdn, .slice qp q.parts.length qdp, .slice qe q.entries.length qde]] W fun e w' => e = .returned (.bool true) ∧ Below W.heap.size W w') := hid fun W h => by
          have := HEL.out q _ _ W h (latRd.below h _ _ HPR.out) (valRd.below h _ _ HQR.out)
          rw [hel] at this; exact this
        have HBOT : Hid (∀ W, Below w.heap.size w W → Calls Tryz.prog 62 #[.agg #[.int .i64 p.kind, .int .i64 p.lo, .int .i64 p.hi, .slice pan p.names.length pcn, .slice pap p.parts.length pcp, .slice par p.rules.length pcr]] W (ValPost W (botV p))) := hid fun W h => HLE.out _ W h (latRd.below h _ _ HPR.out)
        have HS0 : Hid (∀ y : Ext W2, y.1.cell? ⟨w.heap.size, 4, none⟩ = some (.slice (some ⟨pb, po, none⟩) ps.length cp) ∧ y.1.cell? ⟨w.heap.size + 1, 2, none⟩ = some (.slice (some ⟨qb, qo, none⟩) a bcp) ∧ y.1.cell? ⟨pb, po, none⟩ = some (.int .i64 p.kind) ∧ y.1.cell? ⟨pb, po + 1, none⟩ = some (.int .i64 p.lo) ∧ y.1.cell? ⟨pb, po + 2, none⟩ = some (.int .i64 p.hi) ∧ y.1.cell? ⟨pb, po + 3, none⟩ = some (.slice pan p.names.length pcn) ∧ y.1.cell? ⟨pb, po + 4, none⟩ = some (.slice pap p.parts.length pcp) ∧ y.1.cell? ⟨pb, po + 5, none⟩ = some (.slice par p.rules.length pcr) ∧ y.1.cell? ⟨qb, qo + j * 4, none⟩ = some (.int .i64 q.n) ∧ y.1.cell? ⟨qb, qo + j * 4 + 1, none⟩ = some (.slice qn q.names.length qdn) ∧ y.1.cell? ⟨qb, qo + j * 4 + 2, none⟩ = some (.slice qp q.parts.length qdp) ∧ y.1.cell? ⟨qb, qo + j * 4 + 3, none⟩ = some (.slice qe q.entries.length qde)) := hid fun y => ⟨l4 y, v2' y, p0 y, p1 y, p2 y, p3 y, p4 y, p5 y, q0 y, q1 y, q2 y, q3 y⟩
        have HXB : Hid (∀ W, Below x.1.heap.size x.1 W → Below w.heap.size w W ∧ ∃ y : Ext W2, W = y.1) := hid fun W h => ⟨(HB.out x).trans (h.mono (HB.out x).size), ⟨W, x.2.trans (h.mono x.2.size)⟩, rfl⟩
        have HSX : Hid (∀ w', Below x.1.heap.size x.1 w' → w'.cell? ⟨w.heap.size, 4, none⟩ = some (.slice (some ⟨pb, po, none⟩) ps.length cp) ∧ w'.cell? ⟨w.heap.size + 1, 2, none⟩ = some (.slice (some ⟨qb, qo, none⟩) a bcp) ∧ w'.cell? ⟨pb, po, none⟩ = some (.int .i64 p.kind) ∧ w'.cell? ⟨pb, po + 1, none⟩ = some (.int .i64 p.lo) ∧ w'.cell? ⟨pb, po + 2, none⟩ = some (.int .i64 p.hi) ∧ w'.cell? ⟨pb, po + 3, none⟩ = some (.slice pan p.names.length pcn) ∧ w'.cell? ⟨pb, po + 4, none⟩ = some (.slice pap p.parts.length pcp) ∧ w'.cell? ⟨pb, po + 5, none⟩ = some (.slice par p.rules.length pcr) ∧ w'.cell? ⟨qb, qo + j * 4, none⟩ = some (.int .i64 q.n) ∧ w'.cell? ⟨qb, qo + j * 4 + 1, none⟩ = some (.slice qn q.names.length qdn) ∧ w'.cell? ⟨qb, qo + j * 4 + 2, none⟩ = some (.slice qp q.parts.length qdp) ∧ w'.cell? ⟨qb, qo + j * 4 + 3, none⟩ = some (.slice qe q.entries.length qde)) := hid fun w' h => by obtain ⟨y, rfl⟩ := (HXB.out w' h).2; exact HS0.out y
        by_cases hq : valC q (botV p) = 0
        · have HF : Hid (R = false) := hid (by rw [HS.out, hel, decide_eq_false (show ¬ (valC q (botV p) ≠ 0) from fun h => h hq)]; rfl)
          have HEQ : Hid (∀ (W : World) (cs : List Value), Below w.heap.size w W → valRd W (botV p) cs → Calls Tryz.prog 19 #[.agg #[.int .i64 q.n, .slice qn q.names.length qdn, .slice qp q.parts.length qdp, .slice qe q.entries.length qde], .agg cs.toArray] W fun e w' => e = .returned (.bool true) ∧ Below W.heap.size W w') := hid fun W cs h hc => by
            have := rEqual_any q (botV p) _ cs W (valRd.below h _ _ HQR.out) hc
            rw [decide_eq_true hq] at this; exact this
          clear HS hel hq HCE
          go_wp2_with fail
          clear l4 v2' p0 p1 p2 p3 p4 p5 q0 q1 q2 q3 l0 l1 l2 l3 l5 v0 v1 v3 HS0
          go_region_held3 (fun w' => w'.cell? ⟨w.heap.size, 4, none⟩ = some (.slice (some ⟨pb, po, none⟩) ps.length cp) ∧ w'.cell? ⟨w.heap.size + 1, 2, none⟩ = some (.slice (some ⟨qb, qo, none⟩) a bcp) ∧ w'.cell? ⟨pb, po, none⟩ = some (.int .i64 p.kind) ∧ w'.cell? ⟨pb, po + 1, none⟩ = some (.int .i64 p.lo) ∧ w'.cell? ⟨pb, po + 2, none⟩ = some (.int .i64 p.hi) ∧ w'.cell? ⟨pb, po + 3, none⟩ = some (.slice pan p.names.length pcn) ∧ w'.cell? ⟨pb, po + 4, none⟩ = some (.slice pap p.parts.length pcp) ∧ w'.cell? ⟨pb, po + 5, none⟩ = some (.slice par p.rules.length pcr) ∧ w'.cell? ⟨qb, qo + j * 4, none⟩ = some (.int .i64 q.n) ∧ w'.cell? ⟨qb, qo + j * 4 + 1, none⟩ = some (.slice qn q.names.length qdn) ∧ w'.cell? ⟨qb, qo + j * 4 + 2, none⟩ = some (.slice qp q.parts.length qdp) ∧ w'.cell? ⟨qb, qo + j * 4 + 3, none⟩ = some (.slice qe q.entries.length qde))
            (first
              | exact HSX.out _ (Below.refl _ _)
              | exact HSX.out _ (Below.refl _ _).drew
              | exact HSX.out _ HB7.out
              | exact HSX.out _ HB6.out
              | exact HSX.out _ HB5.out
              | skip)
            (first
              | (go_at_call 38
                 refine (HEL3.out _ (HXB.out _ (Below.refl _ _).drew).1).mono ?_
                 rintro e w5 ⟨rfl, hb5⟩
                 have HB5 : Hid (Below x.1.heap.size x.1 w5) := hid ((Below.refl _ _).drew.trans hb5)
                 clear hb5)
              | (go_at_call 62
                 refine (HBOT.out _ (HXB.out _ HB5.out).1).mono ?_
                 rintro e w6 ⟨cs6, rfl, hv6, hb6⟩
                 have HV6 := hid (valRd_mono' (only_sub _ _) hv6)
                 have HB6 : Hid (Below x.1.heap.size x.1 w6) := hid (HB5.out.trans (hb6.mono HB5.out.size))
                 clear hb6 hv6)
              | (go_at_call 19
                 refine (HEQ.out _ _ (HXB.out _ HB6.out).1 HV6.out).mono ?_
                 rintro e w7 ⟨rfl, hb7⟩
                 have HB7 : Hid (Below x.1.heap.size x.1 w7) := hid (HB6.out.trans (hb7.mono HB6.out.size))
                 clear hb7))
          all_goals
            obtain ⟨z, hz⟩ := (HXB.out _ HB7.out).2
            rw [hz]
            go_wp2_with fail
            go_ret
            exact ⟨ret_bool HF.out.symm, HB.out _⟩
        · have HF : Hid (R = (vps.drop (j + 1)).all fun v => elemB p v && decide (valC v (botV p) ≠ 0)) := hid (by rw [HS.out, hel, decide_eq_true (show valC q (botV p) ≠ 0 from hq)]; rfl)
          have HEQ : Hid (∀ (W : World) (cs : List Value), Below w.heap.size w W → valRd W (botV p) cs → Calls Tryz.prog 19 #[.agg #[.int .i64 q.n, .slice qn q.names.length qdn, .slice qp q.parts.length qdp, .slice qe q.entries.length qde], .agg cs.toArray] W fun e w' => e = .returned (.bool false) ∧ Below W.heap.size W w') := hid fun W cs h hc => by
            have := rEqual_any q (botV p) _ cs W (valRd.below h _ _ HQR.out) hc
            rw [decide_eq_false hq] at this; exact this
          clear HS hel hq HCE
          go_wp2_with fail
          clear l4 v2' p0 p1 p2 p3 p4 p5 q0 q1 q2 q3 l0 l1 l2 l3 l5 v0 v1 v3 HS0
          go_region_held3 (fun w' => w'.cell? ⟨w.heap.size, 4, none⟩ = some (.slice (some ⟨pb, po, none⟩) ps.length cp) ∧ w'.cell? ⟨w.heap.size + 1, 2, none⟩ = some (.slice (some ⟨qb, qo, none⟩) a bcp) ∧ w'.cell? ⟨pb, po, none⟩ = some (.int .i64 p.kind) ∧ w'.cell? ⟨pb, po + 1, none⟩ = some (.int .i64 p.lo) ∧ w'.cell? ⟨pb, po + 2, none⟩ = some (.int .i64 p.hi) ∧ w'.cell? ⟨pb, po + 3, none⟩ = some (.slice pan p.names.length pcn) ∧ w'.cell? ⟨pb, po + 4, none⟩ = some (.slice pap p.parts.length pcp) ∧ w'.cell? ⟨pb, po + 5, none⟩ = some (.slice par p.rules.length pcr) ∧ w'.cell? ⟨qb, qo + j * 4, none⟩ = some (.int .i64 q.n) ∧ w'.cell? ⟨qb, qo + j * 4 + 1, none⟩ = some (.slice qn q.names.length qdn) ∧ w'.cell? ⟨qb, qo + j * 4 + 2, none⟩ = some (.slice qp q.parts.length qdp) ∧ w'.cell? ⟨qb, qo + j * 4 + 3, none⟩ = some (.slice qe q.entries.length qde))
            (first
              | exact HSX.out _ (Below.refl _ _)
              | exact HSX.out _ (Below.refl _ _).drew
              | exact HSX.out _ HB7.out
              | exact HSX.out _ HB6.out
              | exact HSX.out _ HB5.out
              | skip)
            (first
              | (go_at_call 38
                 refine (HEL3.out _ (HXB.out _ (Below.refl _ _).drew).1).mono ?_
                 rintro e w5 ⟨rfl, hb5⟩
                 have HB5 : Hid (Below x.1.heap.size x.1 w5) := hid ((Below.refl _ _).drew.trans hb5)
                 clear hb5)
              | (go_at_call 62
                 refine (HBOT.out _ (HXB.out _ HB5.out).1).mono ?_
                 rintro e w6 ⟨cs6, rfl, hv6, hb6⟩
                 have HV6 := hid (valRd_mono' (only_sub _ _) hv6)
                 have HB6 : Hid (Below x.1.heap.size x.1 w6) := hid (HB5.out.trans (hb6.mono HB5.out.size))
                 clear hb6 hv6)
              | (go_at_call 19
                 refine (HEQ.out _ _ (HXB.out _ HB6.out).1 HV6.out).mono ?_
                 rintro e w7 ⟨rfl, hb7⟩
                 have HB7 : Hid (Below x.1.heap.size x.1 w7) := hid (HB6.out.trans (hb7.mono HB6.out.size))
                 clear hb7))
          all_goals
            obtain ⟨z, hz⟩ := (HXB.out _ HB7.out).2
            rw [hz]
            go_wp2_with fail
            go_roundw
            case rel => exact ⟨j + 1, z, HJ.out, by go_num, rfl, HF⟩
            case measure => have := HJ.out; simp [intOf]; omega
    · have hjj : j = a := by omega
      subst hjj
      have HF : Hid (R = true) := hid (by rw [He.out, List.drop_eq_nil_of_le (Nat.le_of_eq HNV.out.symm)]; rfl)
      clear hlt hj
      go_wp2_with fail
      go_ret
      exact ⟨ret_bool HF.out.symm, HB.out _⟩
theorem drew_below {B : Nat} {w w' : World} (h : ∃ n, w' = w.drewN n) (hb : B ≤ w.heap.size) : Below B w w' := by
  obtain ⟨n, rfl⟩ := h
  exact below_drewN' (Below.refl _ _) n
theorem rNode_any (l : Lat) (cs : List Value) (d : Int) (n : Nat) (w : World) (hl : latRd w l cs) (hd : 0 ≤ d ∧ d ≤ 7) (hn : n ≤ 64) :
    Calls Tryz.prog 106 #[.agg cs.toArray, .int .i64 d, .int .i64 n] w fun e w' => e = .returned (.int .i64 (nodeR l d n)) ∧ Below w.heap.size w w' := by
  obtain ⟨vn, vp, vr, rfl, hi, hns, hps, hrs⟩ := (latRd_iff _ _ _).1 hl
  have HL := hid hl
  obtain ⟨an, cn, rfl, hln, hmn⟩ := hns.shape
  obtain ⟨ap, cp, rfl, hlp, hmp⟩ := hps.shape
  obtain ⟨ar, cr, rfl, hlr, hmr⟩ := hrs.shape
  have HSH : Hid (∀ W, Below w.heap.size w W → Calls Tryz.prog 146 #[.agg #[.int .i64 l.kind, .int .i64 l.lo, .int .i64 l.hi, .slice an l.names.length cn, .slice ap l.parts.length cp, .slice ar l.rules.length cr]] W fun e w' => e = .returned (.bool (!shapeB l)) ∧ Below W.heap.size W w') := hid fun W h => rShape_any l _ W (latRd.below h _ _ HL.out)
  have HNA : Hid (∀ W, Below w.heap.size w W → Calls Tryz.prog 147 #[.agg #[.int .i64 l.kind, .int .i64 l.lo, .int .i64 l.hi, .slice an l.names.length cn, .slice ap l.parts.length cp, .slice ar l.rules.length cr]] W fun e w' => e = .returned (.bool (namedR l.kind l.names l.rules)) ∧ Below W.heap.size W w') := hid fun W h => rNamed_any l _ W (latRd.below h _ _ HL.out)
  have HR : Hid (nodeR l d n = if 6 < d ∨ 64 ≤ n then 6 else if shapeB l then 1 else if limitsB l then 6 else if namedR l.kind l.names l.rules = false then 3 else if l.hi < l.lo ∨ l.lo < -1000000000 ∨ 1000000000 < l.hi then 5 else if chainsB l then 4 else 0) := hid rfl
  have HP : Hid (shapeB l = false → l.kind = 7 → ∃ b o p q n0 p0 r0, ap = some ⟨b, o, none⟩ ∧ l.parts.length = 2 ∧ chainsB l = !(chainB p) ∧ latRd w p [.int .i64 p.kind, .int .i64 p.lo, .int .i64 p.hi, n0, p0, r0] ∧ CellsAt w b o [.int .i64 p.kind, .int .i64 p.lo, .int .i64 p.hi, n0, p0, r0]) := hid fun hs h7 => by
    have h2 := shapeB_lex l hs h7
    obtain ⟨p, q, hpq⟩ : ∃ p q, l.parts = [p, q] := by
      match l.parts, h2 with
      | [p, q], _ => exact ⟨p, q, rfl⟩
    obtain ⟨a', cp', heq, _, _, hcell⟩ := hps
    cases heq
    obtain ⟨b, o, cs0, hab, hl0, hc0, hr0⟩ := hcell 0 (by omega)
    have hp0 : l.parts[0]'(by omega) = p := by simp [hpq]
    rw [hp0] at hr0
    obtain ⟨n0, p0, r0, rfl, _⟩ := (latRd_iff _ _ _).1 hr0
    refine ⟨b, o, p, q, n0, p0, r0, hab, h2, ?_, hr0, by simpa using hc0⟩
    unfold chainsB
    rw [hpq, decide_eq_true h7]; rfl
  have H7 : Hid (l.kind ≠ 7 → chainsB l = false) := hid fun h => by unfold chainsB; rw [decide_eq_false h]; rfl
  have HLM : Hid (limitsB l = true ↔ mostN l.kind < l.names.length ∨ 32 < l.rules.length) := hid (by unfold limitsB; exact decide_eq_true_iff)
  generalize nodeR l d n = R at HR ⊢
  generalize shapeB l = S at HSH HR HP
  generalize limitsB l = LM at HR HLM
  generalize namedR l.kind l.names l.rules = NM at HNA HR
  generalize hch : chainsB l = CH at HR HP H7
  clear hch
  have hnn : l.names.length ≤ 9223372036854775807 := by omega
  have hnr : l.rules.length ≤ 9223372036854775807 := by omega
  have hnp : l.parts.length ≤ 9223372036854775807 := by omega
  clear hi hns hps hrs hl hln hlr hlp hmn hmr hmp HL
  generalize l.kind = k at HSH HNA HR HP H7 HLM ⊢
  generalize l.lo = lo at HSH HNA HR ⊢
  generalize l.hi = hi' at HSH HNA HR ⊢
  generalize l.names.length = nn at HSH HNA HLM hnn ⊢
  generalize l.rules.length = nr at HSH HNA HLM hnr ⊢
  generalize l.parts.length = np at HSH HNA HP hnp ⊢
  obtain ⟨hd0, hd7⟩ := hd
  have HB : Hid (∀ x : Ext (w.alloc (.cells #[.int .i64 k, .int .i64 lo, .int .i64 hi', .slice an nn cn, .slice ap np cp, .slice ar nr cr] 26)), Below w.heap.size w x.1) := hid fun x => ((Below.refl _ _).alloc (Nat.le_refl _) _).trans (x.2.mono (by simp))
  have HX : Hid (∀ (x : Ext (w.alloc (.cells #[.int .i64 k, .int .i64 lo, .int .i64 hi', .slice an nn cn, .slice ap np cp, .slice ar nr cr] 26))) (i : Nat) q, #[Value.int .i64 k, .int .i64 lo, .int .i64 hi', .slice an nn cn, .slice ap np cp, .slice ar nr cr][i]? = some q → x.1.cell? ⟨w.heap.size, i, none⟩ = some q) := hid fun x i q hq => x.cell (by rw [World.cell?_alloc_at _ _ _ _ rfl]; exact hq)
  have HBA : Hid (∀ O, Below w.heap.size w (w.alloc O)) := hid fun O => (Below.refl _ _).alloc (Nat.le_refl _) O
  by_cases k6 : k = 6
  · subst k6
    by_cases h6 : 6 < d
    · have HF : Hid (R = 6) := hid (by rw [HR.out, if_pos (.inl h6)])
      clear HX HB
      go_enter Tryz.func106, Tryz.ntmps106
      go_wp2_with fail
      go_ret
      exact ⟨ret_int HF.out.symm, HBA.out _⟩
    have h6' : d ≤ 6 := by omega
    by_cases h64 : 64 ≤ n
    · have HF : Hid (R = 6) := hid (by rw [HR.out, if_pos (.inr h64)])
      have h64' : (64 : Int) ≤ (n : Int) := by omega
      clear HX HB h6
      go_enter Tryz.func106, Tryz.ntmps106
      go_wp2_with fail
      go_ret
      exact ⟨ret_int HF.out.symm, HBA.out _⟩
    have h64' : (n : Int) < 64 := by omega
    replace HR : Hid (R = if S then 1 else if LM then 6 else if NM = false then 3 else if hi' < lo ∨ lo < -1000000000 ∨ 1000000000 < hi' then 5 else if CH then 4 else 0) := hid (by rw [HR.out, if_neg (by omega)])
    have g1 : decide (6 < d) = false := decide_eq_false h6
    have g2 : decide ((64 : Int) ≤ (n : Int)) = false := decide_eq_false (by omega)
    clear h6 h64
    go_enter Tryz.func106, Tryz.ntmps106
    go_wp2_with fail
    generalize w.alloc (.cells #[.int .i64 6, .int .i64 lo, .int .i64 hi', .slice an nn cn, .slice ap np cp, .slice ar nr cr] 26) = W1 at HB HX ⊢
    obtain ⟨x0, hx⟩ := ext_self W1
    rw [hx]
    clear hx
    have l0 : ∀ x : Ext W1, x.1.cell? ⟨w.heap.size, 0, none⟩ = some (.int .i64 6) := fun x => HX.out x 0 _ rfl
    have l1 : ∀ x : Ext W1, x.1.cell? ⟨w.heap.size, 1, none⟩ = some (.int .i64 lo) := fun x => HX.out x 1 _ rfl
    have l2 : ∀ x : Ext W1, x.1.cell? ⟨w.heap.size, 2, none⟩ = some (.int .i64 hi') := fun x => HX.out x 2 _ rfl
    have l3 : ∀ x : Ext W1, x.1.cell? ⟨w.heap.size, 3, none⟩ = some (.slice an nn cn) := fun x => HX.out x 3 _ rfl
    have l4 : ∀ x : Ext W1, x.1.cell? ⟨w.heap.size, 4, none⟩ = some (.slice ap np cp) := fun x => HX.out x 4 _ rfl
    have l5 : ∀ x : Ext W1, x.1.cell? ⟨w.heap.size, 5, none⟩ = some (.slice ar nr cr) := fun x => HX.out x 5 _ rfl
    replace HSH := hid (ext_of HB.out HSH.out)
    replace HNA := hid (ext_of HB.out HNA.out)
    go_wp2_with fail
    refine (HSH.out _).mono ?_
    rintro e _ ⟨rfl, x1, rfl⟩
    clear x0
    cases S
    case true =>
      have HF : Hid (R = 1) := hid (by rw [HR.out, if_pos rfl])
      go_wp2_with fail
      go_ret
      exact ⟨ret_int HF.out.symm, HB.out _⟩
    replace HR : Hid (R = if LM then 6 else if NM = false then 3 else if hi' < lo ∨ lo < -1000000000 ∨ 1000000000 < hi' then 5 else if CH then 4 else 0) := hid (by rw [HR.out, if_neg Bool.false_ne_true])
    by_cases hm : 8 < nn
    · have HF : Hid (R = 6) := hid (by rw [HR.out, if_pos (HLM.out.2 (by first | exact .inl hm | (left; unfold mostN; split <;> (try split) <;> omega)))])
      have hm' : decide ((8 : Int) < (nn : Int)) = true := decide_eq_true (by omega)
      go_wp2_with fail
      go_ret
      exact ⟨ret_int HF.out.symm, HB.out _⟩
    have hm' : decide ((8 : Int) < (nn : Int)) = false := decide_eq_false (by omega)
    by_cases hr : 32 < nr
    · have HF : Hid (R = 6) := hid (by rw [HR.out, if_pos (HLM.out.2 (.inr hr))])
      have hr' : decide ((32 : Int) < (nr : Int)) = true := decide_eq_true (by omega)
      go_wp2_with fail
      go_ret
      exact ⟨ret_int HF.out.symm, HB.out _⟩
    have hr' : decide ((32 : Int) < (nr : Int)) = false := decide_eq_false (by omega)
    replace HR : Hid (R = if NM = false then 3 else if hi' < lo ∨ lo < -1000000000 ∨ 1000000000 < hi' then 5 else if CH then 4 else 0) := hid (by rw [HR.out, if_neg (fun h => by have := HLM.out.1 h; unfold mostN at this; revert this; first | omega | (split <;> (try split) <;> omega))])
    clear HLM hm hr
    go_wp2_with fail
    refine (HNA.out _).mono ?_
    rintro e _ ⟨rfl, x2, rfl⟩
    clear x1
    cases NM
    case false =>
      have HF : Hid (R = 3) := hid (by rw [HR.out, if_pos rfl])
      go_wp2_with fail
      go_ret
      exact ⟨ret_int HF.out.symm, HB.out _⟩
    replace HR : Hid (R = if hi' < lo ∨ lo < -1000000000 ∨ 1000000000 < hi' then 5 else if CH then 4 else 0) := hid (by rw [HR.out, if_neg (fun h => Bool.noConfusion h)])
    by_cases p1 : hi' < lo
    · have HF : Hid (R = 5) := hid (by rw [HR.out, if_pos (by omega)])
      have dp1 : decide (hi' < lo) = true := decide_eq_true p1
      clear p1
      go_wp2_with fail
      go_ret
      exact ⟨ret_int HF.out.symm, HB.out _⟩
    have dp1 : decide (hi' < lo) = false := decide_eq_false p1
    by_cases p2 : lo < -1000000000
    · have HF : Hid (R = 5) := hid (by rw [HR.out, if_pos (by omega)])
      have dp2 : decide (lo < -1000000000) = true := decide_eq_true p2
      clear p2
      go_wp2_with fail
      go_ret
      exact ⟨ret_int HF.out.symm, HB.out _⟩
    have dp2 : decide (lo < -1000000000) = false := decide_eq_false p2
    by_cases p3 : 1000000000 < hi'
    · have HF : Hid (R = 5) := hid (by rw [HR.out, if_pos (by omega)])
      have dp3 : decide (1000000000 < hi') = true := decide_eq_true p3
      clear p3
      go_wp2_with fail
      go_ret
      exact ⟨ret_int HF.out.symm, HB.out _⟩
    have dp3 : decide (1000000000 < hi') = false := decide_eq_false p3
    replace HR : Hid (R = if CH then 4 else 0) := hid (by rw [HR.out, if_neg (by omega)])
    clear p1 p2 p3
    have HF : Hid (R = 0) := hid (by rw [HR.out, H7.out (by decide)]; rfl)
    clear HP
    go_wp2_with fail
    go_ret
    exact ⟨ret_int HF.out.symm, HB.out _⟩
  by_cases k10 : k = 10
  · subst k10
    by_cases h6 : 6 < d
    · have HF : Hid (R = 6) := hid (by rw [HR.out, if_pos (.inl h6)])
      clear HX HB
      go_enter Tryz.func106, Tryz.ntmps106
      go_wp2_with fail
      go_ret
      exact ⟨ret_int HF.out.symm, HBA.out _⟩
    have h6' : d ≤ 6 := by omega
    by_cases h64 : 64 ≤ n
    · have HF : Hid (R = 6) := hid (by rw [HR.out, if_pos (.inr h64)])
      have h64' : (64 : Int) ≤ (n : Int) := by omega
      clear HX HB h6
      go_enter Tryz.func106, Tryz.ntmps106
      go_wp2_with fail
      go_ret
      exact ⟨ret_int HF.out.symm, HBA.out _⟩
    have h64' : (n : Int) < 64 := by omega
    replace HR : Hid (R = if S then 1 else if LM then 6 else if NM = false then 3 else if hi' < lo ∨ lo < -1000000000 ∨ 1000000000 < hi' then 5 else if CH then 4 else 0) := hid (by rw [HR.out, if_neg (by omega)])
    have g1 : decide (6 < d) = false := decide_eq_false h6
    have g2 : decide ((64 : Int) ≤ (n : Int)) = false := decide_eq_false (by omega)
    clear h6 h64
    go_enter Tryz.func106, Tryz.ntmps106
    go_wp2_with fail
    generalize w.alloc (.cells #[.int .i64 10, .int .i64 lo, .int .i64 hi', .slice an nn cn, .slice ap np cp, .slice ar nr cr] 26) = W1 at HB HX ⊢
    obtain ⟨x0, hx⟩ := ext_self W1
    rw [hx]
    clear hx
    have l0 : ∀ x : Ext W1, x.1.cell? ⟨w.heap.size, 0, none⟩ = some (.int .i64 10) := fun x => HX.out x 0 _ rfl
    have l1 : ∀ x : Ext W1, x.1.cell? ⟨w.heap.size, 1, none⟩ = some (.int .i64 lo) := fun x => HX.out x 1 _ rfl
    have l2 : ∀ x : Ext W1, x.1.cell? ⟨w.heap.size, 2, none⟩ = some (.int .i64 hi') := fun x => HX.out x 2 _ rfl
    have l3 : ∀ x : Ext W1, x.1.cell? ⟨w.heap.size, 3, none⟩ = some (.slice an nn cn) := fun x => HX.out x 3 _ rfl
    have l4 : ∀ x : Ext W1, x.1.cell? ⟨w.heap.size, 4, none⟩ = some (.slice ap np cp) := fun x => HX.out x 4 _ rfl
    have l5 : ∀ x : Ext W1, x.1.cell? ⟨w.heap.size, 5, none⟩ = some (.slice ar nr cr) := fun x => HX.out x 5 _ rfl
    replace HSH := hid (ext_of HB.out HSH.out)
    replace HNA := hid (ext_of HB.out HNA.out)
    go_wp2_with fail
    refine (HSH.out _).mono ?_
    rintro e _ ⟨rfl, x1, rfl⟩
    clear x0
    cases S
    case true =>
      have HF : Hid (R = 1) := hid (by rw [HR.out, if_pos rfl])
      go_wp2_with fail
      go_ret
      exact ⟨ret_int HF.out.symm, HB.out _⟩
    replace HR : Hid (R = if LM then 6 else if NM = false then 3 else if hi' < lo ∨ lo < -1000000000 ∨ 1000000000 < hi' then 5 else if CH then 4 else 0) := hid (by rw [HR.out, if_neg Bool.false_ne_true])
    by_cases hm : 12 < nn
    · have HF : Hid (R = 6) := hid (by rw [HR.out, if_pos (HLM.out.2 (by first | exact .inl hm | (left; unfold mostN; split <;> (try split) <;> omega)))])
      have hm' : decide ((12 : Int) < (nn : Int)) = true := decide_eq_true (by omega)
      go_wp2_with fail
      go_ret
      exact ⟨ret_int HF.out.symm, HB.out _⟩
    have hm' : decide ((12 : Int) < (nn : Int)) = false := decide_eq_false (by omega)
    by_cases hr : 32 < nr
    · have HF : Hid (R = 6) := hid (by rw [HR.out, if_pos (HLM.out.2 (.inr hr))])
      have hr' : decide ((32 : Int) < (nr : Int)) = true := decide_eq_true (by omega)
      go_wp2_with fail
      go_ret
      exact ⟨ret_int HF.out.symm, HB.out _⟩
    have hr' : decide ((32 : Int) < (nr : Int)) = false := decide_eq_false (by omega)
    replace HR : Hid (R = if NM = false then 3 else if hi' < lo ∨ lo < -1000000000 ∨ 1000000000 < hi' then 5 else if CH then 4 else 0) := hid (by rw [HR.out, if_neg (fun h => by have := HLM.out.1 h; unfold mostN at this; revert this; first | omega | (split <;> (try split) <;> omega))])
    clear HLM hm hr
    go_wp2_with fail
    refine (HNA.out _).mono ?_
    rintro e _ ⟨rfl, x2, rfl⟩
    clear x1
    cases NM
    case false =>
      have HF : Hid (R = 3) := hid (by rw [HR.out, if_pos rfl])
      go_wp2_with fail
      go_ret
      exact ⟨ret_int HF.out.symm, HB.out _⟩
    replace HR : Hid (R = if hi' < lo ∨ lo < -1000000000 ∨ 1000000000 < hi' then 5 else if CH then 4 else 0) := hid (by rw [HR.out, if_neg (fun h => Bool.noConfusion h)])
    by_cases p1 : hi' < lo
    · have HF : Hid (R = 5) := hid (by rw [HR.out, if_pos (by omega)])
      have dp1 : decide (hi' < lo) = true := decide_eq_true p1
      clear p1
      go_wp2_with fail
      go_ret
      exact ⟨ret_int HF.out.symm, HB.out _⟩
    have dp1 : decide (hi' < lo) = false := decide_eq_false p1
    by_cases p2 : lo < -1000000000
    · have HF : Hid (R = 5) := hid (by rw [HR.out, if_pos (by omega)])
      have dp2 : decide (lo < -1000000000) = true := decide_eq_true p2
      clear p2
      go_wp2_with fail
      go_ret
      exact ⟨ret_int HF.out.symm, HB.out _⟩
    have dp2 : decide (lo < -1000000000) = false := decide_eq_false p2
    by_cases p3 : 1000000000 < hi'
    · have HF : Hid (R = 5) := hid (by rw [HR.out, if_pos (by omega)])
      have dp3 : decide (1000000000 < hi') = true := decide_eq_true p3
      clear p3
      go_wp2_with fail
      go_ret
      exact ⟨ret_int HF.out.symm, HB.out _⟩
    have dp3 : decide (1000000000 < hi') = false := decide_eq_false p3
    replace HR : Hid (R = if CH then 4 else 0) := hid (by rw [HR.out, if_neg (by omega)])
    clear p1 p2 p3
    have HF : Hid (R = 0) := hid (by rw [HR.out, H7.out (by decide)]; rfl)
    clear HP
    go_wp2_with fail
    go_ret
    exact ⟨ret_int HF.out.symm, HB.out _⟩
  have e6 : (k == 6) = false := by rw [beq_eq_false_iff_ne]; exact k6
  have e10 : (k == 10) = false := by rw [beq_eq_false_iff_ne]; exact k10
  by_cases h6 : 6 < d
  · have HF : Hid (R = 6) := hid (by rw [HR.out, if_pos (.inl h6)])
    clear HX HB
    go_enter Tryz.func106, Tryz.ntmps106
    go_wp2_with fail
    go_ret
    exact ⟨ret_int HF.out.symm, HBA.out _⟩
  have h6' : d ≤ 6 := by omega
  by_cases h64 : 64 ≤ n
  · have HF : Hid (R = 6) := hid (by rw [HR.out, if_pos (.inr h64)])
    have h64' : (64 : Int) ≤ (n : Int) := by omega
    clear HX HB h6
    go_enter Tryz.func106, Tryz.ntmps106
    go_wp2_with fail
    go_ret
    exact ⟨ret_int HF.out.symm, HBA.out _⟩
  have h64' : (n : Int) < 64 := by omega
  replace HR : Hid (R = if S then 1 else if LM then 6 else if NM = false then 3 else if hi' < lo ∨ lo < -1000000000 ∨ 1000000000 < hi' then 5 else if CH then 4 else 0) := hid (by rw [HR.out, if_neg (by omega)])
  have g1 : decide (6 < d) = false := decide_eq_false h6
  have g2 : decide ((64 : Int) ≤ (n : Int)) = false := decide_eq_false (by omega)
  clear h6 h64
  go_enter Tryz.func106, Tryz.ntmps106
  go_wp2_with fail
  generalize w.alloc (.cells #[.int .i64 k, .int .i64 lo, .int .i64 hi', .slice an nn cn, .slice ap np cp, .slice ar nr cr] 26) = W1 at HB HX ⊢
  obtain ⟨x0, hx⟩ := ext_self W1
  rw [hx]
  clear hx
  have l0 : ∀ x : Ext W1, x.1.cell? ⟨w.heap.size, 0, none⟩ = some (.int .i64 k) := fun x => HX.out x 0 _ rfl
  have l1 : ∀ x : Ext W1, x.1.cell? ⟨w.heap.size, 1, none⟩ = some (.int .i64 lo) := fun x => HX.out x 1 _ rfl
  have l2 : ∀ x : Ext W1, x.1.cell? ⟨w.heap.size, 2, none⟩ = some (.int .i64 hi') := fun x => HX.out x 2 _ rfl
  have l3 : ∀ x : Ext W1, x.1.cell? ⟨w.heap.size, 3, none⟩ = some (.slice an nn cn) := fun x => HX.out x 3 _ rfl
  have l4 : ∀ x : Ext W1, x.1.cell? ⟨w.heap.size, 4, none⟩ = some (.slice ap np cp) := fun x => HX.out x 4 _ rfl
  have l5 : ∀ x : Ext W1, x.1.cell? ⟨w.heap.size, 5, none⟩ = some (.slice ar nr cr) := fun x => HX.out x 5 _ rfl
  replace HSH := hid (ext_of HB.out HSH.out)
  replace HNA := hid (ext_of HB.out HNA.out)
  go_wp2_with fail
  refine (HSH.out _).mono ?_
  rintro e _ ⟨rfl, x1, rfl⟩
  clear x0
  cases S
  case true =>
    have HF : Hid (R = 1) := hid (by rw [HR.out, if_pos rfl])
    go_wp2_with fail
    go_ret
    exact ⟨ret_int HF.out.symm, HB.out _⟩
  replace HR : Hid (R = if LM then 6 else if NM = false then 3 else if hi' < lo ∨ lo < -1000000000 ∨ 1000000000 < hi' then 5 else if CH then 4 else 0) := hid (by rw [HR.out, if_neg Bool.false_ne_true])
  by_cases hm : 32 < nn
  · have HF : Hid (R = 6) := hid (by rw [HR.out, if_pos (HLM.out.2 (by first | exact .inl hm | (left; unfold mostN; split <;> (try split) <;> omega)))])
    have hm' : decide ((32 : Int) < (nn : Int)) = true := decide_eq_true (by omega)
    go_wp2_with fail
    go_ret
    exact ⟨ret_int HF.out.symm, HB.out _⟩
  have hm' : decide ((32 : Int) < (nn : Int)) = false := decide_eq_false (by omega)
  by_cases hr : 32 < nr
  · have HF : Hid (R = 6) := hid (by rw [HR.out, if_pos (HLM.out.2 (.inr hr))])
    have hr' : decide ((32 : Int) < (nr : Int)) = true := decide_eq_true (by omega)
    go_wp2_with fail
    go_ret
    exact ⟨ret_int HF.out.symm, HB.out _⟩
  have hr' : decide ((32 : Int) < (nr : Int)) = false := decide_eq_false (by omega)
  replace HR : Hid (R = if NM = false then 3 else if hi' < lo ∨ lo < -1000000000 ∨ 1000000000 < hi' then 5 else if CH then 4 else 0) := hid (by rw [HR.out, if_neg (fun h => by have := HLM.out.1 h; unfold mostN at this; revert this; first | omega | (split <;> (try split) <;> omega))])
  clear HLM hm hr
  go_wp2_with fail
  refine (HNA.out _).mono ?_
  rintro e _ ⟨rfl, x2, rfl⟩
  clear x1
  cases NM
  case false =>
    have HF : Hid (R = 3) := hid (by rw [HR.out, if_pos rfl])
    go_wp2_with fail
    go_ret
    exact ⟨ret_int HF.out.symm, HB.out _⟩
  replace HR : Hid (R = if hi' < lo ∨ lo < -1000000000 ∨ 1000000000 < hi' then 5 else if CH then 4 else 0) := hid (by rw [HR.out, if_neg (fun h => Bool.noConfusion h)])
  by_cases p1 : hi' < lo
  · have HF : Hid (R = 5) := hid (by rw [HR.out, if_pos (by omega)])
    have dp1 : decide (hi' < lo) = true := decide_eq_true p1
    clear p1
    go_wp2_with fail
    go_ret
    exact ⟨ret_int HF.out.symm, HB.out _⟩
  have dp1 : decide (hi' < lo) = false := decide_eq_false p1
  by_cases p2 : lo < -1000000000
  · have HF : Hid (R = 5) := hid (by rw [HR.out, if_pos (by omega)])
    have dp2 : decide (lo < -1000000000) = true := decide_eq_true p2
    clear p2
    go_wp2_with fail
    go_ret
    exact ⟨ret_int HF.out.symm, HB.out _⟩
  have dp2 : decide (lo < -1000000000) = false := decide_eq_false p2
  by_cases p3 : 1000000000 < hi'
  · have HF : Hid (R = 5) := hid (by rw [HR.out, if_pos (by omega)])
    have dp3 : decide (1000000000 < hi') = true := decide_eq_true p3
    clear p3
    go_wp2_with fail
    go_ret
    exact ⟨ret_int HF.out.symm, HB.out _⟩
  have dp3 : decide (1000000000 < hi') = false := decide_eq_false p3
  replace HR : Hid (R = if CH then 4 else 0) := hid (by rw [HR.out, if_neg (by omega)])
  clear p1 p2 p3
  by_cases h7 : k = 7
  · obtain ⟨b, oo, p, q, n0, p0, r0, rfl, h2, hch, hpr, hpc⟩ := HP.out (by trivial) h7
    subst h7
    subst h2
    have HC := hid hpc
    have HR2 : Hid (R = if (!chainB p) then 4 else 0) := hid (by rw [HR.out, hch])
    have HCC : Hid (∀ x : Ext W1, Calls Tryz.prog 148 #[.agg #[.int .i64 p.kind, .int .i64 p.lo, .int .i64 p.hi, n0, p0, r0]] x.1 fun e w' => e = .returned (.bool (chainB p)) ∧ ∃ y : Ext W1, w' = y.1) := hid (ext_of HB.out fun W h => rChain_any _ p _ W (Nat.le_refl _) (latRd.below h _ _ hpr))
    have g0 : ∀ x : Ext W1, x.1.cell? ⟨b, oo, none⟩ = some (.int .i64 p.kind) := fun x => ((HC.out.below (HB.out x)) 0 (by simp))
    have g1 : ∀ x : Ext W1, x.1.cell? ⟨b, oo + 1, none⟩ = some (.int .i64 p.lo) := fun x => ((HC.out.below (HB.out x)) 1 (by simp))
    have g2 : ∀ x : Ext W1, x.1.cell? ⟨b, oo + 2, none⟩ = some (.int .i64 p.hi) := fun x => ((HC.out.below (HB.out x)) 2 (by simp))
    have g3 : ∀ x : Ext W1, x.1.cell? ⟨b, oo + 3, none⟩ = some (n0) := fun x => ((HC.out.below (HB.out x)) 3 (by simp))
    have g4 : ∀ x : Ext W1, x.1.cell? ⟨b, oo + 4, none⟩ = some (p0) := fun x => ((HC.out.below (HB.out x)) 4 (by simp))
    have g5 : ∀ x : Ext W1, x.1.cell? ⟨b, oo + 5, none⟩ = some (r0) := fun x => ((HC.out.below (HB.out x)) 5 (by simp))
    clear hpc hpr hch HP H7 HSH HNA e6 e10
    go_wp2_with fail
    refine (HCC.out _).mono ?_
    rintro e _ ⟨rfl, x3, rfl⟩
    cases hc : chainB p
    · have HF : Hid (R = 4) := hid (by rw [HR2.out, hc]; rfl)
      clear hc
      go_wp2_with fail
      go_ret
      exact ⟨ret_int HF.out.symm, HB.out _⟩
    · have HF : Hid (R = 0) := hid (by rw [HR2.out, hc]; rfl)
      clear hc
      go_wp2_with fail
      go_ret
      exact ⟨ret_int HF.out.symm, HB.out _⟩
  · have HF : Hid (R = 0) := hid (by rw [HR.out, H7.out h7]; rfl)
    have e7 : (k == 7) = false := by rw [beq_eq_false_iff_ne]; exact h7
    clear HP H7 h7
    go_wp2_with fail
    go_ret
    exact ⟨ret_int HF.out.symm, HB.out _⟩
end Go.Proofs.YtmdjnaobllajmaaGreatDoor
