/-
  The walk of 'ValueValid'.
-/
import Derived.Test.YtmdjnaobllajmaaGreatDoorN21
import Derived.Test.YtmdjnaobllajmaaGreatDoorN26
set_option linter.unusedVariables false
set_option linter.unusedSimpArgs false
namespace Go.Proofs.YtmdjnaobllajmaaGreatDoor
open Go.RowKit

set_option maxRecDepth 100000 in
set_option maxHeartbeats 4000000 in
theorem valueValid_walk (l : Lat) (v : Val) (cl cv : List Value) (w : World) (hl : latRd w l cl) (hv : valRd w v cv) (ht : Tab w) :
    Calls Tryz.prog 3 #[.agg cl.toArray, .agg cv.toArray] w fun e w' => e = .returned (.bool true) ∧ Below w.heap.size w w' := by
  have HSv : Hid (∀ W, Below w.heap.size w W → Calls Tryz.prog 13 #[.agg cv.toArray, .int .i64 60] W fun e w' => e = .returned (.bool (decide (nodesN v ≤ 60))) ∧ Below W.heap.size W w') := hid fun W h => small_ref v cv 60 W (valRd.below h _ _ hv) (by decide)
  have HV1 : Hid (∀ W, Below w.heap.size w W → Calls Tryz.prog 15 #[.agg cl.toArray, .agg cv.toArray] W fun e w' => e = .returned (.bool (validB l v)) ∧ Below W.heap.size W w') := hid fun W h => valid_any l v cl cv W (latRd.below h _ _ hl) (valRd.below h _ _ hv)
  have HV2 : Hid (∀ W, Below w.heap.size w W → Calls Tryz.prog 16 #[.agg cl.toArray, .agg cv.toArray] W fun e w' => e = .returned (.bool (validB l v)) ∧ Below W.heap.size W w') := hid fun W h => rValid_any l v cl cv W (latRd.below h _ _ hl) (valRd.below h _ _ hv)
  have HAW : Hid (∀ W, Below w.heap.size w W → Calls Tryz.prog 14 #[] W fun e w' => e = .returned (.bool true) ∧ Below W.heap.size W w') := hid fun W h => awake_any W (ht.below h)
  obtain ⟨vn, vp, vr, rfl, _⟩ := (latRd_iff _ _ _).1 hl
  obtain ⟨un, up, ue, rfl, _⟩ := (valRd_iff _ _ _).1 hv
  clear hl hv ht
  generalize decide (nodesN v ≤ 60) = Sv at HSv
  generalize validB l v = B at HV1 HV2
  have HB : Hid (∀ x : Ext ((w.alloc (.cells #[.int .i64 l.kind, .int .i64 l.lo, .int .i64 l.hi, vn, vp, vr] 26)).alloc (.cells #[.int .i64 v.n, un, up, ue] 30)), Below w.heap.size w x.1) := hid fun x => (((Below.refl _ _).alloc (Nat.le_refl _) _).alloc (by simp) _).trans (x.2.mono (by simp; omega))
  have HBl : Hid (Box ((w.alloc (.cells #[.int .i64 l.kind, .int .i64 l.lo, .int .i64 l.hi, vn, vp, vr] 26)).alloc (.cells #[.int .i64 v.n, un, up, ue] 30)) (w.heap.size) #[.int .i64 l.kind, .int .i64 l.lo, .int .i64 l.hi, vn, vp, vr]) := hid ((Box.new _ _ _ _ rfl).alloc _)
  have HBv : Hid (Box ((w.alloc (.cells #[.int .i64 l.kind, .int .i64 l.lo, .int .i64 l.hi, vn, vp, vr] 26)).alloc (.cells #[.int .i64 v.n, un, up, ue] 30)) (w.heap.size + 1) #[.int .i64 v.n, un, up, ue]) := hid (Box.new _ _ _ _ (by simp))
  go_enter Tryz.func3, Tryz.ntmps3
  go_wp2_with fail
  generalize (w.alloc (.cells #[.int .i64 l.kind, .int .i64 l.lo, .int .i64 l.hi, vn, vp, vr] 26)).alloc (.cells #[.int .i64 v.n, un, up, ue] 30) = W2 at HB HBl HBv ⊢
  obtain ⟨x0, hx⟩ := ext_self W2
  rw [hx]
  clear hx
  have l0 : ∀ x : Ext W2, x.1.cell? ⟨w.heap.size, 0, none⟩ = some (.int .i64 l.kind) := fun x => (HBl.out.ext x) 0 _ rfl
  have l1 : ∀ x : Ext W2, x.1.cell? ⟨w.heap.size, 1, none⟩ = some (.int .i64 l.lo) := fun x => (HBl.out.ext x) 1 _ rfl
  have l2 : ∀ x : Ext W2, x.1.cell? ⟨w.heap.size, 2, none⟩ = some (.int .i64 l.hi) := fun x => (HBl.out.ext x) 2 _ rfl
  have l3 : ∀ x : Ext W2, x.1.cell? ⟨w.heap.size, 3, none⟩ = some (vn) := fun x => (HBl.out.ext x) 3 _ rfl
  have l4 : ∀ x : Ext W2, x.1.cell? ⟨w.heap.size, 4, none⟩ = some (vp) := fun x => (HBl.out.ext x) 4 _ rfl
  have l5 : ∀ x : Ext W2, x.1.cell? ⟨w.heap.size, 5, none⟩ = some (vr) := fun x => (HBl.out.ext x) 5 _ rfl
  have v0 : ∀ x : Ext W2, x.1.cell? ⟨w.heap.size + 1, 0, none⟩ = some (.int .i64 v.n) := fun x => (HBv.out.ext x) 0 _ rfl
  have v1 : ∀ x : Ext W2, x.1.cell? ⟨w.heap.size + 1, 1, none⟩ = some (un) := fun x => (HBv.out.ext x) 1 _ rfl
  have v2 : ∀ x : Ext W2, x.1.cell? ⟨w.heap.size + 1, 2, none⟩ = some (up) := fun x => (HBv.out.ext x) 2 _ rfl
  have v3 : ∀ x : Ext W2, x.1.cell? ⟨w.heap.size + 1, 3, none⟩ = some (ue) := fun x => (HBv.out.ext x) 3 _ rfl
  replace HSv := hid (ext_of HB.out HSv.out)
  replace HV1 := hid (ext_of HB.out HV1.out)
  replace HV2 := hid (ext_of HB.out HV2.out)
  replace HAW := hid (ext_of HB.out HAW.out)
  refine (HSv.out _).mono ?_
  rintro e _ ⟨rfl, x1, rfl⟩
  cases Sv
  · go_wp2_with fail
    refine (HAW.out _).mono ?_
    rintro e _ ⟨rfl, x, rfl⟩
    go_wp2_with fail
    go_ret
    exact ⟨rfl, HB.out _⟩
  go_wp2_with fail
  refine wp_region_ext2 _ (by kernel_rfl) (by kernel_rfl) ?_
  repeat (go_big_quiet_step (with_reducible first | exact HAW.out _ | exact HV1.out _ | exact HV2.out _))
  refine wpQuiet_nil ?_
  rintro _ ⟨x5, rfl⟩
  go_wp2_with fail
  go_ret
  exact ⟨rfl, HB.out _⟩
end Go.Proofs.YtmdjnaobllajmaaGreatDoor
