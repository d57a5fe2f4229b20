/-
  What the statements of the chapter share, part 09: VElem, VElem2.
-/
import Derived.Test.YtmdjnaobllajmaaGreatDoorN08
set_option linter.unusedVariables false
set_option linter.unusedSimpArgs false
set_option maxRecDepth 100000
set_option maxHeartbeats 8000000
namespace Go.Proofs.YtmdjnaobllajmaaGreatDoor
open Go.RowKit
theorem Ext.sub {W : World} (x : Ext W) : Sub W x.1 := Sub.of_below x.2
theorem ext_self (W : World) : ∃ x : Ext W, W = x.1 := ⟨⟨W, Below.refl _ _⟩, rfl⟩
theorem ext_alloc {W : World} (x : Ext W) (O : Obj) : ∃ y : Ext W, x.1.alloc O = y.1 := ⟨⟨_, x.2.alloc x.2.size O⟩, rfl⟩
theorem elemB_eq (l : Lat) (v : Val) : elemB l v = (if l.kind = 1 then usedB v true false false false && decide (v.n = 0 ∨ v.n = 1)
    else if l.kind = 2 ∨ l.kind = 3 then usedB v true false false false && decide (l.lo ≤ v.n ∧ v.n ≤ l.hi)
    else if l.kind = 4 then usedB v false true false false && allowedB l.names v.names
    else if l.kind = 10 then usedB v false true false false && allowedB l.names v.names && closedB l.rules v.names
    else if l.kind = 8 then (if v.n = 0 ∨ v.n = 2 then usedB v true false false false else if v.n = 1 then usedB v true true false false && decide (v.names.length = 1) && allowedB l.names v.names else false)
    else if l.kind = 9 then usedB v false false false true && regB v.entries
    else if l.kind = 5 then usedB v false true true false && decide (v.names.length = v.parts.length) && allowedB l.names v.names && mapB l.parts v.parts
    else usedB v false false true false && decide (v.parts.length = l.parts.length) && elemsB l.parts v.parts) := by
  cases l
  rw [elemB]
  rfl
theorem elem_1 (lo hi' : Int) (ns : List ByteArray) (ps : List Lat) (rs : List Rl) (an ap ar : Option Addr) (cn cp cr : Nat) (vn : Int) (vns : List ByteArray) (vps : List Val) (ves : List En) (bn bp be : Option Addr) (bcn bcp bce : Nat) (w : World)
    (HL : Hid (latRd w (.mk 1 lo hi' ns ps rs) [.int .i64 1, .int .i64 lo, .int .i64 hi', .slice an ns.length cn, .slice ap ps.length cp, .slice ar rs.length cr])) (HV : Hid (valRd w (.mk vn vns vps ves) [.int .i64 vn, .slice bn vns.length bcn, .slice bp vps.length bcp, .slice be ves.length bce])) :
    Calls Tryz.prog 37 #[.agg #[.int .i64 1, .int .i64 lo, .int .i64 hi', .slice an ns.length cn, .slice ap ps.length cp, .slice ar rs.length cr], .agg #[.int .i64 vn, .slice bn vns.length bcn, .slice bp vps.length bcp, .slice be ves.length bce]] w fun e w' => e = .returned (.bool (elemB (.mk 1 lo hi' ns ps rs) (.mk vn vns vps ves))) ∧ Below w.heap.size w w' := by
  have HE : Hid (elemB (.mk 1 lo hi' ns ps rs) (.mk vn vns vps ves) = (usedB (.mk vn vns vps ves) true false false false && decide (vn = 0 ∨ vn = 1))) := hid (by rw [elemB_eq]; rfl)
  generalize elemB (.mk 1 lo hi' ns ps rs) (.mk vn vns vps ves) = R at HE ⊢
  have HB : Hid (∀ x : Ext ((w.alloc (.cells #[.int .i64 1, .int .i64 lo, .int .i64 hi', .slice an ns.length cn, .slice ap ps.length cp, .slice ar rs.length cr] 26)).alloc (.cells #[.int .i64 vn, .slice bn vns.length bcn, .slice bp vps.length bcp, .slice be ves.length bce] 30)), Below w.heap.size w x.1) := hid fun x => (((Below.refl _ _).alloc (Nat.le_refl _) _).alloc (by simp) _).trans (x.2.mono (by simp; omega))
  have HX : Hid (∀ x : Ext ((w.alloc (.cells #[.int .i64 1, .int .i64 lo, .int .i64 hi', .slice an ns.length cn, .slice ap ps.length cp, .slice ar rs.length cr] 26)).alloc (.cells #[.int .i64 vn, .slice bn vns.length bcn, .slice bp vps.length bcp, .slice be ves.length bce] 30)), (∀ (i : Nat) v, #[.int .i64 1, .int .i64 lo, .int .i64 hi', .slice an ns.length cn, .slice ap ps.length cp, .slice ar rs.length cr][i]? = some v → x.1.cell? ⟨w.heap.size, i, none⟩ = some v) ∧ (∀ (i : Nat) v, #[.int .i64 vn, .slice bn vns.length bcn, .slice bp vps.length bcp, .slice be ves.length bce][i]? = some v → x.1.cell? ⟨w.heap.size + 1, i, none⟩ = some v)) :=
    hid fun x => two_boxes w #[.int .i64 1, .int .i64 lo, .int .i64 hi', .slice an ns.length cn, .slice ap ps.length cp, .slice ar rs.length cr] #[.int .i64 vn, .slice bn vns.length bcn, .slice bp vps.length bcp, .slice be ves.length bce] 26 30 (x.2.mono (by simp))
  go_enter Tryz.func37, Tryz.ntmps37
  go_wp2_with fail
  generalize (w.alloc (.cells #[.int .i64 1, .int .i64 lo, .int .i64 hi', .slice an ns.length cn, .slice ap ps.length cp, .slice ar rs.length cr] 26)).alloc (.cells #[.int .i64 vn, .slice bn vns.length bcn, .slice bp vps.length bcp, .slice be ves.length bce] 30) = W2 at HB HX ⊢
  obtain ⟨x0, hx⟩ := ext_self W2
  rw [hx]
  clear hx
  have l0 : ∀ x : Ext W2, x.1.cell? ⟨w.heap.size, 0, none⟩ = some (.int .i64 1) := fun x => (HX.out x).1 0 _ rfl
  have v0 : ∀ x : Ext W2, x.1.cell? ⟨w.heap.size + 1, 0, none⟩ = some (.int .i64 vn) := fun x => (HX.out x).2 0 _ rfl
  have v1 : ∀ x : Ext W2, x.1.cell? ⟨w.heap.size + 1, 1, none⟩ = some (.slice bn vns.length bcn) := fun x => (HX.out x).2 1 _ rfl
  have v2 : ∀ x : Ext W2, x.1.cell? ⟨w.heap.size + 1, 2, none⟩ = some (.slice bp vps.length bcp) := fun x => (HX.out x).2 2 _ rfl
  have v3 : ∀ x : Ext W2, x.1.cell? ⟨w.heap.size + 1, 3, none⟩ = some (.slice be ves.length bce) := fun x => (HX.out x).2 3 _ rfl
  have HCU : Hid (∀ (q1 q2 q3 q4 : Bool) (x : Ext W2), Calls Tryz.prog 64 #[.agg #[.int .i64 vn, .slice bn vns.length bcn, .slice bp vps.length bcp, .slice be ves.length bce], .bool q1, .bool q2, .bool q3, .bool q4] x.1 fun e w' => e = .returned (.bool (usedB (.mk vn vns vps ves) q1 q2 q3 q4)) ∧ ∃ y : Ext W2, w' = y.1) :=
    hid fun _ _ _ _ x => ext_call x (used_any _ [.int .i64 vn, .slice bn vns.length bcn, .slice bp vps.length bcp, .slice be ves.length bce] _ _ _ _ _ (valRd.below (HB.out x) _ _ HV.out))
  go_wp2_with (first | (go_at_call 64; refine (HCU.out _ _ _ _ _).mono ?_; rintro e w1 ⟨rfl, y, rfl⟩))
  all_goals
    go_ret
    exact ⟨ret_bool (by rw [HE.out] <;> (simp_all <;> rfl)), HB.out _⟩
theorem elem_2 (lo hi' : Int) (ns : List ByteArray) (ps : List Lat) (rs : List Rl) (an ap ar : Option Addr) (cn cp cr : Nat) (vn : Int) (vns : List ByteArray) (vps : List Val) (ves : List En) (bn bp be : Option Addr) (bcn bcp bce : Nat) (w : World)
    (HL : Hid (latRd w (.mk 2 lo hi' ns ps rs) [.int .i64 2, .int .i64 lo, .int .i64 hi', .slice an ns.length cn, .slice ap ps.length cp, .slice ar rs.length cr])) (HV : Hid (valRd w (.mk vn vns vps ves) [.int .i64 vn, .slice bn vns.length bcn, .slice bp vps.length bcp, .slice be ves.length bce])) :
    Calls Tryz.prog 37 #[.agg #[.int .i64 2, .int .i64 lo, .int .i64 hi', .slice an ns.length cn, .slice ap ps.length cp, .slice ar rs.length cr], .agg #[.int .i64 vn, .slice bn vns.length bcn, .slice bp vps.length bcp, .slice be ves.length bce]] w fun e w' => e = .returned (.bool (elemB (.mk 2 lo hi' ns ps rs) (.mk vn vns vps ves))) ∧ Below w.heap.size w w' := by
  have HE : Hid (elemB (.mk 2 lo hi' ns ps rs) (.mk vn vns vps ves) = (usedB (.mk vn vns vps ves) true false false false && decide (lo ≤ vn ∧ vn ≤ hi'))) := hid (by rw [elemB_eq]; rfl)
  generalize elemB (.mk 2 lo hi' ns ps rs) (.mk vn vns vps ves) = R at HE ⊢
  have HB : Hid (∀ x : Ext ((w.alloc (.cells #[.int .i64 2, .int .i64 lo, .int .i64 hi', .slice an ns.length cn, .slice ap ps.length cp, .slice ar rs.length cr] 26)).alloc (.cells #[.int .i64 vn, .slice bn vns.length bcn, .slice bp vps.length bcp, .slice be ves.length bce] 30)), Below w.heap.size w x.1) := hid fun x => (((Below.refl _ _).alloc (Nat.le_refl _) _).alloc (by simp) _).trans (x.2.mono (by simp; omega))
  have HX : Hid (∀ x : Ext ((w.alloc (.cells #[.int .i64 2, .int .i64 lo, .int .i64 hi', .slice an ns.length cn, .slice ap ps.length cp, .slice ar rs.length cr] 26)).alloc (.cells #[.int .i64 vn, .slice bn vns.length bcn, .slice bp vps.length bcp, .slice be ves.length bce] 30)), (∀ (i : Nat) v, #[.int .i64 2, .int .i64 lo, .int .i64 hi', .slice an ns.length cn, .slice ap ps.length cp, .slice ar rs.length cr][i]? = some v → x.1.cell? ⟨w.heap.size, i, none⟩ = some v) ∧ (∀ (i : Nat) v, #[.int .i64 vn, .slice bn vns.length bcn, .slice bp vps.length bcp, .slice be ves.length bce][i]? = some v → x.1.cell? ⟨w.heap.size + 1, i, none⟩ = some v)) :=
    hid fun x => two_boxes w #[.int .i64 2, .int .i64 lo, .int .i64 hi', .slice an ns.length cn, .slice ap ps.length cp, .slice ar rs.length cr] #[.int .i64 vn, .slice bn vns.length bcn, .slice bp vps.length bcp, .slice be ves.length bce] 26 30 (x.2.mono (by simp))
  go_enter Tryz.func37, Tryz.ntmps37
  go_wp2_with fail
  generalize (w.alloc (.cells #[.int .i64 2, .int .i64 lo, .int .i64 hi', .slice an ns.length cn, .slice ap ps.length cp, .slice ar rs.length cr] 26)).alloc (.cells #[.int .i64 vn, .slice bn vns.length bcn, .slice bp vps.length bcp, .slice be ves.length bce] 30) = W2 at HB HX ⊢
  obtain ⟨x0, hx⟩ := ext_self W2
  rw [hx]
  clear hx
  have l0 : ∀ x : Ext W2, x.1.cell? ⟨w.heap.size, 0, none⟩ = some (.int .i64 2) := fun x => (HX.out x).1 0 _ rfl
  have l1 : ∀ x : Ext W2, x.1.cell? ⟨w.heap.size, 1, none⟩ = some (.int .i64 lo) := fun x => (HX.out x).1 1 _ rfl
  have l2 : ∀ x : Ext W2, x.1.cell? ⟨w.heap.size, 2, none⟩ = some (.int .i64 hi') := fun x => (HX.out x).1 2 _ rfl
  have v0 : ∀ x : Ext W2, x.1.cell? ⟨w.heap.size + 1, 0, none⟩ = some (.int .i64 vn) := fun x => (HX.out x).2 0 _ rfl
  have v1 : ∀ x : Ext W2, x.1.cell? ⟨w.heap.size + 1, 1, none⟩ = some (.slice bn vns.length bcn) := fun x => (HX.out x).2 1 _ rfl
  have v2 : ∀ x : Ext W2, x.1.cell? ⟨w.heap.size + 1, 2, none⟩ = some (.slice bp vps.length bcp) := fun x => (HX.out x).2 2 _ rfl
  have v3 : ∀ x : Ext W2, x.1.cell? ⟨w.heap.size + 1, 3, none⟩ = some (.slice be ves.length bce) := fun x => (HX.out x).2 3 _ rfl
  have HCU : Hid (∀ (q1 q2 q3 q4 : Bool) (x : Ext W2), Calls Tryz.prog 64 #[.agg #[.int .i64 vn, .slice bn vns.length bcn, .slice bp vps.length bcp, .slice be ves.length bce], .bool q1, .bool q2, .bool q3, .bool q4] x.1 fun e w' => e = .returned (.bool (usedB (.mk vn vns vps ves) q1 q2 q3 q4)) ∧ ∃ y : Ext W2, w' = y.1) :=
    hid fun _ _ _ _ x => ext_call x (used_any _ [.int .i64 vn, .slice bn vns.length bcn, .slice bp vps.length bcp, .slice be ves.length bce] _ _ _ _ _ (valRd.below (HB.out x) _ _ HV.out))
  go_wp2_with (first | (go_at_call 64; refine (HCU.out _ _ _ _ _).mono ?_; rintro e w1 ⟨rfl, y, rfl⟩))
  all_goals
    go_ret
    exact ⟨ret_bool (by rw [HE.out] <;> (simp_all <;> omega)), HB.out _⟩
theorem elem_3 (lo hi' : Int) (ns : List ByteArray) (ps : List Lat) (rs : List Rl) (an ap ar : Option Addr) (cn cp cr : Nat) (vn : Int) (vns : List ByteArray) (vps : List Val) (ves : List En) (bn bp be : Option Addr) (bcn bcp bce : Nat) (w : World)
    (HL : Hid (latRd w (.mk 3 lo hi' ns ps rs) [.int .i64 3, .int .i64 lo, .int .i64 hi', .slice an ns.length cn, .slice ap ps.length cp, .slice ar rs.length cr])) (HV : Hid (valRd w (.mk vn vns vps ves) [.int .i64 vn, .slice bn vns.length bcn, .slice bp vps.length bcp, .slice be ves.length bce])) :
    Calls Tryz.prog 37 #[.agg #[.int .i64 3, .int .i64 lo, .int .i64 hi', .slice an ns.length cn, .slice ap ps.length cp, .slice ar rs.length cr], .agg #[.int .i64 vn, .slice bn vns.length bcn, .slice bp vps.length bcp, .slice be ves.length bce]] w fun e w' => e = .returned (.bool (elemB (.mk 3 lo hi' ns ps rs) (.mk vn vns vps ves))) ∧ Below w.heap.size w w' := by
  have HE : Hid (elemB (.mk 3 lo hi' ns ps rs) (.mk vn vns vps ves) = (usedB (.mk vn vns vps ves) true false false false && decide (lo ≤ vn ∧ vn ≤ hi'))) := hid (by rw [elemB_eq]; rfl)
  generalize elemB (.mk 3 lo hi' ns ps rs) (.mk vn vns vps ves) = R at HE ⊢
  have HB : Hid (∀ x : Ext ((w.alloc (.cells #[.int .i64 3, .int .i64 lo, .int .i64 hi', .slice an ns.length cn, .slice ap ps.length cp, .slice ar rs.length cr] 26)).alloc (.cells #[.int .i64 vn, .slice bn vns.length bcn, .slice bp vps.length bcp, .slice be ves.length bce] 30)), Below w.heap.size w x.1) := hid fun x => (((Below.refl _ _).alloc (Nat.le_refl _) _).alloc (by simp) _).trans (x.2.mono (by simp; omega))
  have HX : Hid (∀ x : Ext ((w.alloc (.cells #[.int .i64 3, .int .i64 lo, .int .i64 hi', .slice an ns.length cn, .slice ap ps.length cp, .slice ar rs.length cr] 26)).alloc (.cells #[.int .i64 vn, .slice bn vns.length bcn, .slice bp vps.length bcp, .slice be ves.length bce] 30)), (∀ (i : Nat) v, #[.int .i64 3, .int .i64 lo, .int .i64 hi', .slice an ns.length cn, .slice ap ps.length cp, .slice ar rs.length cr][i]? = some v → x.1.cell? ⟨w.heap.size, i, none⟩ = some v) ∧ (∀ (i : Nat) v, #[.int .i64 vn, .slice bn vns.length bcn, .slice bp vps.length bcp, .slice be ves.length bce][i]? = some v → x.1.cell? ⟨w.heap.size + 1, i, none⟩ = some v)) :=
    hid fun x => two_boxes w #[.int .i64 3, .int .i64 lo, .int .i64 hi', .slice an ns.length cn, .slice ap ps.length cp, .slice ar rs.length cr] #[.int .i64 vn, .slice bn vns.length bcn, .slice bp vps.length bcp, .slice be ves.length bce] 26 30 (x.2.mono (by simp))
  go_enter Tryz.func37, Tryz.ntmps37
  go_wp2_with fail
  generalize (w.alloc (.cells #[.int .i64 3, .int .i64 lo, .int .i64 hi', .slice an ns.length cn, .slice ap ps.length cp, .slice ar rs.length cr] 26)).alloc (.cells #[.int .i64 vn, .slice bn vns.length bcn, .slice bp vps.length bcp, .slice be ves.length bce] 30) = W2 at HB HX ⊢
  obtain ⟨x0, hx⟩ := ext_self W2
  rw [hx]
  clear hx
  have l0 : ∀ x : Ext W2, x.1.cell? ⟨w.heap.size, 0, none⟩ = some (.int .i64 3) := fun x => (HX.out x).1 0 _ rfl
  have l1 : ∀ x : Ext W2, x.1.cell? ⟨w.heap.size, 1, none⟩ = some (.int .i64 lo) := fun x => (HX.out x).1 1 _ rfl
  have l2 : ∀ x : Ext W2, x.1.cell? ⟨w.heap.size, 2, none⟩ = some (.int .i64 hi') := fun x => (HX.out x).1 2 _ rfl
  have v0 : ∀ x : Ext W2, x.1.cell? ⟨w.heap.size + 1, 0, none⟩ = some (.int .i64 vn) := fun x => (HX.out x).2 0 _ rfl
  have v1 : ∀ x : Ext W2, x.1.cell? ⟨w.heap.size + 1, 1, none⟩ = some (.slice bn vns.length bcn) := fun x => (HX.out x).2 1 _ rfl
  have v2 : ∀ x : Ext W2, x.1.cell? ⟨w.heap.size + 1, 2, none⟩ = some (.slice bp vps.length bcp) := fun x => (HX.out x).2 2 _ rfl
  have v3 : ∀ x : Ext W2, x.1.cell? ⟨w.heap.size + 1, 3, none⟩ = some (.slice be ves.length bce) := fun x => (HX.out x).2 3 _ rfl
  have HCU : Hid (∀ (q1 q2 q3 q4 : Bool) (x : Ext W2), Calls Tryz.prog 64 #[.agg #[.int .i64 vn, .slice bn vns.length bcn, .slice bp vps.length bcp, .slice be ves.length bce], .bool q1, .bool q2, .bool q3, .bool q4] x.1 fun e w' => e = .returned (.bool (usedB (.mk vn vns vps ves) q1 q2 q3 q4)) ∧ ∃ y : Ext W2, w' = y.1) :=
    hid fun _ _ _ _ x => ext_call x (used_any _ [.int .i64 vn, .slice bn vns.length bcn, .slice bp vps.length bcp, .slice be ves.length bce] _ _ _ _ _ (valRd.below (HB.out x) _ _ HV.out))
  go_wp2_with (first | (go_at_call 64; refine (HCU.out _ _ _ _ _).mono ?_; rintro e w1 ⟨rfl, y, rfl⟩))
  all_goals
    go_ret
    exact ⟨ret_bool (by rw [HE.out] <;> (simp_all <;> omega)), HB.out _⟩
theorem elem_4 (lo hi' : Int) (ns : List ByteArray) (ps : List Lat) (rs : List Rl) (an ap ar : Option Addr) (cn cp cr : Nat) (vn : Int) (vns : List ByteArray) (vps : List Val) (ves : List En) (bn bp be : Option Addr) (bcn bcp bce : Nat) (w : World)
    (HL : Hid (latRd w (.mk 4 lo hi' ns ps rs) [.int .i64 4, .int .i64 lo, .int .i64 hi', .slice an ns.length cn, .slice ap ps.length cp, .slice ar rs.length cr])) (HV : Hid (valRd w (.mk vn vns vps ves) [.int .i64 vn, .slice bn vns.length bcn, .slice bp vps.length bcp, .slice be ves.length bce])) :
    Calls Tryz.prog 37 #[.agg #[.int .i64 4, .int .i64 lo, .int .i64 hi', .slice an ns.length cn, .slice ap ps.length cp, .slice ar rs.length cr], .agg #[.int .i64 vn, .slice bn vns.length bcn, .slice bp vps.length bcp, .slice be ves.length bce]] w fun e w' => e = .returned (.bool (elemB (.mk 4 lo hi' ns ps rs) (.mk vn vns vps ves))) ∧ Below w.heap.size w w' := by
  have HE : Hid (elemB (.mk 4 lo hi' ns ps rs) (.mk vn vns vps ves) = (usedB (.mk vn vns vps ves) false true false false && allowedB ns vns)) := hid (by rw [elemB_eq]; rfl)
  generalize elemB (.mk 4 lo hi' ns ps rs) (.mk vn vns vps ves) = R at HE ⊢
  have HB : Hid (∀ x : Ext ((w.alloc (.cells #[.int .i64 4, .int .i64 lo, .int .i64 hi', .slice an ns.length cn, .slice ap ps.length cp, .slice ar rs.length cr] 26)).alloc (.cells #[.int .i64 vn, .slice bn vns.length bcn, .slice bp vps.length bcp, .slice be ves.length bce] 30)), Below w.heap.size w x.1) := hid fun x => (((Below.refl _ _).alloc (Nat.le_refl _) _).alloc (by simp) _).trans (x.2.mono (by simp; omega))
  have HX : Hid (∀ x : Ext ((w.alloc (.cells #[.int .i64 4, .int .i64 lo, .int .i64 hi', .slice an ns.length cn, .slice ap ps.length cp, .slice ar rs.length cr] 26)).alloc (.cells #[.int .i64 vn, .slice bn vns.length bcn, .slice bp vps.length bcp, .slice be ves.length bce] 30)), (∀ (i : Nat) v, #[.int .i64 4, .int .i64 lo, .int .i64 hi', .slice an ns.length cn, .slice ap ps.length cp, .slice ar rs.length cr][i]? = some v → x.1.cell? ⟨w.heap.size, i, none⟩ = some v) ∧ (∀ (i : Nat) v, #[.int .i64 vn, .slice bn vns.length bcn, .slice bp vps.length bcp, .slice be ves.length bce][i]? = some v → x.1.cell? ⟨w.heap.size + 1, i, none⟩ = some v)) :=
    hid fun x => two_boxes w #[.int .i64 4, .int .i64 lo, .int .i64 hi', .slice an ns.length cn, .slice ap ps.length cp, .slice ar rs.length cr] #[.int .i64 vn, .slice bn vns.length bcn, .slice bp vps.length bcp, .slice be ves.length bce] 26 30 (x.2.mono (by simp))
  go_enter Tryz.func37, Tryz.ntmps37
  go_wp2_with fail
  generalize (w.alloc (.cells #[.int .i64 4, .int .i64 lo, .int .i64 hi', .slice an ns.length cn, .slice ap ps.length cp, .slice ar rs.length cr] 26)).alloc (.cells #[.int .i64 vn, .slice bn vns.length bcn, .slice bp vps.length bcp, .slice be ves.length bce] 30) = W2 at HB HX ⊢
  obtain ⟨x0, hx⟩ := ext_self W2
  rw [hx]
  clear hx
  have l0 : ∀ x : Ext W2, x.1.cell? ⟨w.heap.size, 0, none⟩ = some (.int .i64 4) := fun x => (HX.out x).1 0 _ rfl
  have l3 : ∀ x : Ext W2, x.1.cell? ⟨w.heap.size, 3, none⟩ = some (.slice an ns.length cn) := fun x => (HX.out x).1 3 _ rfl
  have v0 : ∀ x : Ext W2, x.1.cell? ⟨w.heap.size + 1, 0, none⟩ = some (.int .i64 vn) := fun x => (HX.out x).2 0 _ rfl
  have v1 : ∀ x : Ext W2, x.1.cell? ⟨w.heap.size + 1, 1, none⟩ = some (.slice bn vns.length bcn) := fun x => (HX.out x).2 1 _ rfl
  have v2 : ∀ x : Ext W2, x.1.cell? ⟨w.heap.size + 1, 2, none⟩ = some (.slice bp vps.length bcp) := fun x => (HX.out x).2 2 _ rfl
  have v3 : ∀ x : Ext W2, x.1.cell? ⟨w.heap.size + 1, 3, none⟩ = some (.slice be ves.length bce) := fun x => (HX.out x).2 3 _ rfl
  have HCU : Hid (∀ (q1 q2 q3 q4 : Bool) (x : Ext W2), Calls Tryz.prog 64 #[.agg #[.int .i64 vn, .slice bn vns.length bcn, .slice bp vps.length bcp, .slice be ves.length bce], .bool q1, .bool q2, .bool q3, .bool q4] x.1 fun e w' => e = .returned (.bool (usedB (.mk vn vns vps ves) q1 q2 q3 q4)) ∧ ∃ y : Ext W2, w' = y.1) :=
    hid fun _ _ _ _ x => ext_call x (used_any _ [.int .i64 vn, .slice bn vns.length bcn, .slice bp vps.length bcp, .slice be ves.length bce] _ _ _ _ _ (valRd.below (HB.out x) _ _ HV.out))
  have HCA : Hid (∀ x : Ext W2, Calls Tryz.prog 65 #[.slice an ns.length cn, .slice bn vns.length bcn] x.1 fun e w' => e = .returned (.bool (allowedB ns vns)) ∧ ∃ y : Ext W2, w' = y.1) := hid fun x => by
    obtain ⟨_, _, _, hh, _, h3, _⟩ := (latRd_iff _ _ _).1 (latRd.below (HB.out x) _ _ HL.out)
    obtain ⟨_, _, _, gg, _, g3, _⟩ := (valRd_iff _ _ _).1 (valRd.below (HB.out x) _ _ HV.out)
    cases hh; cases gg
    exact ext_call x (allowed_any _ _ ns vns _ h3 g3)
  go_wp2_with (first | (go_at_call 64; refine (HCU.out _ _ _ _ _).mono ?_; rintro e w1 ⟨rfl, y, rfl⟩) | (go_at_call 65; refine (HCA.out _).mono ?_; rintro e w1 ⟨rfl, y, rfl⟩))
  all_goals
    go_ret
    exact ⟨ret_bool (by rw [HE.out] <;> (simp_all)), HB.out _⟩
theorem elem_10 (lo hi' : Int) (ns : List ByteArray) (ps : List Lat) (rs : List Rl) (an ap ar : Option Addr) (cn cp cr : Nat) (vn : Int) (vns : List ByteArray) (vps : List Val) (ves : List En) (bn bp be : Option Addr) (bcn bcp bce : Nat) (w : World)
    (HL : Hid (latRd w (.mk 10 lo hi' ns ps rs) [.int .i64 10, .int .i64 lo, .int .i64 hi', .slice an ns.length cn, .slice ap ps.length cp, .slice ar rs.length cr])) (HV : Hid (valRd w (.mk vn vns vps ves) [.int .i64 vn, .slice bn vns.length bcn, .slice bp vps.length bcp, .slice be ves.length bce])) :
    Calls Tryz.prog 37 #[.agg #[.int .i64 10, .int .i64 lo, .int .i64 hi', .slice an ns.length cn, .slice ap ps.length cp, .slice ar rs.length cr], .agg #[.int .i64 vn, .slice bn vns.length bcn, .slice bp vps.length bcp, .slice be ves.length bce]] w fun e w' => e = .returned (.bool (elemB (.mk 10 lo hi' ns ps rs) (.mk vn vns vps ves))) ∧ Below w.heap.size w w' := by
  have HE : Hid (elemB (.mk 10 lo hi' ns ps rs) (.mk vn vns vps ves) = (usedB (.mk vn vns vps ves) false true false false && allowedB ns vns && closedB rs vns)) := hid (by rw [elemB_eq]; rfl)
  generalize elemB (.mk 10 lo hi' ns ps rs) (.mk vn vns vps ves) = R at HE ⊢
  have HB : Hid (∀ x : Ext ((w.alloc (.cells #[.int .i64 10, .int .i64 lo, .int .i64 hi', .slice an ns.length cn, .slice ap ps.length cp, .slice ar rs.length cr] 26)).alloc (.cells #[.int .i64 vn, .slice bn vns.length bcn, .slice bp vps.length bcp, .slice be ves.length bce] 30)), Below w.heap.size w x.1) := hid fun x => (((Below.refl _ _).alloc (Nat.le_refl _) _).alloc (by simp) _).trans (x.2.mono (by simp; omega))
  have HX : Hid (∀ x : Ext ((w.alloc (.cells #[.int .i64 10, .int .i64 lo, .int .i64 hi', .slice an ns.length cn, .slice ap ps.length cp, .slice ar rs.length cr] 26)).alloc (.cells #[.int .i64 vn, .slice bn vns.length bcn, .slice bp vps.length bcp, .slice be ves.length bce] 30)), (∀ (i : Nat) v, #[.int .i64 10, .int .i64 lo, .int .i64 hi', .slice an ns.length cn, .slice ap ps.length cp, .slice ar rs.length cr][i]? = some v → x.1.cell? ⟨w.heap.size, i, none⟩ = some v) ∧ (∀ (i : Nat) v, #[.int .i64 vn, .slice bn vns.length bcn, .slice bp vps.length bcp, .slice be ves.length bce][i]? = some v → x.1.cell? ⟨w.heap.size + 1, i, none⟩ = some v)) :=
    hid fun x => two_boxes w #[.int .i64 10, .int .i64 lo, .int .i64 hi', .slice an ns.length cn, .slice ap ps.length cp, .slice ar rs.length cr] #[.int .i64 vn, .slice bn vns.length bcn, .slice bp vps.length bcp, .slice be ves.length bce] 26 30 (x.2.mono (by simp))
  go_enter Tryz.func37, Tryz.ntmps37
  go_wp2_with fail
  generalize (w.alloc (.cells #[.int .i64 10, .int .i64 lo, .int .i64 hi', .slice an ns.length cn, .slice ap ps.length cp, .slice ar rs.length cr] 26)).alloc (.cells #[.int .i64 vn, .slice bn vns.length bcn, .slice bp vps.length bcp, .slice be ves.length bce] 30) = W2 at HB HX ⊢
  obtain ⟨x0, hx⟩ := ext_self W2
  rw [hx]
  clear hx
  have l0 : ∀ x : Ext W2, x.1.cell? ⟨w.heap.size, 0, none⟩ = some (.int .i64 10) := fun x => (HX.out x).1 0 _ rfl
  have l3 : ∀ x : Ext W2, x.1.cell? ⟨w.heap.size, 3, none⟩ = some (.slice an ns.length cn) := fun x => (HX.out x).1 3 _ rfl
  have l5 : ∀ x : Ext W2, x.1.cell? ⟨w.heap.size, 5, none⟩ = some (.slice ar rs.length cr) := fun x => (HX.out x).1 5 _ rfl
  have v0 : ∀ x : Ext W2, x.1.cell? ⟨w.heap.size + 1, 0, none⟩ = some (.int .i64 vn) := fun x => (HX.out x).2 0 _ rfl
  have v1 : ∀ x : Ext W2, x.1.cell? ⟨w.heap.size + 1, 1, none⟩ = some (.slice bn vns.length bcn) := fun x => (HX.out x).2 1 _ rfl
  have v2 : ∀ x : Ext W2, x.1.cell? ⟨w.heap.size + 1, 2, none⟩ = some (.slice bp vps.length bcp) := fun x => (HX.out x).2 2 _ rfl
  have v3 : ∀ x : Ext W2, x.1.cell? ⟨w.heap.size + 1, 3, none⟩ = some (.slice be ves.length bce) := fun x => (HX.out x).2 3 _ rfl
  have HCU : Hid (∀ (q1 q2 q3 q4 : Bool) (x : Ext W2), Calls Tryz.prog 64 #[.agg #[.int .i64 vn, .slice bn vns.length bcn, .slice bp vps.length bcp, .slice be ves.length bce], .bool q1, .bool q2, .bool q3, .bool q4] x.1 fun e w' => e = .returned (.bool (usedB (.mk vn vns vps ves) q1 q2 q3 q4)) ∧ ∃ y : Ext W2, w' = y.1) :=
    hid fun _ _ _ _ x => ext_call x (used_any _ [.int .i64 vn, .slice bn vns.length bcn, .slice bp vps.length bcp, .slice be ves.length bce] _ _ _ _ _ (valRd.below (HB.out x) _ _ HV.out))
  have HCA : Hid (∀ x : Ext W2, Calls Tryz.prog 65 #[.slice an ns.length cn, .slice bn vns.length bcn] x.1 fun e w' => e = .returned (.bool (allowedB ns vns)) ∧ ∃ y : Ext W2, w' = y.1) := hid fun x => by
    obtain ⟨_, _, _, hh, _, h3, _⟩ := (latRd_iff _ _ _).1 (latRd.below (HB.out x) _ _ HL.out)
    obtain ⟨_, _, _, gg, _, g3, _⟩ := (valRd_iff _ _ _).1 (valRd.below (HB.out x) _ _ HV.out)
    cases hh; cases gg
    exact ext_call x (allowed_any _ _ ns vns _ h3 g3)
  have HCC : Hid (∀ x : Ext W2, Calls Tryz.prog 66 #[.slice ar rs.length cr, .slice bn vns.length bcn] x.1 fun e w' => e = .returned (.bool (closedB rs vns)) ∧ ∃ y : Ext W2, w' = y.1) := hid fun x => by
    obtain ⟨_, _, _, hh, _, _, _, h5⟩ := (latRd_iff _ _ _).1 (latRd.below (HB.out x) _ _ HL.out)
    obtain ⟨_, _, _, gg, _, g3, _⟩ := (valRd_iff _ _ _).1 (valRd.below (HB.out x) _ _ HV.out)
    cases hh; cases gg
    exact ext_call x (closed_any _ _ rs vns _ h5 g3)
  go_wp2_with (first | (go_at_call 64; refine (HCU.out _ _ _ _ _).mono ?_; rintro e w1 ⟨rfl, y, rfl⟩) | (go_at_call 65; refine (HCA.out _).mono ?_; rintro e w1 ⟨rfl, y, rfl⟩) | (go_at_call 66; refine (HCC.out _).mono ?_; rintro e w1 ⟨rfl, y, rfl⟩))
  all_goals
    go_ret
    exact ⟨ret_bool (by rw [HE.out] <;> (simp_all)), HB.out _⟩
theorem elem_9 (lo hi' : Int) (ns : List ByteArray) (ps : List Lat) (rs : List Rl) (an ap ar : Option Addr) (cn cp cr : Nat) (vn : Int) (vns : List ByteArray) (vps : List Val) (ves : List En) (bn bp be : Option Addr) (bcn bcp bce : Nat) (w : World)
    (HL : Hid (latRd w (.mk 9 lo hi' ns ps rs) [.int .i64 9, .int .i64 lo, .int .i64 hi', .slice an ns.length cn, .slice ap ps.length cp, .slice ar rs.length cr])) (HV : Hid (valRd w (.mk vn vns vps ves) [.int .i64 vn, .slice bn vns.length bcn, .slice bp vps.length bcp, .slice be ves.length bce])) :
    Calls Tryz.prog 37 #[.agg #[.int .i64 9, .int .i64 lo, .int .i64 hi', .slice an ns.length cn, .slice ap ps.length cp, .slice ar rs.length cr], .agg #[.int .i64 vn, .slice bn vns.length bcn, .slice bp vps.length bcp, .slice be ves.length bce]] w fun e w' => e = .returned (.bool (elemB (.mk 9 lo hi' ns ps rs) (.mk vn vns vps ves))) ∧ Below w.heap.size w w' := by
  have HE : Hid (elemB (.mk 9 lo hi' ns ps rs) (.mk vn vns vps ves) = (usedB (.mk vn vns vps ves) false false false true && regB ves)) := hid (by rw [elemB_eq]; rfl)
  generalize elemB (.mk 9 lo hi' ns ps rs) (.mk vn vns vps ves) = R at HE ⊢
  have HB : Hid (∀ x : Ext ((w.alloc (.cells #[.int .i64 9, .int .i64 lo, .int .i64 hi', .slice an ns.length cn, .slice ap ps.length cp, .slice ar rs.length cr] 26)).alloc (.cells #[.int .i64 vn, .slice bn vns.length bcn, .slice bp vps.length bcp, .slice be ves.length bce] 30)), Below w.heap.size w x.1) := hid fun x => (((Below.refl _ _).alloc (Nat.le_refl _) _).alloc (by simp) _).trans (x.2.mono (by simp; omega))
  have HX : Hid (∀ x : Ext ((w.alloc (.cells #[.int .i64 9, .int .i64 lo, .int .i64 hi', .slice an ns.length cn, .slice ap ps.length cp, .slice ar rs.length cr] 26)).alloc (.cells #[.int .i64 vn, .slice bn vns.length bcn, .slice bp vps.length bcp, .slice be ves.length bce] 30)), (∀ (i : Nat) v, #[.int .i64 9, .int .i64 lo, .int .i64 hi', .slice an ns.length cn, .slice ap ps.length cp, .slice ar rs.length cr][i]? = some v → x.1.cell? ⟨w.heap.size, i, none⟩ = some v) ∧ (∀ (i : Nat) v, #[.int .i64 vn, .slice bn vns.length bcn, .slice bp vps.length bcp, .slice be ves.length bce][i]? = some v → x.1.cell? ⟨w.heap.size + 1, i, none⟩ = some v)) :=
    hid fun x => two_boxes w #[.int .i64 9, .int .i64 lo, .int .i64 hi', .slice an ns.length cn, .slice ap ps.length cp, .slice ar rs.length cr] #[.int .i64 vn, .slice bn vns.length bcn, .slice bp vps.length bcp, .slice be ves.length bce] 26 30 (x.2.mono (by simp))
  go_enter Tryz.func37, Tryz.ntmps37
  go_wp2_with fail
  generalize (w.alloc (.cells #[.int .i64 9, .int .i64 lo, .int .i64 hi', .slice an ns.length cn, .slice ap ps.length cp, .slice ar rs.length cr] 26)).alloc (.cells #[.int .i64 vn, .slice bn vns.length bcn, .slice bp vps.length bcp, .slice be ves.length bce] 30) = W2 at HB HX ⊢
  obtain ⟨x0, hx⟩ := ext_self W2
  rw [hx]
  clear hx
  have l0 : ∀ x : Ext W2, x.1.cell? ⟨w.heap.size, 0, none⟩ = some (.int .i64 9) := fun x => (HX.out x).1 0 _ rfl
  have v0 : ∀ x : Ext W2, x.1.cell? ⟨w.heap.size + 1, 0, none⟩ = some (.int .i64 vn) := fun x => (HX.out x).2 0 _ rfl
  have v1 : ∀ x : Ext W2, x.1.cell? ⟨w.heap.size + 1, 1, none⟩ = some (.slice bn vns.length bcn) := fun x => (HX.out x).2 1 _ rfl
  have v2 : ∀ x : Ext W2, x.1.cell? ⟨w.heap.size + 1, 2, none⟩ = some (.slice bp vps.length bcp) := fun x => (HX.out x).2 2 _ rfl
  have v3 : ∀ x : Ext W2, x.1.cell? ⟨w.heap.size + 1, 3, none⟩ = some (.slice be ves.length bce) := fun x => (HX.out x).2 3 _ rfl
  have HCU : Hid (∀ (q1 q2 q3 q4 : Bool) (x : Ext W2), Calls Tryz.prog 64 #[.agg #[.int .i64 vn, .slice bn vns.length bcn, .slice bp vps.length bcp, .slice be ves.length bce], .bool q1, .bool q2, .bool q3, .bool q4] x.1 fun e w' => e = .returned (.bool (usedB (.mk vn vns vps ves) q1 q2 q3 q4)) ∧ ∃ y : Ext W2, w' = y.1) :=
    hid fun _ _ _ _ x => ext_call x (used_any _ [.int .i64 vn, .slice bn vns.length bcn, .slice bp vps.length bcp, .slice be ves.length bce] _ _ _ _ _ (valRd.below (HB.out x) _ _ HV.out))
  have HCR : Hid (∀ x : Ext W2, Calls Tryz.prog 67 #[.slice be ves.length bce] x.1 fun e w' => e = .returned (.bool (regB ves)) ∧ ∃ y : Ext W2, w' = y.1) := hid fun x => by
    obtain ⟨_, _, _, gg, _, _, _, g5⟩ := (valRd_iff _ _ _).1 (valRd.below (HB.out x) _ _ HV.out)
    cases gg
    exact ext_call x (register_any _ ves _ g5)
  go_wp2_with (first | (go_at_call 64; refine (HCU.out _ _ _ _ _).mono ?_; rintro e w1 ⟨rfl, y, rfl⟩) | (go_at_call 67; refine (HCR.out _).mono ?_; rintro e w1 ⟨rfl, y, rfl⟩))
  all_goals
    go_ret
    exact ⟨ret_bool (by rw [HE.out] <;> (simp_all)), HB.out _⟩
theorem elem_8_0 (lo hi' : Int) (ns : List ByteArray) (ps : List Lat) (rs : List Rl) (an ap ar : Option Addr) (cn cp cr : Nat) (vns : List ByteArray) (vps : List Val) (ves : List En) (bn bp be : Option Addr) (bcn bcp bce : Nat) (w : World)
    (HL : Hid (latRd w (.mk 8 lo hi' ns ps rs) [.int .i64 8, .int .i64 lo, .int .i64 hi', .slice an ns.length cn, .slice ap ps.length cp, .slice ar rs.length cr])) (HV : Hid (valRd w (.mk 0 vns vps ves) [.int .i64 0, .slice bn vns.length bcn, .slice bp vps.length bcp, .slice be ves.length bce])) :
    Calls Tryz.prog 37 #[.agg #[.int .i64 8, .int .i64 lo, .int .i64 hi', .slice an ns.length cn, .slice ap ps.length cp, .slice ar rs.length cr], .agg #[.int .i64 0, .slice bn vns.length bcn, .slice bp vps.length bcp, .slice be ves.length bce]] w fun e w' => e = .returned (.bool (elemB (.mk 8 lo hi' ns ps rs) (.mk 0 vns vps ves))) ∧ Below w.heap.size w w' := by
  have HE : Hid (elemB (.mk 8 lo hi' ns ps rs) (.mk 0 vns vps ves) = (usedB (.mk 0 vns vps ves) true false false false)) := hid (by rw [elemB_eq]; rfl)
  generalize elemB (.mk 8 lo hi' ns ps rs) (.mk 0 vns vps ves) = R at HE ⊢
  have HB : Hid (∀ x : Ext ((w.alloc (.cells #[.int .i64 8, .int .i64 lo, .int .i64 hi', .slice an ns.length cn, .slice ap ps.length cp, .slice ar rs.length cr] 26)).alloc (.cells #[.int .i64 0, .slice bn vns.length bcn, .slice bp vps.length bcp, .slice be ves.length bce] 30)), Below w.heap.size w x.1) := hid fun x => (((Below.refl _ _).alloc (Nat.le_refl _) _).alloc (by simp) _).trans (x.2.mono (by simp; omega))
  have HX : Hid (∀ x : Ext ((w.alloc (.cells #[.int .i64 8, .int .i64 lo, .int .i64 hi', .slice an ns.length cn, .slice ap ps.length cp, .slice ar rs.length cr] 26)).alloc (.cells #[.int .i64 0, .slice bn vns.length bcn, .slice bp vps.length bcp, .slice be ves.length bce] 30)), (∀ (i : Nat) v, #[.int .i64 8, .int .i64 lo, .int .i64 hi', .slice an ns.length cn, .slice ap ps.length cp, .slice ar rs.length cr][i]? = some v → x.1.cell? ⟨w.heap.size, i, none⟩ = some v) ∧ (∀ (i : Nat) v, #[.int .i64 0, .slice bn vns.length bcn, .slice bp vps.length bcp, .slice be ves.length bce][i]? = some v → x.1.cell? ⟨w.heap.size + 1, i, none⟩ = some v)) :=
    hid fun x => two_boxes w #[.int .i64 8, .int .i64 lo, .int .i64 hi', .slice an ns.length cn, .slice ap ps.length cp, .slice ar rs.length cr] #[.int .i64 0, .slice bn vns.length bcn, .slice bp vps.length bcp, .slice be ves.length bce] 26 30 (x.2.mono (by simp))
  go_enter Tryz.func37, Tryz.ntmps37
  go_wp2_with fail
  generalize (w.alloc (.cells #[.int .i64 8, .int .i64 lo, .int .i64 hi', .slice an ns.length cn, .slice ap ps.length cp, .slice ar rs.length cr] 26)).alloc (.cells #[.int .i64 0, .slice bn vns.length bcn, .slice bp vps.length bcp, .slice be ves.length bce] 30) = W2 at HB HX ⊢
  obtain ⟨x0, hx⟩ := ext_self W2
  rw [hx]
  clear hx
  have l0 : ∀ x : Ext W2, x.1.cell? ⟨w.heap.size, 0, none⟩ = some (.int .i64 8) := fun x => (HX.out x).1 0 _ rfl
  have l3 : ∀ x : Ext W2, x.1.cell? ⟨w.heap.size, 3, none⟩ = some (.slice an ns.length cn) := fun x => (HX.out x).1 3 _ rfl
  have v0 : ∀ x : Ext W2, x.1.cell? ⟨w.heap.size + 1, 0, none⟩ = some (.int .i64 0) := fun x => (HX.out x).2 0 _ rfl
  have v1 : ∀ x : Ext W2, x.1.cell? ⟨w.heap.size + 1, 1, none⟩ = some (.slice bn vns.length bcn) := fun x => (HX.out x).2 1 _ rfl
  have v2 : ∀ x : Ext W2, x.1.cell? ⟨w.heap.size + 1, 2, none⟩ = some (.slice bp vps.length bcp) := fun x => (HX.out x).2 2 _ rfl
  have v3 : ∀ x : Ext W2, x.1.cell? ⟨w.heap.size + 1, 3, none⟩ = some (.slice be ves.length bce) := fun x => (HX.out x).2 3 _ rfl
  have HCU : Hid (∀ (q1 q2 q3 q4 : Bool) (x : Ext W2), Calls Tryz.prog 64 #[.agg #[.int .i64 0, .slice bn vns.length bcn, .slice bp vps.length bcp, .slice be ves.length bce], .bool q1, .bool q2, .bool q3, .bool q4] x.1 fun e w' => e = .returned (.bool (usedB (.mk 0 vns vps ves) q1 q2 q3 q4)) ∧ ∃ y : Ext W2, w' = y.1) :=
    hid fun _ _ _ _ x => ext_call x (used_any _ [.int .i64 0, .slice bn vns.length bcn, .slice bp vps.length bcp, .slice be ves.length bce] _ _ _ _ _ (valRd.below (HB.out x) _ _ HV.out))
  have HCA : Hid (∀ x : Ext W2, Calls Tryz.prog 65 #[.slice an ns.length cn, .slice bn vns.length bcn] x.1 fun e w' => e = .returned (.bool (allowedB ns vns)) ∧ ∃ y : Ext W2, w' = y.1) := hid fun x => by
    obtain ⟨_, _, _, hh, _, h3, _⟩ := (latRd_iff _ _ _).1 (latRd.below (HB.out x) _ _ HL.out)
    obtain ⟨_, _, _, gg, _, g3, _⟩ := (valRd_iff _ _ _).1 (valRd.below (HB.out x) _ _ HV.out)
    cases hh; cases gg
    exact ext_call x (allowed_any _ _ ns vns _ h3 g3)
  go_wp2_with (first | (go_at_call 64; refine (HCU.out _ _ _ _ _).mono ?_; rintro e w1 ⟨rfl, y, rfl⟩))
  all_goals
    go_ret
    exact ⟨ret_bool (by rw [HE.out] <;> (simp_all <;> (intros; omega))), HB.out _⟩
theorem elem_8_2 (lo hi' : Int) (ns : List ByteArray) (ps : List Lat) (rs : List Rl) (an ap ar : Option Addr) (cn cp cr : Nat) (vns : List ByteArray) (vps : List Val) (ves : List En) (bn bp be : Option Addr) (bcn bcp bce : Nat) (w : World)
    (HL : Hid (latRd w (.mk 8 lo hi' ns ps rs) [.int .i64 8, .int .i64 lo, .int .i64 hi', .slice an ns.length cn, .slice ap ps.length cp, .slice ar rs.length cr])) (HV : Hid (valRd w (.mk 2 vns vps ves) [.int .i64 2, .slice bn vns.length bcn, .slice bp vps.length bcp, .slice be ves.length bce])) :
    Calls Tryz.prog 37 #[.agg #[.int .i64 8, .int .i64 lo, .int .i64 hi', .slice an ns.length cn, .slice ap ps.length cp, .slice ar rs.length cr], .agg #[.int .i64 2, .slice bn vns.length bcn, .slice bp vps.length bcp, .slice be ves.length bce]] w fun e w' => e = .returned (.bool (elemB (.mk 8 lo hi' ns ps rs) (.mk 2 vns vps ves))) ∧ Below w.heap.size w w' := by
  have HE : Hid (elemB (.mk 8 lo hi' ns ps rs) (.mk 2 vns vps ves) = (usedB (.mk 2 vns vps ves) true false false false)) := hid (by rw [elemB_eq]; rfl)
  generalize elemB (.mk 8 lo hi' ns ps rs) (.mk 2 vns vps ves) = R at HE ⊢
  have HB : Hid (∀ x : Ext ((w.alloc (.cells #[.int .i64 8, .int .i64 lo, .int .i64 hi', .slice an ns.length cn, .slice ap ps.length cp, .slice ar rs.length cr] 26)).alloc (.cells #[.int .i64 2, .slice bn vns.length bcn, .slice bp vps.length bcp, .slice be ves.length bce] 30)), Below w.heap.size w x.1) := hid fun x => (((Below.refl _ _).alloc (Nat.le_refl _) _).alloc (by simp) _).trans (x.2.mono (by simp; omega))
  have HX : Hid (∀ x : Ext ((w.alloc (.cells #[.int .i64 8, .int .i64 lo, .int .i64 hi', .slice an ns.length cn, .slice ap ps.length cp, .slice ar rs.length cr] 26)).alloc (.cells #[.int .i64 2, .slice bn vns.length bcn, .slice bp vps.length bcp, .slice be ves.length bce] 30)), (∀ (i : Nat) v, #[.int .i64 8, .int .i64 lo, .int .i64 hi', .slice an ns.length cn, .slice ap ps.length cp, .slice ar rs.length cr][i]? = some v → x.1.cell? ⟨w.heap.size, i, none⟩ = some v) ∧ (∀ (i : Nat) v, #[.int .i64 2, .slice bn vns.length bcn, .slice bp vps.length bcp, .slice be ves.length bce][i]? = some v → x.1.cell? ⟨w.heap.size + 1, i, none⟩ = some v)) :=
    hid fun x => two_boxes w #[.int .i64 8, .int .i64 lo, .int .i64 hi', .slice an ns.length cn, .slice ap ps.length cp, .slice ar rs.length cr] #[.int .i64 2, .slice bn vns.length bcn, .slice bp vps.length bcp, .slice be ves.length bce] 26 30 (x.2.mono (by simp))
  go_enter Tryz.func37, Tryz.ntmps37
  go_wp2_with fail
  generalize (w.alloc (.cells #[.int .i64 8, .int .i64 lo, .int .i64 hi', .slice an ns.length cn, .slice ap ps.length cp, .slice ar rs.length cr] 26)).alloc (.cells #[.int .i64 2, .slice bn vns.length bcn, .slice bp vps.length bcp, .slice be ves.length bce] 30) = W2 at HB HX ⊢
  obtain ⟨x0, hx⟩ := ext_self W2
  rw [hx]
  clear hx
  have l0 : ∀ x : Ext W2, x.1.cell? ⟨w.heap.size, 0, none⟩ = some (.int .i64 8) := fun x => (HX.out x).1 0 _ rfl
  have l3 : ∀ x : Ext W2, x.1.cell? ⟨w.heap.size, 3, none⟩ = some (.slice an ns.length cn) := fun x => (HX.out x).1 3 _ rfl
  have v0 : ∀ x : Ext W2, x.1.cell? ⟨w.heap.size + 1, 0, none⟩ = some (.int .i64 2) := fun x => (HX.out x).2 0 _ rfl
  have v1 : ∀ x : Ext W2, x.1.cell? ⟨w.heap.size + 1, 1, none⟩ = some (.slice bn vns.length bcn) := fun x => (HX.out x).2 1 _ rfl
  have v2 : ∀ x : Ext W2, x.1.cell? ⟨w.heap.size + 1, 2, none⟩ = some (.slice bp vps.length bcp) := fun x => (HX.out x).2 2 _ rfl
  have v3 : ∀ x : Ext W2, x.1.cell? ⟨w.heap.size + 1, 3, none⟩ = some (.slice be ves.length bce) := fun x => (HX.out x).2 3 _ rfl
  have HCU : Hid (∀ (q1 q2 q3 q4 : Bool) (x : Ext W2), Calls Tryz.prog 64 #[.agg #[.int .i64 2, .slice bn vns.length bcn, .slice bp vps.length bcp, .slice be ves.length bce], .bool q1, .bool q2, .bool q3, .bool q4] x.1 fun e w' => e = .returned (.bool (usedB (.mk 2 vns vps ves) q1 q2 q3 q4)) ∧ ∃ y : Ext W2, w' = y.1) :=
    hid fun _ _ _ _ x => ext_call x (used_any _ [.int .i64 2, .slice bn vns.length bcn, .slice bp vps.length bcp, .slice be ves.length bce] _ _ _ _ _ (valRd.below (HB.out x) _ _ HV.out))
  have HCA : Hid (∀ x : Ext W2, Calls Tryz.prog 65 #[.slice an ns.length cn, .slice bn vns.length bcn] x.1 fun e w' => e = .returned (.bool (allowedB ns vns)) ∧ ∃ y : Ext W2, w' = y.1) := hid fun x => by
    obtain ⟨_, _, _, hh, _, h3, _⟩ := (latRd_iff _ _ _).1 (latRd.below (HB.out x) _ _ HL.out)
    obtain ⟨_, _, _, gg, _, g3, _⟩ := (valRd_iff _ _ _).1 (valRd.below (HB.out x) _ _ HV.out)
    cases hh; cases gg
    exact ext_call x (allowed_any _ _ ns vns _ h3 g3)
  go_wp2_with (first | (go_at_call 64; refine (HCU.out _ _ _ _ _).mono ?_; rintro e w1 ⟨rfl, y, rfl⟩))
  all_goals
    go_ret
    exact ⟨ret_bool (by rw [HE.out] <;> (simp_all <;> (intros; omega))), HB.out _⟩
theorem elem_8_1 (lo hi' : Int) (ns : List ByteArray) (ps : List Lat) (rs : List Rl) (an ap ar : Option Addr) (cn cp cr : Nat) (vns : List ByteArray) (vps : List Val) (ves : List En) (bn bp be : Option Addr) (bcn bcp bce : Nat) (w : World)
    (HL : Hid (latRd w (.mk 8 lo hi' ns ps rs) [.int .i64 8, .int .i64 lo, .int .i64 hi', .slice an ns.length cn, .slice ap ps.length cp, .slice ar rs.length cr])) (HV : Hid (valRd w (.mk 1 vns vps ves) [.int .i64 1, .slice bn vns.length bcn, .slice bp vps.length bcp, .slice be ves.length bce])) :
    Calls Tryz.prog 37 #[.agg #[.int .i64 8, .int .i64 lo, .int .i64 hi', .slice an ns.length cn, .slice ap ps.length cp, .slice ar rs.length cr], .agg #[.int .i64 1, .slice bn vns.length bcn, .slice bp vps.length bcp, .slice be ves.length bce]] w fun e w' => e = .returned (.bool (elemB (.mk 8 lo hi' ns ps rs) (.mk 1 vns vps ves))) ∧ Below w.heap.size w w' := by
  have HE : Hid (elemB (.mk 8 lo hi' ns ps rs) (.mk 1 vns vps ves) = (usedB (.mk 1 vns vps ves) true true false false && decide (vns.length = 1) && allowedB ns vns)) := hid (by rw [elemB_eq]; rfl)
  generalize elemB (.mk 8 lo hi' ns ps rs) (.mk 1 vns vps ves) = R at HE ⊢
  have HB : Hid (∀ x : Ext ((w.alloc (.cells #[.int .i64 8, .int .i64 lo, .int .i64 hi', .slice an ns.length cn, .slice ap ps.length cp, .slice ar rs.length cr] 26)).alloc (.cells #[.int .i64 1, .slice bn vns.length bcn, .slice bp vps.length bcp, .slice be ves.length bce] 30)), Below w.heap.size w x.1) := hid fun x => (((Below.refl _ _).alloc (Nat.le_refl _) _).alloc (by simp) _).trans (x.2.mono (by simp; omega))
  have HX : Hid (∀ x : Ext ((w.alloc (.cells #[.int .i64 8, .int .i64 lo, .int .i64 hi', .slice an ns.length cn, .slice ap ps.length cp, .slice ar rs.length cr] 26)).alloc (.cells #[.int .i64 1, .slice bn vns.length bcn, .slice bp vps.length bcp, .slice be ves.length bce] 30)), (∀ (i : Nat) v, #[.int .i64 8, .int .i64 lo, .int .i64 hi', .slice an ns.length cn, .slice ap ps.length cp, .slice ar rs.length cr][i]? = some v → x.1.cell? ⟨w.heap.size, i, none⟩ = some v) ∧ (∀ (i : Nat) v, #[.int .i64 1, .slice bn vns.length bcn, .slice bp vps.length bcp, .slice be ves.length bce][i]? = some v → x.1.cell? ⟨w.heap.size + 1, i, none⟩ = some v)) :=
    hid fun x => two_boxes w #[.int .i64 8, .int .i64 lo, .int .i64 hi', .slice an ns.length cn, .slice ap ps.length cp, .slice ar rs.length cr] #[.int .i64 1, .slice bn vns.length bcn, .slice bp vps.length bcp, .slice be ves.length bce] 26 30 (x.2.mono (by simp))
  go_enter Tryz.func37, Tryz.ntmps37
  go_wp2_with fail
  generalize (w.alloc (.cells #[.int .i64 8, .int .i64 lo, .int .i64 hi', .slice an ns.length cn, .slice ap ps.length cp, .slice ar rs.length cr] 26)).alloc (.cells #[.int .i64 1, .slice bn vns.length bcn, .slice bp vps.length bcp, .slice be ves.length bce] 30) = W2 at HB HX ⊢
  obtain ⟨x0, hx⟩ := ext_self W2
  rw [hx]
  clear hx
  have l0 : ∀ x : Ext W2, x.1.cell? ⟨w.heap.size, 0, none⟩ = some (.int .i64 8) := fun x => (HX.out x).1 0 _ rfl
  have l3 : ∀ x : Ext W2, x.1.cell? ⟨w.heap.size, 3, none⟩ = some (.slice an ns.length cn) := fun x => (HX.out x).1 3 _ rfl
  have v0 : ∀ x : Ext W2, x.1.cell? ⟨w.heap.size + 1, 0, none⟩ = some (.int .i64 1) := fun x => (HX.out x).2 0 _ rfl
  have v1 : ∀ x : Ext W2, x.1.cell? ⟨w.heap.size + 1, 1, none⟩ = some (.slice bn vns.length bcn) := fun x => (HX.out x).2 1 _ rfl
  have v2 : ∀ x : Ext W2, x.1.cell? ⟨w.heap.size + 1, 2, none⟩ = some (.slice bp vps.length bcp) := fun x => (HX.out x).2 2 _ rfl
  have v3 : ∀ x : Ext W2, x.1.cell? ⟨w.heap.size + 1, 3, none⟩ = some (.slice be ves.length bce) := fun x => (HX.out x).2 3 _ rfl
  have HCU : Hid (∀ (q1 q2 q3 q4 : Bool) (x : Ext W2), Calls Tryz.prog 64 #[.agg #[.int .i64 1, .slice bn vns.length bcn, .slice bp vps.length bcp, .slice be ves.length bce], .bool q1, .bool q2, .bool q3, .bool q4] x.1 fun e w' => e = .returned (.bool (usedB (.mk 1 vns vps ves) q1 q2 q3 q4)) ∧ ∃ y : Ext W2, w' = y.1) :=
    hid fun _ _ _ _ x => ext_call x (used_any _ [.int .i64 1, .slice bn vns.length bcn, .slice bp vps.length bcp, .slice be ves.length bce] _ _ _ _ _ (valRd.below (HB.out x) _ _ HV.out))
  have HCA : Hid (∀ x : Ext W2, Calls Tryz.prog 65 #[.slice an ns.length cn, .slice bn vns.length bcn] x.1 fun e w' => e = .returned (.bool (allowedB ns vns)) ∧ ∃ y : Ext W2, w' = y.1) := hid fun x => by
    obtain ⟨_, _, _, hh, _, h3, _⟩ := (latRd_iff _ _ _).1 (latRd.below (HB.out x) _ _ HL.out)
    obtain ⟨_, _, _, gg, _, g3, _⟩ := (valRd_iff _ _ _).1 (valRd.below (HB.out x) _ _ HV.out)
    cases hh; cases gg
    exact ext_call x (allowed_any _ _ ns vns _ h3 g3)
  go_wp2_with (first | (go_at_call 64; refine (HCU.out _ _ _ _ _).mono ?_; rintro e w1 ⟨rfl, y, rfl⟩) | (go_at_call 65; refine (HCA.out _).mono ?_; rintro e w1 ⟨rfl, y, rfl⟩))
  all_goals
    go_ret
    exact ⟨ret_bool (by rw [HE.out] <;> (simp_all <;> (intros; omega))), HB.out _⟩
theorem elem_8 (lo hi' : Int) (ns : List ByteArray) (ps : List Lat) (rs : List Rl) (an ap ar : Option Addr) (cn cp cr : Nat) (vn : Int) (vns : List ByteArray) (vps : List Val) (ves : List En) (bn bp be : Option Addr) (bcn bcp bce : Nat) (w : World)
    (HL : Hid (latRd w (.mk 8 lo hi' ns ps rs) [.int .i64 8, .int .i64 lo, .int .i64 hi', .slice an ns.length cn, .slice ap ps.length cp, .slice ar rs.length cr])) (HV : Hid (valRd w (.mk vn vns vps ves) [.int .i64 vn, .slice bn vns.length bcn, .slice bp vps.length bcp, .slice be ves.length bce])) :
    Calls Tryz.prog 37 #[.agg #[.int .i64 8, .int .i64 lo, .int .i64 hi', .slice an ns.length cn, .slice ap ps.length cp, .slice ar rs.length cr], .agg #[.int .i64 vn, .slice bn vns.length bcn, .slice bp vps.length bcp, .slice be ves.length bce]] w fun e w' => e = .returned (.bool (elemB (.mk 8 lo hi' ns ps rs) (.mk vn vns vps ves))) ∧ Below w.heap.size w w' := by
  by_cases h0 : vn = 0
  · subst h0; exact elem_8_0 lo hi' ns ps rs an ap ar cn cp cr vns vps ves bn bp be bcn bcp bce w HL HV
  by_cases h2 : vn = 2
  · subst h2; exact elem_8_2 lo hi' ns ps rs an ap ar cn cp cr vns vps ves bn bp be bcn bcp bce w HL HV
  by_cases h1 : vn = 1
  · subst h1; exact elem_8_1 lo hi' ns ps rs an ap ar cn cp cr vns vps ves bn bp be bcn bcp bce w HL HV
  have HE : Hid (elemB (.mk 8 lo hi' ns ps rs) (.mk vn vns vps ves) = false) := hid (by rw [elemB_eq]; show (if vn = 0 ∨ vn = 2 then _ else if vn = 1 then _ else false) = false; rw [if_neg (by omega), if_neg h1])
  generalize elemB (.mk 8 lo hi' ns ps rs) (.mk vn vns vps ves) = R at HE ⊢
  have e0 : (vn == 0) = false := by simpa using h0
  have e1 : (vn == 1) = false := by simpa using h1
  have e2 : (vn == 2) = false := by simpa using h2
  clear h0 h1 h2
  have HB : Hid (∀ O1 O2, Below w.heap.size w ((w.alloc O1).alloc O2)) := hid fun O1 O2 => ((Below.refl _ _).alloc (Nat.le_refl _) O1).alloc (by simp) O2
  go_enter Tryz.func37, Tryz.ntmps37
  go_wp2_with fail
  go_ret
  exact ⟨ret_bool HE.out.symm, HB.out _ _⟩
theorem elem_6 (lo hi' : Int) (ns : List ByteArray) (ps : List Lat) (rs : List Rl) (an ap ar : Option Addr) (cn cp cr : Nat) (vn : Int) (vns : List ByteArray) (vps : List Val) (ves : List En) (bn bp be : Option Addr) (bcn bcp bce : Nat) (w : World)
    (HL : Hid (latRd w (.mk 6 lo hi' ns ps rs) [.int .i64 6, .int .i64 lo, .int .i64 hi', .slice an ns.length cn, .slice ap ps.length cp, .slice ar rs.length cr])) (HV : Hid (valRd w (.mk vn vns vps ves) [.int .i64 vn, .slice bn vns.length bcn, .slice bp vps.length bcp, .slice be ves.length bce]))
    (HWF : Hid (WfL (.mk 6 lo hi' ns ps rs))) (HIH : Hid (∀ p ∈ ps, ∀ (v : Val) (cl cv : List Value) (W : World), latRd W p cl → valRd W v cv → Calls Tryz.prog 37 #[.agg cl.toArray, .agg cv.toArray] W fun e w' => e = .returned (.bool (elemB p v)) ∧ Below W.heap.size W w')) :
    Calls Tryz.prog 37 #[.agg #[.int .i64 6, .int .i64 lo, .int .i64 hi', .slice an ns.length cn, .slice ap ps.length cp, .slice ar rs.length cr], .agg #[.int .i64 vn, .slice bn vns.length bcn, .slice bp vps.length bcp, .slice be ves.length bce]] w fun e w' => e = .returned (.bool (elemB (.mk 6 lo hi' ns ps rs) (.mk vn vns vps ves))) ∧ Below w.heap.size w w' := by
  have HE : Hid (elemB (.mk 6 lo hi' ns ps rs) (.mk vn vns vps ves) = (usedB (.mk vn vns vps ves) false false true false && decide (vps.length = ps.length) && elemsB ps vps)) := hid (by rw [elemB_eq]; rfl)
  generalize elemB (.mk 6 lo hi' ns ps rs) (.mk vn vns vps ves) = R at HE ⊢
  have HB : Hid (∀ x : Ext ((w.alloc (.cells #[.int .i64 6, .int .i64 lo, .int .i64 hi', .slice an ns.length cn, .slice ap ps.length cp, .slice ar rs.length cr] 26)).alloc (.cells #[.int .i64 vn, .slice bn vns.length bcn, .slice bp vps.length bcp, .slice be ves.length bce] 30)), Below w.heap.size w x.1) := hid fun x => (((Below.refl _ _).alloc (Nat.le_refl _) _).alloc (by simp) _).trans (x.2.mono (by simp; omega))
  have HX : Hid (∀ x : Ext ((w.alloc (.cells #[.int .i64 6, .int .i64 lo, .int .i64 hi', .slice an ns.length cn, .slice ap ps.length cp, .slice ar rs.length cr] 26)).alloc (.cells #[.int .i64 vn, .slice bn vns.length bcn, .slice bp vps.length bcp, .slice be ves.length bce] 30)), (∀ (i : Nat) v, #[.int .i64 6, .int .i64 lo, .int .i64 hi', .slice an ns.length cn, .slice ap ps.length cp, .slice ar rs.length cr][i]? = some v → x.1.cell? ⟨w.heap.size, i, none⟩ = some v) ∧ (∀ (i : Nat) v, #[.int .i64 vn, .slice bn vns.length bcn, .slice bp vps.length bcp, .slice be ves.length bce][i]? = some v → x.1.cell? ⟨w.heap.size + 1, i, none⟩ = some v)) :=
    hid fun x => two_boxes w #[.int .i64 6, .int .i64 lo, .int .i64 hi', .slice an ns.length cn, .slice ap ps.length cp, .slice ar rs.length cr] #[.int .i64 vn, .slice bn vns.length bcn, .slice bp vps.length bcp, .slice be ves.length bce] 26 30 (x.2.mono (by simp))
  have HVP : Hid (SlRd w 4 (valRd w) (.slice bp vps.length bcp) vps) := hid (by obtain ⟨_, _, _, gg, _, _, g4, _⟩ := (valRd_iff _ _ _).1 HV.out; cases gg; exact g4)
  have HLPS : Hid (SlRd w 6 (latRd w) (.slice ap ps.length cp) ps) := hid (by obtain ⟨_, _, _, hh, _, _, h4, _⟩ := (latRd_iff _ _ _).1 HL.out; cases hh; exact h4)
  have HVM : Hid (vps.length ≤ 9223372036854775807) := hid (by obtain ⟨_, _, _, _, h⟩ := HVP.out.shape; exact h)
  go_enter Tryz.func37, Tryz.ntmps37
  go_wp2_with fail
  generalize (w.alloc (.cells #[.int .i64 6, .int .i64 lo, .int .i64 hi', .slice an ns.length cn, .slice ap ps.length cp, .slice ar rs.length cr] 26)).alloc (.cells #[.int .i64 vn, .slice bn vns.length bcn, .slice bp vps.length bcp, .slice be ves.length bce] 30) = W2 at HB HX ⊢
  obtain ⟨x0, hx⟩ := ext_self W2
  rw [hx]
  clear hx
  have l0 : ∀ x : Ext W2, x.1.cell? ⟨w.heap.size, 0, none⟩ = some (.int .i64 6) := fun x => (HX.out x).1 0 _ rfl
  have l4 : ∀ x : Ext W2, x.1.cell? ⟨w.heap.size, 4, none⟩ = some (.slice ap ps.length cp) := fun x => (HX.out x).1 4 _ rfl
  have v0 : ∀ x : Ext W2, x.1.cell? ⟨w.heap.size + 1, 0, none⟩ = some (.int .i64 vn) := fun x => (HX.out x).2 0 _ rfl
  have v1 : ∀ x : Ext W2, x.1.cell? ⟨w.heap.size + 1, 1, none⟩ = some (.slice bn vns.length bcn) := fun x => (HX.out x).2 1 _ rfl
  have v2 : ∀ x : Ext W2, x.1.cell? ⟨w.heap.size + 1, 2, none⟩ = some (.slice bp vps.length bcp) := fun x => (HX.out x).2 2 _ rfl
  have v3 : ∀ x : Ext W2, x.1.cell? ⟨w.heap.size + 1, 3, none⟩ = some (.slice be ves.length bce) := fun x => (HX.out x).2 3 _ rfl
  have HCU : Hid (∀ (q1 q2 q3 q4 : Bool) (x : Ext W2), Calls Tryz.prog 64 #[.agg #[.int .i64 vn, .slice bn vns.length bcn, .slice bp vps.length bcp, .slice be ves.length bce], .bool q1, .bool q2, .bool q3, .bool q4] x.1 fun e w' => e = .returned (.bool (usedB (.mk vn vns vps ves) q1 q2 q3 q4)) ∧ ∃ y : Ext W2, w' = y.1) :=
    hid fun _ _ _ _ x => ext_call x (used_any _ [.int .i64 vn, .slice bn vns.length bcn, .slice bp vps.length bcp, .slice be ves.length bce] _ _ _ _ _ (valRd.below (HB.out x) _ _ HV.out))
  cases hu : usedB (.mk vn vns vps ves) false false true false
  · have HCU2 : Hid (∀ x : Ext W2, Calls Tryz.prog 64 #[.agg #[.int .i64 vn, .slice bn vns.length bcn, .slice bp vps.length bcp, .slice be ves.length bce], .bool false, .bool false, .bool true, .bool false] x.1 fun e w' => e = .returned (.bool false) ∧ ∃ y : Ext W2, w' = y.1) := hid fun x => by have := HCU.out false false true false x; rw [hu] at this; exact this
    have HF : Hid (R = false) := hid (by rw [HE.out, hu]; rfl)
    clear hu
    go_wp2_with (go_at_call 64; refine (HCU2.out _).mono ?_; rintro e w1 ⟨rfl, y, rfl⟩)
    go_ret
    exact ⟨ret_bool HF.out.symm, HB.out _⟩
  have HCU2 : Hid (∀ x : Ext W2, Calls Tryz.prog 64 #[.agg #[.int .i64 vn, .slice bn vns.length bcn, .slice bp vps.length bcp, .slice be ves.length bce], .bool false, .bool false, .bool true, .bool false] x.1 fun e w' => e = .returned (.bool true) ∧ ∃ y : Ext W2, w' = y.1) := hid fun x => by have := HCU.out false false true false x; rw [hu] at this; exact this
  by_cases hlen : vps.length = ps.length
  · have HD : Hid (R = elemsB (ps.drop 0) (vps.drop 0)) := hid (by rw [HE.out, hu, decide_eq_true hlen]; rfl)
    have HLEN := hid hlen
    have hlb : ((vps.length : Int) != (ps.length : Int)) = false := by simp [hlen]
    have hvm := HVM.out
    clear hu hlen
    go_wp2_with (go_at_call 64; refine (HCU2.out _).mono ?_; rintro e w1 ⟨rfl, y, rfl⟩)
    clear v0 v1 v2 v3 l0
    go_loopw [7, 8, 169] (fun _ _ i wr => ∃ (j : Nat) (x : Ext W2), j ≤ vps.length ∧ i = .int .i64 j ∧ wr = x.1 ∧ Hid (R = elemsB (ps.drop j) (vps.drop j))) (fun _ _ i _ => vps.length - (intOf i).toNat)
    case atStart => exact ⟨0, _, Nat.zero_le _, rfl, rfl, HD⟩
    case round =>
      obtain ⟨j, x, hj, rfl, rfl, He⟩ := hrel
      by_cases hlt : j < vps.length
      · have hil : j < ps.length := by have := HLEN.out; omega
        have HDJ : Hid (R = (elemB ps[j] vps[j] && elemsB (ps.drop (j + 1)) (vps.drop (j + 1)))) := hid (by rw [He.out, drop_consS ps j hil, drop_consS vps j hlt, elemsB])
        obtain ⟨pb, po, pcs, hpb, _, pcell, prd⟩ := (HVP.out).at j hlt
        subst hpb
        have HPR := hid prd
        obtain ⟨qn, qp, qe, rfl, _, pn, pp, pe⟩ := (valRd_iff _ _ _).1 prd
        obtain ⟨en, ecn, rfl, _, _⟩ := pn.shape
        obtain ⟨ep, ecp, rfl, _, _⟩ := pp.shape
        obtain ⟨ee, ece, rfl, _, _⟩ := pe.shape
        have r0 : x.1.cell? ⟨pb, po + j * 4, none⟩ = some (.int .i64 vps[j].n) := (pcell.below (HB.out x)) 0 (by simp)
        have r1 : x.1.cell? ⟨pb, po + j * 4 + 1, none⟩ = some (.slice en vps[j].names.length ecn) := (pcell.below (HB.out x)) 1 (by simp)
        have r2 : x.1.cell? ⟨pb, po + j * 4 + 2, none⟩ = some (.slice ep vps[j].parts.length ecp) := (pcell.below (HB.out x)) 2 (by simp)
        have r3 : x.1.cell? ⟨pb, po + j * 4 + 3, none⟩ = some (.slice ee vps[j].entries.length ece) := (pcell.below (HB.out x)) 3 (by simp)
        clear prd pn pp pe pcell
        obtain ⟨lb, lo2, lcs, hlb, _, lcell, lrd⟩ := (HLPS.out).at j hil
        subst hlb
        have HLR := hid lrd
        obtain ⟨kn, kp, kr, rfl, _, ln, lp, lr⟩ := (latRd_iff _ _ _).1 lrd
        obtain ⟨dn, dcn, rfl, _, _⟩ := ln.shape
        obtain ⟨dp, dcp, rfl, _, _⟩ := lp.shape
        obtain ⟨dr, dcr, rfl, _, _⟩ := lr.shape
        have HLC : Hid (∀ z : World, Below w.heap.size w z → z.cell? ⟨lb, lo2 + j * 6, none⟩ = some (.int .i64 ps[j].kind) ∧ z.cell? ⟨lb, lo2 + j * 6 + 1, none⟩ = some (.int .i64 ps[j].lo) ∧ z.cell? ⟨lb, lo2 + j * 6 + 2, none⟩ = some (.int .i64 ps[j].hi) ∧ z.cell? ⟨lb, lo2 + j * 6 + 3, none⟩ = some (.slice dn ps[j].names.length dcn) ∧ z.cell? ⟨lb, lo2 + j * 6 + 4, none⟩ = some (.slice dp ps[j].parts.length dcp) ∧ z.cell? ⟨lb, lo2 + j * 6 + 5, none⟩ = some (.slice dr ps[j].rules.length dcr)) := hid fun z hz => by have := (lcell.below hz).six; simpa using this
        clear lrd ln lp lr lcell
        have hji : (j : Int) < (ps.length : Int) := by omega
        have hj0 : (0 : Int) ≤ (j : Int) := by omega
        go_wp2_with fail
        have HBB : Hid (∀ y : Ext (x.1.alloc (.cells #[.int .i64 vps[j].n, .slice en vps[j].names.length ecn, .slice ep vps[j].parts.length ecp, .slice ee vps[j].entries.length ece] 30)), Below w.heap.size w y.1) := hid fun y => ((HB.out x).alloc (HB.out x).size _).trans (y.2.mono (by have := (HB.out x).size; simp; omega))
        have HPB : Hid (∀ y : Ext (x.1.alloc (.cells #[.int .i64 vps[j].n, .slice en vps[j].names.length ecn, .slice ep vps[j].parts.length ecp, .slice ee vps[j].entries.length ece] 30)), ∀ (i : Nat) v, #[.int .i64 vps[j].n, .slice en vps[j].names.length ecn, .slice ep vps[j].parts.length ecp, .slice ee vps[j].entries.length ece][i]? = some v → y.1.cell? ⟨x.1.heap.size, i, none⟩ = some v) := hid fun y i v hv => y.cell (by rw [World.cell?_alloc_at _ _ _ _ rfl]; exact hv)
        have HUP : Hid (∀ y : Ext (x.1.alloc (.cells #[.int .i64 vps[j].n, .slice en vps[j].names.length ecn, .slice ep vps[j].parts.length ecp, .slice ee vps[j].entries.length ece] 30)), ∃ x' : Ext W2, y.1 = x'.1) := hid fun y => ⟨⟨y.1, (x.2.alloc x.2.size _).trans (y.2.mono (by have := x.2.size; simp; omega))⟩, rfl⟩
        generalize x.1.heap.size = NB at HPB ⊢
        generalize x.1.alloc (.cells #[.int .i64 vps[j].n, .slice en vps[j].names.length ecn, .slice ep vps[j].parts.length ecp, .slice ee vps[j].entries.length ece] 30) = WB at HBB HPB HUP ⊢
        have l4b : ∀ y : Ext WB, y.1.cell? ⟨w.heap.size, 4, none⟩ = some (.slice (some ⟨lb, lo2, none⟩) ps.length cp) := fun y => by obtain ⟨x', h⟩ := HUP.out y; rw [h]; exact l4 x'
        have p0 : ∀ y : Ext WB, y.1.cell? ⟨NB, 0, none⟩ = some (.int .i64 vps[j].n) := fun y => (HPB.out y) 0 _ rfl
        have p1 : ∀ y : Ext WB, y.1.cell? ⟨NB, 1, none⟩ = some (.slice en vps[j].names.length ecn) := fun y => (HPB.out y) 1 _ rfl
        have p2 : ∀ y : Ext WB, y.1.cell? ⟨NB, 2, none⟩ = some (.slice ep vps[j].parts.length ecp) := fun y => (HPB.out y) 2 _ rfl
        have p3 : ∀ y : Ext WB, y.1.cell? ⟨NB, 3, none⟩ = some (.slice ee vps[j].entries.length ece) := fun y => (HPB.out y) 3 _ rfl
        have k0 : ∀ y : Ext WB, y.1.cell? ⟨lb, lo2 + j * 6, none⟩ = some (.int .i64 ps[j].kind) := fun y => (HLC.out _ (HBB.out y)).1
        have k1 : ∀ y : Ext WB, y.1.cell? ⟨lb, lo2 + j * 6 + 1, none⟩ = some (.int .i64 ps[j].lo) := fun y => (HLC.out _ (HBB.out y)).2.1
        have k2 : ∀ y : Ext WB, y.1.cell? ⟨lb, lo2 + j * 6 + 2, none⟩ = some (.int .i64 ps[j].hi) := fun y => (HLC.out _ (HBB.out y)).2.2.1
        have k3 : ∀ y : Ext WB, y.1.cell? ⟨lb, lo2 + j * 6 + 3, none⟩ = some (.slice dn ps[j].names.length dcn) := fun y => (HLC.out _ (HBB.out y)).2.2.2.1
        have k4 : ∀ y : Ext WB, y.1.cell? ⟨lb, lo2 + j * 6 + 4, none⟩ = some (.slice dp ps[j].parts.length dcp) := fun y => (HLC.out _ (HBB.out y)).2.2.2.2.1
        have k5 : ∀ y : Ext WB, y.1.cell? ⟨lb, lo2 + j * 6 + 5, none⟩ = some (.slice dr ps[j].rules.length dcr) := fun y => (HLC.out _ (HBB.out y)).2.2.2.2.2
        have HEL : Hid (∀ y : Ext WB, Calls Tryz.prog 37 #[.agg #[.int .i64 ps[j].kind, .int .i64 ps[j].lo, .int .i64 ps[j].hi, .slice dn ps[j].names.length dcn, .slice dp ps[j].parts.length dcp, .slice dr ps[j].rules.length dcr], .agg #[.int .i64 vps[j].n, .slice en vps[j].names.length ecn, .slice ep vps[j].parts.length ecp, .slice ee vps[j].entries.length ece]] y.1 fun e w' => e = .returned (.bool (elemB ps[j] vps[j])) ∧ ∃ z : Ext WB, w' = z.1) := hid fun y => ext_call y (HIH.out _ (List.getElem_mem hil) vps[j] [.int .i64 ps[j].kind, .int .i64 ps[j].lo, .int .i64 ps[j].hi, .slice dn ps[j].names.length dcn, .slice dp ps[j].parts.length dcp, .slice dr ps[j].rules.length dcr] [.int .i64 vps[j].n, .slice en vps[j].names.length ecn, .slice ep vps[j].parts.length ecp, .slice ee vps[j].entries.length ece] _ (latRd.below (HBB.out y) _ _ HLR.out) (valRd.below (HBB.out y) _ _ HPR.out))
        cases hel : elemB ps[j] vps[j]
        · have HEL2 : Hid (∀ y : Ext WB, Calls Tryz.prog 37 #[.agg #[.int .i64 ps[j].kind, .int .i64 ps[j].lo, .int .i64 ps[j].hi, .slice dn ps[j].names.length dcn, .slice dp ps[j].parts.length dcp, .slice dr ps[j].rules.length dcr], .agg #[.int .i64 vps[j].n, .slice en vps[j].names.length ecn, .slice ep vps[j].parts.length ecp, .slice ee vps[j].entries.length ece]] y.1 fun e w' => e = .returned (.bool false) ∧ ∃ z : Ext WB, w' = z.1) := hid fun y => by have := HEL.out y; rw [hel] at this; exact this
          have HF : Hid (R = false) := hid (by rw [HDJ.out, hel]; rfl)
          clear hel
          refine wp_region_ext (by kernel_rfl) (by kernel_rfl) ?_
          repeat (go_big_quiet_step ((go_at_call 37; exact HEL2.out _)))
          refine wpQuiet_nil ?_
          rintro _ ⟨z, rfl⟩
          obtain ⟨x', hx'⟩ := HUP.out z
          rw [hx']
          clear hx' p0 p1 p2 p3 k0 k1 k2 k3 k4 k5 l4b
          go_wp2_with fail
          go_ret
          exact ⟨ret_bool HF.out.symm, HB.out _⟩
        · have HEL2 : Hid (∀ y : Ext WB, Calls Tryz.prog 37 #[.agg #[.int .i64 ps[j].kind, .int .i64 ps[j].lo, .int .i64 ps[j].hi, .slice dn ps[j].names.length dcn, .slice dp ps[j].parts.length dcp, .slice dr ps[j].rules.length dcr], .agg #[.int .i64 vps[j].n, .slice en vps[j].names.length ecn, .slice ep vps[j].parts.length ecp, .slice ee vps[j].entries.length ece]] y.1 fun e w' => e = .returned (.bool true) ∧ ∃ z : Ext WB, w' = z.1) := hid fun y => by have := HEL.out y; rw [hel] at this; exact this
          have HF : Hid (R = elemsB (ps.drop (j + 1)) (vps.drop (j + 1))) := hid (by rw [HDJ.out, hel]; rfl)
          clear hel
          refine wp_region_ext (by kernel_rfl) (by kernel_rfl) ?_
          repeat (go_big_quiet_step ((go_at_call 37; exact HEL2.out _)))
          refine wpQuiet_nil ?_
          rintro _ ⟨z, rfl⟩
          obtain ⟨x', hx'⟩ := HUP.out z
          rw [hx']
          clear hx' p0 p1 p2 p3 k0 k1 k2 k3 k4 k5 l4b
          go_wp2_with fail
          go_roundw
          case rel => exact ⟨j + 1, x', by omega, by go_num, rfl, HF⟩
          case measure => simp [intOf]; omega
      · have HF : Hid (R = true) := hid (by rw [He.out, show vps.drop j = [] from List.drop_eq_nil_of_le (by omega), show ps.drop j = [] from List.drop_eq_nil_of_le (by have := HLEN.out; omega), elemsB])
        go_wp2_with fail
        go_ret
        exact ⟨ret_bool HF.out.symm, HB.out _⟩
  · have HF : Hid (R = false) := hid (by rw [HE.out, decide_eq_false hlen, Bool.and_false, Bool.false_and])
    have hlb : ((vps.length : Int) != (ps.length : Int)) = true := by simp; omega
    clear hu hlen
    go_wp2_with (go_at_call 64; refine (HCU2.out _).mono ?_; rintro e w1 ⟨rfl, y, rfl⟩)
    go_ret
    exact ⟨ret_bool HF.out.symm, HB.out _⟩
theorem elem_7 (lo hi' : Int) (ns : List ByteArray) (ps : List Lat) (rs : List Rl) (an ap ar : Option Addr) (cn cp cr : Nat) (vn : Int) (vns : List ByteArray) (vps : List Val) (ves : List En) (bn bp be : Option Addr) (bcn bcp bce : Nat) (w : World)
    (HL : Hid (latRd w (.mk 7 lo hi' ns ps rs) [.int .i64 7, .int .i64 lo, .int .i64 hi', .slice an ns.length cn, .slice ap ps.length cp, .slice ar rs.length cr])) (HV : Hid (valRd w (.mk vn vns vps ves) [.int .i64 vn, .slice bn vns.length bcn, .slice bp vps.length bcp, .slice be ves.length bce]))
    (HWF : Hid (WfL (.mk 7 lo hi' ns ps rs))) (HIH : Hid (∀ p ∈ ps, ∀ (v : Val) (cl cv : List Value) (W : World), latRd W p cl → valRd W v cv → Calls Tryz.prog 37 #[.agg cl.toArray, .agg cv.toArray] W fun e w' => e = .returned (.bool (elemB p v)) ∧ Below W.heap.size W w')) :
    Calls Tryz.prog 37 #[.agg #[.int .i64 7, .int .i64 lo, .int .i64 hi', .slice an ns.length cn, .slice ap ps.length cp, .slice ar rs.length cr], .agg #[.int .i64 vn, .slice bn vns.length bcn, .slice bp vps.length bcp, .slice be ves.length bce]] w fun e w' => e = .returned (.bool (elemB (.mk 7 lo hi' ns ps rs) (.mk vn vns vps ves))) ∧ Below w.heap.size w w' := by
  have HE : Hid (elemB (.mk 7 lo hi' ns ps rs) (.mk vn vns vps ves) = (usedB (.mk vn vns vps ves) false false true false && decide (vps.length = ps.length) && elemsB ps vps)) := hid (by rw [elemB_eq]; rfl)
  generalize elemB (.mk 7 lo hi' ns ps rs) (.mk vn vns vps ves) = R at HE ⊢
  have HB : Hid (∀ x : Ext ((w.alloc (.cells #[.int .i64 7, .int .i64 lo, .int .i64 hi', .slice an ns.length cn, .slice ap ps.length cp, .slice ar rs.length cr] 26)).alloc (.cells #[.int .i64 vn, .slice bn vns.length bcn, .slice bp vps.length bcp, .slice be ves.length bce] 30)), Below w.heap.size w x.1) := hid fun x => (((Below.refl _ _).alloc (Nat.le_refl _) _).alloc (by simp) _).trans (x.2.mono (by simp; omega))
  have HX : Hid (∀ x : Ext ((w.alloc (.cells #[.int .i64 7, .int .i64 lo, .int .i64 hi', .slice an ns.length cn, .slice ap ps.length cp, .slice ar rs.length cr] 26)).alloc (.cells #[.int .i64 vn, .slice bn vns.length bcn, .slice bp vps.length bcp, .slice be ves.length bce] 30)), (∀ (i : Nat) v, #[.int .i64 7, .int .i64 lo, .int .i64 hi', .slice an ns.length cn, .slice ap ps.length cp, .slice ar rs.length cr][i]? = some v → x.1.cell? ⟨w.heap.size, i, none⟩ = some v) ∧ (∀ (i : Nat) v, #[.int .i64 vn, .slice bn vns.length bcn, .slice bp vps.length bcp, .slice be ves.length bce][i]? = some v → x.1.cell? ⟨w.heap.size + 1, i, none⟩ = some v)) :=
    hid fun x => two_boxes w #[.int .i64 7, .int .i64 lo, .int .i64 hi', .slice an ns.length cn, .slice ap ps.length cp, .slice ar rs.length cr] #[.int .i64 vn, .slice bn vns.length bcn, .slice bp vps.length bcp, .slice be ves.length bce] 26 30 (x.2.mono (by simp))
  have HVP : Hid (SlRd w 4 (valRd w) (.slice bp vps.length bcp) vps) := hid (by obtain ⟨_, _, _, gg, _, _, g4, _⟩ := (valRd_iff _ _ _).1 HV.out; cases gg; exact g4)
  have HLPS : Hid (SlRd w 6 (latRd w) (.slice ap ps.length cp) ps) := hid (by obtain ⟨_, _, _, hh, _, _, h4, _⟩ := (latRd_iff _ _ _).1 HL.out; cases hh; exact h4)
  have HVM : Hid (vps.length ≤ 9223372036854775807) := hid (by obtain ⟨_, _, _, _, h⟩ := HVP.out.shape; exact h)
  go_enter Tryz.func37, Tryz.ntmps37
  go_wp2_with fail
  generalize (w.alloc (.cells #[.int .i64 7, .int .i64 lo, .int .i64 hi', .slice an ns.length cn, .slice ap ps.length cp, .slice ar rs.length cr] 26)).alloc (.cells #[.int .i64 vn, .slice bn vns.length bcn, .slice bp vps.length bcp, .slice be ves.length bce] 30) = W2 at HB HX ⊢
  obtain ⟨x0, hx⟩ := ext_self W2
  rw [hx]
  clear hx
  have l0 : ∀ x : Ext W2, x.1.cell? ⟨w.heap.size, 0, none⟩ = some (.int .i64 7) := fun x => (HX.out x).1 0 _ rfl
  have l4 : ∀ x : Ext W2, x.1.cell? ⟨w.heap.size, 4, none⟩ = some (.slice ap ps.length cp) := fun x => (HX.out x).1 4 _ rfl
  have v0 : ∀ x : Ext W2, x.1.cell? ⟨w.heap.size + 1, 0, none⟩ = some (.int .i64 vn) := fun x => (HX.out x).2 0 _ rfl
  have v1 : ∀ x : Ext W2, x.1.cell? ⟨w.heap.size + 1, 1, none⟩ = some (.slice bn vns.length bcn) := fun x => (HX.out x).2 1 _ rfl
  have v2 : ∀ x : Ext W2, x.1.cell? ⟨w.heap.size + 1, 2, none⟩ = some (.slice bp vps.length bcp) := fun x => (HX.out x).2 2 _ rfl
  have v3 : ∀ x : Ext W2, x.1.cell? ⟨w.heap.size + 1, 3, none⟩ = some (.slice be ves.length bce) := fun x => (HX.out x).2 3 _ rfl
  have HCU : Hid (∀ (q1 q2 q3 q4 : Bool) (x : Ext W2), Calls Tryz.prog 64 #[.agg #[.int .i64 vn, .slice bn vns.length bcn, .slice bp vps.length bcp, .slice be ves.length bce], .bool q1, .bool q2, .bool q3, .bool q4] x.1 fun e w' => e = .returned (.bool (usedB (.mk vn vns vps ves) q1 q2 q3 q4)) ∧ ∃ y : Ext W2, w' = y.1) :=
    hid fun _ _ _ _ x => ext_call x (used_any _ [.int .i64 vn, .slice bn vns.length bcn, .slice bp vps.length bcp, .slice be ves.length bce] _ _ _ _ _ (valRd.below (HB.out x) _ _ HV.out))
  cases hu : usedB (.mk vn vns vps ves) false false true false
  · have HCU2 : Hid (∀ x : Ext W2, Calls Tryz.prog 64 #[.agg #[.int .i64 vn, .slice bn vns.length bcn, .slice bp vps.length bcp, .slice be ves.length bce], .bool false, .bool false, .bool true, .bool false] x.1 fun e w' => e = .returned (.bool false) ∧ ∃ y : Ext W2, w' = y.1) := hid fun x => by have := HCU.out false false true false x; rw [hu] at this; exact this
    have HF : Hid (R = false) := hid (by rw [HE.out, hu]; rfl)
    clear hu
    go_wp2_with (go_at_call 64; refine (HCU2.out _).mono ?_; rintro e w1 ⟨rfl, y, rfl⟩)
    go_ret
    exact ⟨ret_bool HF.out.symm, HB.out _⟩
  have HCU2 : Hid (∀ x : Ext W2, Calls Tryz.prog 64 #[.agg #[.int .i64 vn, .slice bn vns.length bcn, .slice bp vps.length bcp, .slice be ves.length bce], .bool false, .bool false, .bool true, .bool false] x.1 fun e w' => e = .returned (.bool true) ∧ ∃ y : Ext W2, w' = y.1) := hid fun x => by have := HCU.out false false true false x; rw [hu] at this; exact this
  by_cases hlen : vps.length = ps.length
  · have HD : Hid (R = elemsB (ps.drop 0) (vps.drop 0)) := hid (by rw [HE.out, hu, decide_eq_true hlen]; rfl)
    have HLEN := hid hlen
    have hlb : ((vps.length : Int) != (ps.length : Int)) = false := by simp [hlen]
    have hvm := HVM.out
    clear hu hlen
    go_wp2_with (go_at_call 64; refine (HCU2.out _).mono ?_; rintro e w1 ⟨rfl, y, rfl⟩)
    clear v0 v1 v2 v3 l0
    go_loopw [7, 8, 169] (fun _ _ i wr => ∃ (j : Nat) (x : Ext W2), j ≤ vps.length ∧ i = .int .i64 j ∧ wr = x.1 ∧ Hid (R = elemsB (ps.drop j) (vps.drop j))) (fun _ _ i _ => vps.length - (intOf i).toNat)
    case atStart => exact ⟨0, _, Nat.zero_le _, rfl, rfl, HD⟩
    case round =>
      obtain ⟨j, x, hj, rfl, rfl, He⟩ := hrel
      by_cases hlt : j < vps.length
      · have hil : j < ps.length := by have := HLEN.out; omega
        have HDJ : Hid (R = (elemB ps[j] vps[j] && elemsB (ps.drop (j + 1)) (vps.drop (j + 1)))) := hid (by rw [He.out, drop_consS ps j hil, drop_consS vps j hlt, elemsB])
        obtain ⟨pb, po, pcs, hpb, _, pcell, prd⟩ := (HVP.out).at j hlt
        subst hpb
        have HPR := hid prd
        obtain ⟨qn, qp, qe, rfl, _, pn, pp, pe⟩ := (valRd_iff _ _ _).1 prd
        obtain ⟨en, ecn, rfl, _, _⟩ := pn.shape
        obtain ⟨ep, ecp, rfl, _, _⟩ := pp.shape
        obtain ⟨ee, ece, rfl, _, _⟩ := pe.shape
        have r0 : x.1.cell? ⟨pb, po + j * 4, none⟩ = some (.int .i64 vps[j].n) := (pcell.below (HB.out x)) 0 (by simp)
        have r1 : x.1.cell? ⟨pb, po + j * 4 + 1, none⟩ = some (.slice en vps[j].names.length ecn) := (pcell.below (HB.out x)) 1 (by simp)
        have r2 : x.1.cell? ⟨pb, po + j * 4 + 2, none⟩ = some (.slice ep vps[j].parts.length ecp) := (pcell.below (HB.out x)) 2 (by simp)
        have r3 : x.1.cell? ⟨pb, po + j * 4 + 3, none⟩ = some (.slice ee vps[j].entries.length ece) := (pcell.below (HB.out x)) 3 (by simp)
        clear prd pn pp pe pcell
        obtain ⟨lb, lo2, lcs, hlb, _, lcell, lrd⟩ := (HLPS.out).at j hil
        subst hlb
        have HLR := hid lrd
        obtain ⟨kn, kp, kr, rfl, _, ln, lp, lr⟩ := (latRd_iff _ _ _).1 lrd
        obtain ⟨dn, dcn, rfl, _, _⟩ := ln.shape
        obtain ⟨dp, dcp, rfl, _, _⟩ := lp.shape
        obtain ⟨dr, dcr, rfl, _, _⟩ := lr.shape
        have HLC : Hid (∀ z : World, Below w.heap.size w z → z.cell? ⟨lb, lo2 + j * 6, none⟩ = some (.int .i64 ps[j].kind) ∧ z.cell? ⟨lb, lo2 + j * 6 + 1, none⟩ = some (.int .i64 ps[j].lo) ∧ z.cell? ⟨lb, lo2 + j * 6 + 2, none⟩ = some (.int .i64 ps[j].hi) ∧ z.cell? ⟨lb, lo2 + j * 6 + 3, none⟩ = some (.slice dn ps[j].names.length dcn) ∧ z.cell? ⟨lb, lo2 + j * 6 + 4, none⟩ = some (.slice dp ps[j].parts.length dcp) ∧ z.cell? ⟨lb, lo2 + j * 6 + 5, none⟩ = some (.slice dr ps[j].rules.length dcr)) := hid fun z hz => by have := (lcell.below hz).six; simpa using this
        clear lrd ln lp lr lcell
        have hji : (j : Int) < (ps.length : Int) := by omega
        have hj0 : (0 : Int) ≤ (j : Int) := by omega
        go_wp2_with fail
        have HBB : Hid (∀ y : Ext (x.1.alloc (.cells #[.int .i64 vps[j].n, .slice en vps[j].names.length ecn, .slice ep vps[j].parts.length ecp, .slice ee vps[j].entries.length ece] 30)), Below w.heap.size w y.1) := hid fun y => ((HB.out x).alloc (HB.out x).size _).trans (y.2.mono (by have := (HB.out x).size; simp; omega))
        have HPB : Hid (∀ y : Ext (x.1.alloc (.cells #[.int .i64 vps[j].n, .slice en vps[j].names.length ecn, .slice ep vps[j].parts.length ecp, .slice ee vps[j].entries.length ece] 30)), ∀ (i : Nat) v, #[.int .i64 vps[j].n, .slice en vps[j].names.length ecn, .slice ep vps[j].parts.length ecp, .slice ee vps[j].entries.length ece][i]? = some v → y.1.cell? ⟨x.1.heap.size, i, none⟩ = some v) := hid fun y i v hv => y.cell (by rw [World.cell?_alloc_at _ _ _ _ rfl]; exact hv)
        have HUP : Hid (∀ y : Ext (x.1.alloc (.cells #[.int .i64 vps[j].n, .slice en vps[j].names.length ecn, .slice ep vps[j].parts.length ecp, .slice ee vps[j].entries.length ece] 30)), ∃ x' : Ext W2, y.1 = x'.1) := hid fun y => ⟨⟨y.1, (x.2.alloc x.2.size _).trans (y.2.mono (by have := x.2.size; simp; omega))⟩, rfl⟩
        generalize x.1.heap.size = NB at HPB ⊢
        generalize x.1.alloc (.cells #[.int .i64 vps[j].n, .slice en vps[j].names.length ecn, .slice ep vps[j].parts.length ecp, .slice ee vps[j].entries.length ece] 30) = WB at HBB HPB HUP ⊢
        have l4b : ∀ y : Ext WB, y.1.cell? ⟨w.heap.size, 4, none⟩ = some (.slice (some ⟨lb, lo2, none⟩) ps.length cp) := fun y => by obtain ⟨x', h⟩ := HUP.out y; rw [h]; exact l4 x'
        have p0 : ∀ y : Ext WB, y.1.cell? ⟨NB, 0, none⟩ = some (.int .i64 vps[j].n) := fun y => (HPB.out y) 0 _ rfl
        have p1 : ∀ y : Ext WB, y.1.cell? ⟨NB, 1, none⟩ = some (.slice en vps[j].names.length ecn) := fun y => (HPB.out y) 1 _ rfl
        have p2 : ∀ y : Ext WB, y.1.cell? ⟨NB, 2, none⟩ = some (.slice ep vps[j].parts.length ecp) := fun y => (HPB.out y) 2 _ rfl
        have p3 : ∀ y : Ext WB, y.1.cell? ⟨NB, 3, none⟩ = some (.slice ee vps[j].entries.length ece) := fun y => (HPB.out y) 3 _ rfl
        have k0 : ∀ y : Ext WB, y.1.cell? ⟨lb, lo2 + j * 6, none⟩ = some (.int .i64 ps[j].kind) := fun y => (HLC.out _ (HBB.out y)).1
        have k1 : ∀ y : Ext WB, y.1.cell? ⟨lb, lo2 + j * 6 + 1, none⟩ = some (.int .i64 ps[j].lo) := fun y => (HLC.out _ (HBB.out y)).2.1
        have k2 : ∀ y : Ext WB, y.1.cell? ⟨lb, lo2 + j * 6 + 2, none⟩ = some (.int .i64 ps[j].hi) := fun y => (HLC.out _ (HBB.out y)).2.2.1
        have k3 : ∀ y : Ext WB, y.1.cell? ⟨lb, lo2 + j * 6 + 3, none⟩ = some (.slice dn ps[j].names.length dcn) := fun y => (HLC.out _ (HBB.out y)).2.2.2.1
        have k4 : ∀ y : Ext WB, y.1.cell? ⟨lb, lo2 + j * 6 + 4, none⟩ = some (.slice dp ps[j].parts.length dcp) := fun y => (HLC.out _ (HBB.out y)).2.2.2.2.1
        have k5 : ∀ y : Ext WB, y.1.cell? ⟨lb, lo2 + j * 6 + 5, none⟩ = some (.slice dr ps[j].rules.length dcr) := fun y => (HLC.out _ (HBB.out y)).2.2.2.2.2
        have HEL : Hid (∀ y : Ext WB, Calls Tryz.prog 37 #[.agg #[.int .i64 ps[j].kind, .int .i64 ps[j].lo, .int .i64 ps[j].hi, .slice dn ps[j].names.length dcn, .slice dp ps[j].parts.length dcp, .slice dr ps[j].rules.length dcr], .agg #[.int .i64 vps[j].n, .slice en vps[j].names.length ecn, .slice ep vps[j].parts.length ecp, .slice ee vps[j].entries.length ece]] y.1 fun e w' => e = .returned (.bool (elemB ps[j] vps[j])) ∧ ∃ z : Ext WB, w' = z.1) := hid fun y => ext_call y (HIH.out _ (List.getElem_mem hil) vps[j] [.int .i64 ps[j].kind, .int .i64 ps[j].lo, .int .i64 ps[j].hi, .slice dn ps[j].names.length dcn, .slice dp ps[j].parts.length dcp, .slice dr ps[j].rules.length dcr] [.int .i64 vps[j].n, .slice en vps[j].names.length ecn, .slice ep vps[j].parts.length ecp, .slice ee vps[j].entries.length ece] _ (latRd.below (HBB.out y) _ _ HLR.out) (valRd.below (HBB.out y) _ _ HPR.out))
        cases hel : elemB ps[j] vps[j]
        · have HEL2 : Hid (∀ y : Ext WB, Calls Tryz.prog 37 #[.agg #[.int .i64 ps[j].kind, .int .i64 ps[j].lo, .int .i64 ps[j].hi, .slice dn ps[j].names.length dcn, .slice dp ps[j].parts.length dcp, .slice dr ps[j].rules.length dcr], .agg #[.int .i64 vps[j].n, .slice en vps[j].names.length ecn, .slice ep vps[j].parts.length ecp, .slice ee vps[j].entries.length ece]] y.1 fun e w' => e = .returned (.bool false) ∧ ∃ z : Ext WB, w' = z.1) := hid fun y => by have := HEL.out y; rw [hel] at this; exact this
          have HF : Hid (R = false) := hid (by rw [HDJ.out, hel]; rfl)
          clear hel
          refine wp_region_ext (by kernel_rfl) (by kernel_rfl) ?_
          repeat (go_big_quiet_step ((go_at_call 37; exact HEL2.out _)))
          refine wpQuiet_nil ?_
          rintro _ ⟨z, rfl⟩
          obtain ⟨x', hx'⟩ := HUP.out z
          rw [hx']
          clear hx' p0 p1 p2 p3 k0 k1 k2 k3 k4 k5 l4b
          go_wp2_with fail
          go_ret
          exact ⟨ret_bool HF.out.symm, HB.out _⟩
        · have HEL2 : Hid (∀ y : Ext WB, Calls Tryz.prog 37 #[.agg #[.int .i64 ps[j].kind, .int .i64 ps[j].lo, .int .i64 ps[j].hi, .slice dn ps[j].names.length dcn, .slice dp ps[j].parts.length dcp, .slice dr ps[j].rules.length dcr], .agg #[.int .i64 vps[j].n, .slice en vps[j].names.length ecn, .slice ep vps[j].parts.length ecp, .slice ee vps[j].entries.length ece]] y.1 fun e w' => e = .returned (.bool true) ∧ ∃ z : Ext WB, w' = z.1) := hid fun y => by have := HEL.out y; rw [hel] at this; exact this
          have HF : Hid (R = elemsB (ps.drop (j + 1)) (vps.drop (j + 1))) := hid (by rw [HDJ.out, hel]; rfl)
          clear hel
          refine wp_region_ext (by kernel_rfl) (by kernel_rfl) ?_
          repeat (go_big_quiet_step ((go_at_call 37; exact HEL2.out _)))
          refine wpQuiet_nil ?_
          rintro _ ⟨z, rfl⟩
          obtain ⟨x', hx'⟩ := HUP.out z
          rw [hx']
          clear hx' p0 p1 p2 p3 k0 k1 k2 k3 k4 k5 l4b
          go_wp2_with fail
          go_roundw
          case rel => exact ⟨j + 1, x', by omega, by go_num, rfl, HF⟩
          case measure => simp [intOf]; omega
      · have HF : Hid (R = true) := hid (by rw [He.out, show vps.drop j = [] from List.drop_eq_nil_of_le (by omega), show ps.drop j = [] from List.drop_eq_nil_of_le (by have := HLEN.out; omega), elemsB])
        go_wp2_with fail
        go_ret
        exact ⟨ret_bool HF.out.symm, HB.out _⟩
  · have HF : Hid (R = false) := hid (by rw [HE.out, decide_eq_false hlen, Bool.and_false, Bool.false_and])
    have hlb : ((vps.length : Int) != (ps.length : Int)) = true := by simp; omega
    clear hu hlen
    go_wp2_with (go_at_call 64; refine (HCU2.out _).mono ?_; rintro e w1 ⟨rfl, y, rfl⟩)
    go_ret
    exact ⟨ret_bool HF.out.symm, HB.out _⟩
end Go.Proofs.YtmdjnaobllajmaaGreatDoor
