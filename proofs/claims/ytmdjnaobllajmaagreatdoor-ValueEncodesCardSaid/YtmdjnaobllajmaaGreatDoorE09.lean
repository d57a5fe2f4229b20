/-
  What the statements of the chapter share, part 09: VElem, VElem2, VElem3, VElem4, DSpec, PElem.
-/
import Derived.Test.YtmdjnaobllajmaaGreatDoorE07
import Derived.Test.YtmdjnaobllajmaaGreatDoorE08
set_option linter.unusedVariables false
set_option linter.unusedSimpArgs false
set_option maxRecDepth 100000
set_option maxHeartbeats 8000000
namespace Go.Proofs.YtmdjnaobllajmaaGreatDoor
open Go.RowKit
theorem used_hid {w W : World} {v : Val} {a b c d : Value} (HB : Hid (∀ x : Ext W, Below w.heap.size w x.1)) (HV : Hid (valRd w v [a, b, c, d])) :
 Hid (∀ (q1 q2 q3 q4 : Bool) (x : Ext W), Calls Tryz.prog 64 #[.agg #[a, b, c, d], .bool q1, .bool q2, .bool q3, .bool q4] x.1 fun e w' => e = .returned (.bool (usedB v q1 q2 q3 q4)) ∧ ∃ y : Ext W, w' = y.1) :=
 hid fun _ _ _ _ x => ext_call x (used_any _ [a, b, c, d] _ _ _ _ _ (valRd.below (HB.out x) _ _ HV.out))
theorem Ext.sub {W : World} (x : Ext W) : Sub W x.1 := Sub.of_below x.2
theorem ext_self (W : World) : ∃ x : Ext W, W = x.1 := ⟨⟨W, Below.refl _ _⟩, rfl⟩
theorem elemB_eq (l : Lat) (v : Val) : elemB l v = (if l.kind = 1 then usedB v true false false false && decide (v.n = 0 ∨ v.n = 1)
 else if l.kind = 2 ∨ l.kind = 3 then usedB v true false false false && decide (l.lo ≤ v.n ∧ v.n ≤ l.hi)
 else if l.kind = 4 then usedB v false true false false && allowedB l.names v.names
 else if l.kind = 10 then usedB v false true false false && allowedB l.names v.names && closedB l.rules v.names
 else if l.kind = 8 then (if v.n = 0 ∨ v.n = 2 then usedB v true false false false else if v.n = 1 then usedB v true true false false && decide (v.names.length = 1) && allowedB l.names v.names else false)
 else if l.kind = 9 then usedB v false false false true && regB v.entries
 else if l.kind = 5 then usedB v false true true false && decide (v.names.length = v.parts.length) && allowedB l.names v.names && mapB l.parts v.parts
 else usedB v false false true false && decide (v.parts.length = l.parts.length) && elemsB l.parts v.parts) := by
 cases l
 rw [elemB]
 rfl
theorem elem_1 (lo hi' : Int) (ns : List ByteArray) (ps : List Lat) (rs : List Rl) (an ap ar : Option Addr) (cn cp cr : Nat) (vn : Int) (vns : List ByteArray) (vps : List Val) (ves : List En) (bn bp be : Option Addr) (bcn bcp bce : Nat) (w : World)
 (HL : Hid (latRd w (.mk 1 lo hi' ns ps rs) [.int .i64 1, .int .i64 lo, .int .i64 hi', .slice an ns.length cn, .slice ap ps.length cp, .slice ar rs.length cr])) (HV : Hid (valRd w (.mk vn vns vps ves) [.int .i64 vn, .slice bn vns.length bcn, .slice bp vps.length bcp, .slice be ves.length bce])) :
 Calls Tryz.prog 37 #[.agg #[.int .i64 1, .int .i64 lo, .int .i64 hi', .slice an ns.length cn, .slice ap ps.length cp, .slice ar rs.length cr], .agg #[.int .i64 vn, .slice bn vns.length bcn, .slice bp vps.length bcp, .slice be ves.length bce]] w fun e w' => e = .returned (.bool (elemB (.mk 1 lo hi' ns ps rs) (.mk vn vns vps ves))) ∧ Below w.heap.size w w' := by
 have HE : Hid (elemB (.mk 1 lo hi' ns ps rs) (.mk vn vns vps ves) = (usedB (.mk vn vns vps ves) true false false false && decide (vn = 0 ∨ vn = 1))) := hid (by rw [elemB_eq]; rfl)
 generalize elemB (.mk 1 lo hi' ns ps rs) (.mk vn vns vps ves) = R at HE ⊢
 obtain ⟨W2, hW, HB, HBl, HBv⟩ := two_box w #[.int .i64 1, .int .i64 lo, .int .i64 hi', .slice an ns.length cn, .slice ap ps.length cp, .slice ar rs.length cr] #[.int .i64 vn, .slice bn vns.length bcn, .slice bp vps.length bcp, .slice be ves.length bce] 26 30
 go_enter Tryz.func37, Tryz.ntmps37
 go_wp2_with fail
 rw [hW.out]
 clear hW
 obtain ⟨x0, hx⟩ := ext_self W2
 rw [hx]
 clear hx
 have l0 : ∀ x : Ext W2, x.1.cell? ⟨w.heap.size, 0, none⟩ = some (.int .i64 1) := fun x => HBl.out.ext x 0 _ rfl
 obtain ⟨v0, v1, v2, v3⟩ := bx4 fun x : Ext W2 => HBv.out.ext x
 have HCU := used_hid HB HV
 go_wp2_with (first | (go_at_call 64; refine (HCU.out _ _ _ _ _).mono ?_; rintro e w1 ⟨rfl, y, rfl⟩))
 all_goals
  go_ret
  exact ⟨ret_bool (by rw [HE.out] <;> (simp_all <;> rfl)), HB.out _⟩
theorem elem_23 (k : Int) (hk : k = 2 ∨ k = 3) (lo hi' : Int) (ns : List ByteArray) (ps : List Lat) (rs : List Rl) (an ap ar : Option Addr) (cn cp cr : Nat) (vn : Int) (vns : List ByteArray) (vps : List Val) (ves : List En) (bn bp be : Option Addr) (bcn bcp bce : Nat) (w : World)
 (HL : Hid (latRd w (.mk k lo hi' ns ps rs) [.int .i64 k, .int .i64 lo, .int .i64 hi', .slice an ns.length cn, .slice ap ps.length cp, .slice ar rs.length cr])) (HV : Hid (valRd w (.mk vn vns vps ves) [.int .i64 vn, .slice bn vns.length bcn, .slice bp vps.length bcp, .slice be ves.length bce])) :
 Calls Tryz.prog 37 #[.agg #[.int .i64 k, .int .i64 lo, .int .i64 hi', .slice an ns.length cn, .slice ap ps.length cp, .slice ar rs.length cr], .agg #[.int .i64 vn, .slice bn vns.length bcn, .slice bp vps.length bcp, .slice be ves.length bce]] w fun e w' => e = .returned (.bool (elemB (.mk k lo hi' ns ps rs) (.mk vn vns vps ves))) ∧ Below w.heap.size w w' := by
 have HE : Hid (elemB (.mk k lo hi' ns ps rs) (.mk vn vns vps ves) = (usedB (.mk vn vns vps ves) true false false false && decide (lo ≤ vn ∧ vn ≤ hi'))) := hid (by rw [elemB_eq]; rcases hk with rfl | rfl <;> rfl)
 generalize elemB (.mk k lo hi' ns ps rs) (.mk vn vns vps ves) = R at HE ⊢
 obtain ⟨W2, hW, HB, HBl, HBv⟩ := two_box w #[.int .i64 k, .int .i64 lo, .int .i64 hi', .slice an ns.length cn, .slice ap ps.length cp, .slice ar rs.length cr] #[.int .i64 vn, .slice bn vns.length bcn, .slice bp vps.length bcp, .slice be ves.length bce] 26 30
 rcases hk with rfl | rfl
 all_goals
  go_enter Tryz.func37, Tryz.ntmps37
  go_wp2_with fail
  rw [hW.out]
  clear hW
  obtain ⟨x0, hx⟩ := ext_self W2
  rw [hx]
  clear hx
  obtain ⟨l0, l1, l2⟩ := bx3 fun x : Ext W2 => HBl.out.ext x
  obtain ⟨v0, v1, v2, v3⟩ := bx4 fun x : Ext W2 => HBv.out.ext x
  have HCU := used_hid HB HV
  go_wp2_with (first | (go_at_call 64; refine (HCU.out _ _ _ _ _).mono ?_; rintro e w1 ⟨rfl, y, rfl⟩))
  all_goals
   go_ret
   exact ⟨ret_bool (by rw [HE.out] <;> (simp_all <;> omega)), HB.out _⟩
theorem elem_4 (lo hi' : Int) (ns : List ByteArray) (ps : List Lat) (rs : List Rl) (an ap ar : Option Addr) (cn cp cr : Nat) (vn : Int) (vns : List ByteArray) (vps : List Val) (ves : List En) (bn bp be : Option Addr) (bcn bcp bce : Nat) (w : World)
 (HL : Hid (latRd w (.mk 4 lo hi' ns ps rs) [.int .i64 4, .int .i64 lo, .int .i64 hi', .slice an ns.length cn, .slice ap ps.length cp, .slice ar rs.length cr])) (HV : Hid (valRd w (.mk vn vns vps ves) [.int .i64 vn, .slice bn vns.length bcn, .slice bp vps.length bcp, .slice be ves.length bce])) :
 Calls Tryz.prog 37 #[.agg #[.int .i64 4, .int .i64 lo, .int .i64 hi', .slice an ns.length cn, .slice ap ps.length cp, .slice ar rs.length cr], .agg #[.int .i64 vn, .slice bn vns.length bcn, .slice bp vps.length bcp, .slice be ves.length bce]] w fun e w' => e = .returned (.bool (elemB (.mk 4 lo hi' ns ps rs) (.mk vn vns vps ves))) ∧ Below w.heap.size w w' := by
 have HE : Hid (elemB (.mk 4 lo hi' ns ps rs) (.mk vn vns vps ves) = (usedB (.mk vn vns vps ves) false true false false && allowedB ns vns)) := hid (by rw [elemB_eq]; rfl)
 generalize elemB (.mk 4 lo hi' ns ps rs) (.mk vn vns vps ves) = R at HE ⊢
 obtain ⟨W2, hW, HB, HBl, HBv⟩ := two_box w #[.int .i64 4, .int .i64 lo, .int .i64 hi', .slice an ns.length cn, .slice ap ps.length cp, .slice ar rs.length cr] #[.int .i64 vn, .slice bn vns.length bcn, .slice bp vps.length bcp, .slice be ves.length bce] 26 30
 go_enter Tryz.func37, Tryz.ntmps37
 go_wp2_with fail
 rw [hW.out]
 clear hW
 obtain ⟨x0, hx⟩ := ext_self W2
 rw [hx]
 clear hx
 obtain ⟨l0, -, -, l3⟩ := bx4 fun x : Ext W2 => HBl.out.ext x
 obtain ⟨v0, v1, v2, v3⟩ := bx4 fun x : Ext W2 => HBv.out.ext x
 have HCU := used_hid HB HV
 have HCA : Hid (∀ x : Ext W2, Calls Tryz.prog 65 #[.slice an ns.length cn, .slice bn vns.length bcn] x.1 fun e w' => e = .returned (.bool (allowedB ns vns)) ∧ ∃ y : Ext W2, w' = y.1) := hid fun x => by
   obtain ⟨_, _, _, hh, _, h3, _⟩ := (latRd_iff _ _ _).1 (latRd.below (HB.out x) _ _ HL.out)
   obtain ⟨_, _, _, gg, _, g3, _⟩ := (valRd_iff _ _ _).1 (valRd.below (HB.out x) _ _ HV.out)
   cases hh; cases gg
   exact ext_call x (allowed_any _ _ ns vns _ h3 g3)
 go_wp2_with (first | (go_at_call 64; refine (HCU.out _ _ _ _ _).mono ?_; rintro e w1 ⟨rfl, y, rfl⟩) | (go_at_call 65; refine (HCA.out _).mono ?_; rintro e w1 ⟨rfl, y, rfl⟩))
 all_goals
  go_ret
  exact ⟨ret_bool (by rw [HE.out] <;> (simp_all)), HB.out _⟩
theorem elem_10 (lo hi' : Int) (ns : List ByteArray) (ps : List Lat) (rs : List Rl) (an ap ar : Option Addr) (cn cp cr : Nat) (vn : Int) (vns : List ByteArray) (vps : List Val) (ves : List En) (bn bp be : Option Addr) (bcn bcp bce : Nat) (w : World)
 (HL : Hid (latRd w (.mk 10 lo hi' ns ps rs) [.int .i64 10, .int .i64 lo, .int .i64 hi', .slice an ns.length cn, .slice ap ps.length cp, .slice ar rs.length cr])) (HV : Hid (valRd w (.mk vn vns vps ves) [.int .i64 vn, .slice bn vns.length bcn, .slice bp vps.length bcp, .slice be ves.length bce])) :
 Calls Tryz.prog 37 #[.agg #[.int .i64 10, .int .i64 lo, .int .i64 hi', .slice an ns.length cn, .slice ap ps.length cp, .slice ar rs.length cr], .agg #[.int .i64 vn, .slice bn vns.length bcn, .slice bp vps.length bcp, .slice be ves.length bce]] w fun e w' => e = .returned (.bool (elemB (.mk 10 lo hi' ns ps rs) (.mk vn vns vps ves))) ∧ Below w.heap.size w w' := by
 have HE : Hid (elemB (.mk 10 lo hi' ns ps rs) (.mk vn vns vps ves) = (usedB (.mk vn vns vps ves) false true false false && allowedB ns vns && closedB rs vns)) := hid (by rw [elemB_eq]; rfl)
 generalize elemB (.mk 10 lo hi' ns ps rs) (.mk vn vns vps ves) = R at HE ⊢
 obtain ⟨W2, hW, HB, HBl, HBv⟩ := two_box w #[.int .i64 10, .int .i64 lo, .int .i64 hi', .slice an ns.length cn, .slice ap ps.length cp, .slice ar rs.length cr] #[.int .i64 vn, .slice bn vns.length bcn, .slice bp vps.length bcp, .slice be ves.length bce] 26 30
 go_enter Tryz.func37, Tryz.ntmps37
 go_wp2_with fail
 rw [hW.out]
 clear hW
 obtain ⟨x0, hx⟩ := ext_self W2
 rw [hx]
 clear hx
 obtain ⟨l0, -, -, l3, -, l5⟩ := bx6 fun x : Ext W2 => HBl.out.ext x
 obtain ⟨v0, v1, v2, v3⟩ := bx4 fun x : Ext W2 => HBv.out.ext x
 have HCU := used_hid HB HV
 have HCA : Hid (∀ x : Ext W2, Calls Tryz.prog 65 #[.slice an ns.length cn, .slice bn vns.length bcn] x.1 fun e w' => e = .returned (.bool (allowedB ns vns)) ∧ ∃ y : Ext W2, w' = y.1) := hid fun x => by
   obtain ⟨_, _, _, hh, _, h3, _⟩ := (latRd_iff _ _ _).1 (latRd.below (HB.out x) _ _ HL.out)
   obtain ⟨_, _, _, gg, _, g3, _⟩ := (valRd_iff _ _ _).1 (valRd.below (HB.out x) _ _ HV.out)
   cases hh; cases gg
   exact ext_call x (allowed_any _ _ ns vns _ h3 g3)
 have HCC : Hid (∀ x : Ext W2, Calls Tryz.prog 66 #[.slice ar rs.length cr, .slice bn vns.length bcn] x.1 fun e w' => e = .returned (.bool (closedB rs vns)) ∧ ∃ y : Ext W2, w' = y.1) := hid fun x => by
   obtain ⟨_, _, _, hh, _, _, _, h5⟩ := (latRd_iff _ _ _).1 (latRd.below (HB.out x) _ _ HL.out)
   obtain ⟨_, _, _, gg, _, g3, _⟩ := (valRd_iff _ _ _).1 (valRd.below (HB.out x) _ _ HV.out)
   cases hh; cases gg
   exact ext_call x (closed_any _ _ rs vns _ h5 g3)
 go_wp2_with (first | (go_at_call 64; refine (HCU.out _ _ _ _ _).mono ?_; rintro e w1 ⟨rfl, y, rfl⟩) | (go_at_call 65; refine (HCA.out _).mono ?_; rintro e w1 ⟨rfl, y, rfl⟩) | (go_at_call 66; refine (HCC.out _).mono ?_; rintro e w1 ⟨rfl, y, rfl⟩))
 all_goals
  go_ret
  exact ⟨ret_bool (by rw [HE.out] <;> (simp_all)), HB.out _⟩
theorem elem_9 (lo hi' : Int) (ns : List ByteArray) (ps : List Lat) (rs : List Rl) (an ap ar : Option Addr) (cn cp cr : Nat) (vn : Int) (vns : List ByteArray) (vps : List Val) (ves : List En) (bn bp be : Option Addr) (bcn bcp bce : Nat) (w : World)
 (HL : Hid (latRd w (.mk 9 lo hi' ns ps rs) [.int .i64 9, .int .i64 lo, .int .i64 hi', .slice an ns.length cn, .slice ap ps.length cp, .slice ar rs.length cr])) (HV : Hid (valRd w (.mk vn vns vps ves) [.int .i64 vn, .slice bn vns.length bcn, .slice bp vps.length bcp, .slice be ves.length bce])) :
 Calls Tryz.prog 37 #[.agg #[.int .i64 9, .int .i64 lo, .int .i64 hi', .slice an ns.length cn, .slice ap ps.length cp, .slice ar rs.length cr], .agg #[.int .i64 vn, .slice bn vns.length bcn, .slice bp vps.length bcp, .slice be ves.length bce]] w fun e w' => e = .returned (.bool (elemB (.mk 9 lo hi' ns ps rs) (.mk vn vns vps ves))) ∧ Below w.heap.size w w' := by
 have HE : Hid (elemB (.mk 9 lo hi' ns ps rs) (.mk vn vns vps ves) = (usedB (.mk vn vns vps ves) false false false true && regB ves)) := hid (by rw [elemB_eq]; rfl)
 generalize elemB (.mk 9 lo hi' ns ps rs) (.mk vn vns vps ves) = R at HE ⊢
 obtain ⟨W2, hW, HB, HBl, HBv⟩ := two_box w #[.int .i64 9, .int .i64 lo, .int .i64 hi', .slice an ns.length cn, .slice ap ps.length cp, .slice ar rs.length cr] #[.int .i64 vn, .slice bn vns.length bcn, .slice bp vps.length bcp, .slice be ves.length bce] 26 30
 go_enter Tryz.func37, Tryz.ntmps37
 go_wp2_with fail
 rw [hW.out]
 clear hW
 obtain ⟨x0, hx⟩ := ext_self W2
 rw [hx]
 clear hx
 have l0 : ∀ x : Ext W2, x.1.cell? ⟨w.heap.size, 0, none⟩ = some (.int .i64 9) := fun x => HBl.out.ext x 0 _ rfl
 obtain ⟨v0, v1, v2, v3⟩ := bx4 fun x : Ext W2 => HBv.out.ext x
 have HCU := used_hid HB HV
 have HCR : Hid (∀ x : Ext W2, Calls Tryz.prog 67 #[.slice be ves.length bce] x.1 fun e w' => e = .returned (.bool (regB ves)) ∧ ∃ y : Ext W2, w' = y.1) := hid fun x => by
   obtain ⟨_, _, _, gg, _, _, _, g5⟩ := (valRd_iff _ _ _).1 (valRd.below (HB.out x) _ _ HV.out)
   cases gg
   exact ext_call x (register_any _ ves _ g5)
 go_wp2_with (first | (go_at_call 64; refine (HCU.out _ _ _ _ _).mono ?_; rintro e w1 ⟨rfl, y, rfl⟩) | (go_at_call 67; refine (HCR.out _).mono ?_; rintro e w1 ⟨rfl, y, rfl⟩))
 all_goals
  go_ret
  exact ⟨ret_bool (by rw [HE.out] <;> (simp_all)), HB.out _⟩
theorem elem_8_0 (lo hi' : Int) (ns : List ByteArray) (ps : List Lat) (rs : List Rl) (an ap ar : Option Addr) (cn cp cr : Nat) (vns : List ByteArray) (vps : List Val) (ves : List En) (bn bp be : Option Addr) (bcn bcp bce : Nat) (w : World)
 (HL : Hid (latRd w (.mk 8 lo hi' ns ps rs) [.int .i64 8, .int .i64 lo, .int .i64 hi', .slice an ns.length cn, .slice ap ps.length cp, .slice ar rs.length cr])) (HV : Hid (valRd w (.mk 0 vns vps ves) [.int .i64 0, .slice bn vns.length bcn, .slice bp vps.length bcp, .slice be ves.length bce])) :
 Calls Tryz.prog 37 #[.agg #[.int .i64 8, .int .i64 lo, .int .i64 hi', .slice an ns.length cn, .slice ap ps.length cp, .slice ar rs.length cr], .agg #[.int .i64 0, .slice bn vns.length bcn, .slice bp vps.length bcp, .slice be ves.length bce]] w fun e w' => e = .returned (.bool (elemB (.mk 8 lo hi' ns ps rs) (.mk 0 vns vps ves))) ∧ Below w.heap.size w w' := by
 have HE : Hid (elemB (.mk 8 lo hi' ns ps rs) (.mk 0 vns vps ves) = (usedB (.mk 0 vns vps ves) true false false false)) := hid (by rw [elemB_eq]; rfl)
 generalize elemB (.mk 8 lo hi' ns ps rs) (.mk 0 vns vps ves) = R at HE ⊢
 obtain ⟨W2, hW, HB, HBl, HBv⟩ := two_box w #[.int .i64 8, .int .i64 lo, .int .i64 hi', .slice an ns.length cn, .slice ap ps.length cp, .slice ar rs.length cr] #[.int .i64 0, .slice bn vns.length bcn, .slice bp vps.length bcp, .slice be ves.length bce] 26 30
 go_enter Tryz.func37, Tryz.ntmps37
 go_wp2_with fail
 rw [hW.out]
 clear hW
 obtain ⟨x0, hx⟩ := ext_self W2
 rw [hx]
 clear hx
 obtain ⟨l0, -, -, l3⟩ := bx4 fun x : Ext W2 => HBl.out.ext x
 obtain ⟨v0, v1, v2, v3⟩ := bx4 fun x : Ext W2 => HBv.out.ext x
 have HCU := used_hid HB HV
 have HCA : Hid (∀ x : Ext W2, Calls Tryz.prog 65 #[.slice an ns.length cn, .slice bn vns.length bcn] x.1 fun e w' => e = .returned (.bool (allowedB ns vns)) ∧ ∃ y : Ext W2, w' = y.1) := hid fun x => by
   obtain ⟨_, _, _, hh, _, h3, _⟩ := (latRd_iff _ _ _).1 (latRd.below (HB.out x) _ _ HL.out)
   obtain ⟨_, _, _, gg, _, g3, _⟩ := (valRd_iff _ _ _).1 (valRd.below (HB.out x) _ _ HV.out)
   cases hh; cases gg
   exact ext_call x (allowed_any _ _ ns vns _ h3 g3)
 go_wp2_with (first | (go_at_call 64; refine (HCU.out _ _ _ _ _).mono ?_; rintro e w1 ⟨rfl, y, rfl⟩))
 all_goals
  go_ret
  exact ⟨ret_bool (by rw [HE.out] <;> (simp_all <;> (intros; omega))), HB.out _⟩
theorem elem_8_2 (lo hi' : Int) (ns : List ByteArray) (ps : List Lat) (rs : List Rl) (an ap ar : Option Addr) (cn cp cr : Nat) (vns : List ByteArray) (vps : List Val) (ves : List En) (bn bp be : Option Addr) (bcn bcp bce : Nat) (w : World)
 (HL : Hid (latRd w (.mk 8 lo hi' ns ps rs) [.int .i64 8, .int .i64 lo, .int .i64 hi', .slice an ns.length cn, .slice ap ps.length cp, .slice ar rs.length cr])) (HV : Hid (valRd w (.mk 2 vns vps ves) [.int .i64 2, .slice bn vns.length bcn, .slice bp vps.length bcp, .slice be ves.length bce])) :
 Calls Tryz.prog 37 #[.agg #[.int .i64 8, .int .i64 lo, .int .i64 hi', .slice an ns.length cn, .slice ap ps.length cp, .slice ar rs.length cr], .agg #[.int .i64 2, .slice bn vns.length bcn, .slice bp vps.length bcp, .slice be ves.length bce]] w fun e w' => e = .returned (.bool (elemB (.mk 8 lo hi' ns ps rs) (.mk 2 vns vps ves))) ∧ Below w.heap.size w w' := by
 have HE : Hid (elemB (.mk 8 lo hi' ns ps rs) (.mk 2 vns vps ves) = (usedB (.mk 2 vns vps ves) true false false false)) := hid (by rw [elemB_eq]; rfl)
 generalize elemB (.mk 8 lo hi' ns ps rs) (.mk 2 vns vps ves) = R at HE ⊢
 obtain ⟨W2, hW, HB, HBl, HBv⟩ := two_box w #[.int .i64 8, .int .i64 lo, .int .i64 hi', .slice an ns.length cn, .slice ap ps.length cp, .slice ar rs.length cr] #[.int .i64 2, .slice bn vns.length bcn, .slice bp vps.length bcp, .slice be ves.length bce] 26 30
 go_enter Tryz.func37, Tryz.ntmps37
 go_wp2_with fail
 rw [hW.out]
 clear hW
 obtain ⟨x0, hx⟩ := ext_self W2
 rw [hx]
 clear hx
 obtain ⟨l0, -, -, l3⟩ := bx4 fun x : Ext W2 => HBl.out.ext x
 obtain ⟨v0, v1, v2, v3⟩ := bx4 fun x : Ext W2 => HBv.out.ext x
 have HCU := used_hid HB HV
 have HCA : Hid (∀ x : Ext W2, Calls Tryz.prog 65 #[.slice an ns.length cn, .slice bn vns.length bcn] x.1 fun e w' => e = .returned (.bool (allowedB ns vns)) ∧ ∃ y : Ext W2, w' = y.1) := hid fun x => by
   obtain ⟨_, _, _, hh, _, h3, _⟩ := (latRd_iff _ _ _).1 (latRd.below (HB.out x) _ _ HL.out)
   obtain ⟨_, _, _, gg, _, g3, _⟩ := (valRd_iff _ _ _).1 (valRd.below (HB.out x) _ _ HV.out)
   cases hh; cases gg
   exact ext_call x (allowed_any _ _ ns vns _ h3 g3)
 go_wp2_with (first | (go_at_call 64; refine (HCU.out _ _ _ _ _).mono ?_; rintro e w1 ⟨rfl, y, rfl⟩))
 all_goals
  go_ret
  exact ⟨ret_bool (by rw [HE.out] <;> (simp_all <;> (intros; omega))), HB.out _⟩
theorem elem_8_1 (lo hi' : Int) (ns : List ByteArray) (ps : List Lat) (rs : List Rl) (an ap ar : Option Addr) (cn cp cr : Nat) (vns : List ByteArray) (vps : List Val) (ves : List En) (bn bp be : Option Addr) (bcn bcp bce : Nat) (w : World)
 (HL : Hid (latRd w (.mk 8 lo hi' ns ps rs) [.int .i64 8, .int .i64 lo, .int .i64 hi', .slice an ns.length cn, .slice ap ps.length cp, .slice ar rs.length cr])) (HV : Hid (valRd w (.mk 1 vns vps ves) [.int .i64 1, .slice bn vns.length bcn, .slice bp vps.length bcp, .slice be ves.length bce])) :
 Calls Tryz.prog 37 #[.agg #[.int .i64 8, .int .i64 lo, .int .i64 hi', .slice an ns.length cn, .slice ap ps.length cp, .slice ar rs.length cr], .agg #[.int .i64 1, .slice bn vns.length bcn, .slice bp vps.length bcp, .slice be ves.length bce]] w fun e w' => e = .returned (.bool (elemB (.mk 8 lo hi' ns ps rs) (.mk 1 vns vps ves))) ∧ Below w.heap.size w w' := by
 have HE : Hid (elemB (.mk 8 lo hi' ns ps rs) (.mk 1 vns vps ves) = (usedB (.mk 1 vns vps ves) true true false false && decide (vns.length = 1) && allowedB ns vns)) := hid (by rw [elemB_eq]; rfl)
 generalize elemB (.mk 8 lo hi' ns ps rs) (.mk 1 vns vps ves) = R at HE ⊢
 obtain ⟨W2, hW, HB, HBl, HBv⟩ := two_box w #[.int .i64 8, .int .i64 lo, .int .i64 hi', .slice an ns.length cn, .slice ap ps.length cp, .slice ar rs.length cr] #[.int .i64 1, .slice bn vns.length bcn, .slice bp vps.length bcp, .slice be ves.length bce] 26 30
 go_enter Tryz.func37, Tryz.ntmps37
 go_wp2_with fail
 rw [hW.out]
 clear hW
 obtain ⟨x0, hx⟩ := ext_self W2
 rw [hx]
 clear hx
 obtain ⟨l0, -, -, l3⟩ := bx4 fun x : Ext W2 => HBl.out.ext x
 obtain ⟨v0, v1, v2, v3⟩ := bx4 fun x : Ext W2 => HBv.out.ext x
 have HCU := used_hid HB HV
 have HCA : Hid (∀ x : Ext W2, Calls Tryz.prog 65 #[.slice an ns.length cn, .slice bn vns.length bcn] x.1 fun e w' => e = .returned (.bool (allowedB ns vns)) ∧ ∃ y : Ext W2, w' = y.1) := hid fun x => by
   obtain ⟨_, _, _, hh, _, h3, _⟩ := (latRd_iff _ _ _).1 (latRd.below (HB.out x) _ _ HL.out)
   obtain ⟨_, _, _, gg, _, g3, _⟩ := (valRd_iff _ _ _).1 (valRd.below (HB.out x) _ _ HV.out)
   cases hh; cases gg
   exact ext_call x (allowed_any _ _ ns vns _ h3 g3)
 go_wp2_with (first | (go_at_call 64; refine (HCU.out _ _ _ _ _).mono ?_; rintro e w1 ⟨rfl, y, rfl⟩) | (go_at_call 65; refine (HCA.out _).mono ?_; rintro e w1 ⟨rfl, y, rfl⟩))
 all_goals
  go_ret
  exact ⟨ret_bool (by rw [HE.out] <;> (simp_all <;> (intros; omega))), HB.out _⟩
theorem elem_8 (lo hi' : Int) (ns : List ByteArray) (ps : List Lat) (rs : List Rl) (an ap ar : Option Addr) (cn cp cr : Nat) (vn : Int) (vns : List ByteArray) (vps : List Val) (ves : List En) (bn bp be : Option Addr) (bcn bcp bce : Nat) (w : World)
 (HL : Hid (latRd w (.mk 8 lo hi' ns ps rs) [.int .i64 8, .int .i64 lo, .int .i64 hi', .slice an ns.length cn, .slice ap ps.length cp, .slice ar rs.length cr])) (HV : Hid (valRd w (.mk vn vns vps ves) [.int .i64 vn, .slice bn vns.length bcn, .slice bp vps.length bcp, .slice be ves.length bce])) :
 Calls Tryz.prog 37 #[.agg #[.int .i64 8, .int .i64 lo, .int .i64 hi', .slice an ns.length cn, .slice ap ps.length cp, .slice ar rs.length cr], .agg #[.int .i64 vn, .slice bn vns.length bcn, .slice bp vps.length bcp, .slice be ves.length bce]] w fun e w' => e = .returned (.bool (elemB (.mk 8 lo hi' ns ps rs) (.mk vn vns vps ves))) ∧ Below w.heap.size w w' := by
 by_cases h0 : vn = 0
 · subst h0; exact elem_8_0 lo hi' ns ps rs an ap ar cn cp cr vns vps ves bn bp be bcn bcp bce w HL HV
 by_cases h2 : vn = 2
 · subst h2; exact elem_8_2 lo hi' ns ps rs an ap ar cn cp cr vns vps ves bn bp be bcn bcp bce w HL HV
 by_cases h1 : vn = 1
 · subst h1; exact elem_8_1 lo hi' ns ps rs an ap ar cn cp cr vns vps ves bn bp be bcn bcp bce w HL HV
 have HE : Hid (elemB (.mk 8 lo hi' ns ps rs) (.mk vn vns vps ves) = false) := hid (by rw [elemB_eq]; show (if vn = 0 ∨ vn = 2 then _ else if vn = 1 then _ else false) = false; rw [if_neg (by omega), if_neg h1])
 generalize elemB (.mk 8 lo hi' ns ps rs) (.mk vn vns vps ves) = R at HE ⊢
 have e0 : (vn == 0) = false := by simpa using h0
 have e1 : (vn == 1) = false := by simpa using h1
 have e2 : (vn == 2) = false := by simpa using h2
 clear h0 h1 h2
 have HB : Hid (∀ O1 O2, Below w.heap.size w ((w.alloc O1).alloc O2)) := hid fun O1 O2 => ((Below.refl _ _).alloc (Nat.le_refl _) O1).alloc (by simp) O2
 go_enter Tryz.func37, Tryz.ntmps37
 go_wp2_with fail
 go_ret
 exact ⟨ret_bool HE.out.symm, HB.out _ _⟩
theorem elem_67 (k : Int) (hk : k = 6 ∨ k = 7) (lo hi' : Int) (ns : List ByteArray) (ps : List Lat) (rs : List Rl) (an ap ar : Option Addr) (cn cp cr : Nat) (vn : Int) (vns : List ByteArray) (vps : List Val) (ves : List En) (bn bp be : Option Addr) (bcn bcp bce : Nat) (w : World)
 (HL : Hid (latRd w (.mk k lo hi' ns ps rs) [.int .i64 k, .int .i64 lo, .int .i64 hi', .slice an ns.length cn, .slice ap ps.length cp, .slice ar rs.length cr])) (HV : Hid (valRd w (.mk vn vns vps ves) [.int .i64 vn, .slice bn vns.length bcn, .slice bp vps.length bcp, .slice be ves.length bce]))
 (HWF : Hid (WfL (.mk k lo hi' ns ps rs))) (HIH : Hid (∀ p ∈ ps, ∀ (v : Val) (cl cv : List Value) (W : World), latRd W p cl → valRd W v cv → Calls Tryz.prog 37 #[.agg cl.toArray, .agg cv.toArray] W fun e w' => e = .returned (.bool (elemB p v)) ∧ Below W.heap.size W w')) :
 Calls Tryz.prog 37 #[.agg #[.int .i64 k, .int .i64 lo, .int .i64 hi', .slice an ns.length cn, .slice ap ps.length cp, .slice ar rs.length cr], .agg #[.int .i64 vn, .slice bn vns.length bcn, .slice bp vps.length bcp, .slice be ves.length bce]] w fun e w' => e = .returned (.bool (elemB (.mk k lo hi' ns ps rs) (.mk vn vns vps ves))) ∧ Below w.heap.size w w' := by
 have HE : Hid (elemB (.mk k lo hi' ns ps rs) (.mk vn vns vps ves) = (usedB (.mk vn vns vps ves) false false true false && decide (vps.length = ps.length) && elemsB ps vps)) := hid (by rw [elemB_eq]; rcases hk with rfl | rfl <;> rfl)
 generalize elemB (.mk k lo hi' ns ps rs) (.mk vn vns vps ves) = R at HE ⊢
 obtain ⟨W2, hW, HB, HBl, HBv⟩ := two_box w #[.int .i64 k, .int .i64 lo, .int .i64 hi', .slice an ns.length cn, .slice ap ps.length cp, .slice ar rs.length cr] #[.int .i64 vn, .slice bn vns.length bcn, .slice bp vps.length bcp, .slice be ves.length bce] 26 30
 have HVP : Hid (SlRd w 4 (valRd w) (.slice bp vps.length bcp) vps) := hid (by obtain ⟨_, _, _, gg, _, _, g4, _⟩ := (valRd_iff _ _ _).1 HV.out; cases gg; exact g4)
 have HLPS : Hid (SlRd w 6 (latRd w) (.slice ap ps.length cp) ps) := hid (by obtain ⟨_, _, _, hh, _, _, h4, _⟩ := (latRd_iff _ _ _).1 HL.out; cases hh; exact h4)
 have HVM : Hid (vps.length ≤ 9223372036854775807) := hid (by obtain ⟨_, _, _, _, h⟩ := HVP.out.shape; exact h)
 rcases hk with rfl | rfl
 all_goals
  go_enter Tryz.func37, Tryz.ntmps37
  go_wp2_with fail
  rw [hW.out]
  clear hW
  obtain ⟨x0, hx⟩ := ext_self W2
  rw [hx]
  clear hx
  obtain ⟨l0, -, -, -, l4⟩ := bx5 fun x : Ext W2 => HBl.out.ext x
  obtain ⟨v0, v1, v2, v3⟩ := bx4 fun x : Ext W2 => HBv.out.ext x
  have HCU := used_hid HB HV
  cases hu : usedB (.mk vn vns vps ves) false false true false
  · have HCU2 : Hid (∀ x : Ext W2, Calls Tryz.prog 64 #[.agg #[.int .i64 vn, .slice bn vns.length bcn, .slice bp vps.length bcp, .slice be ves.length bce], .bool false, .bool false, .bool true, .bool false] x.1 fun e w' => e = .returned (.bool false) ∧ ∃ y : Ext W2, w' = y.1) := hid fun x => by have := HCU.out false false true false x; rw [hu] at this; exact this
    have HF : Hid (R = false) := hid (by rw [HE.out, hu]; rfl)
    clear hu
    go_wp2_with (go_at_call 64; refine (HCU2.out _).mono ?_; rintro e w1 ⟨rfl, y, rfl⟩)
    go_ret
    exact ⟨ret_bool HF.out.symm, HB.out _⟩
  have HCU2 : Hid (∀ x : Ext W2, Calls Tryz.prog 64 #[.agg #[.int .i64 vn, .slice bn vns.length bcn, .slice bp vps.length bcp, .slice be ves.length bce], .bool false, .bool false, .bool true, .bool false] x.1 fun e w' => e = .returned (.bool true) ∧ ∃ y : Ext W2, w' = y.1) := hid fun x => by have := HCU.out false false true false x; rw [hu] at this; exact this
  by_cases hlen : vps.length = ps.length
  · have HD : Hid (R = elemsB (ps.drop 0) (vps.drop 0)) := hid (by rw [HE.out, hu, decide_eq_true hlen]; rfl)
    have HLEN := hid hlen
    have hlb : ((vps.length : Int) != (ps.length : Int)) = false := by simp [hlen]
    have hvm := HVM.out
    clear hu hlen
    go_wp2_with (go_at_call 64; refine (HCU2.out _).mono ?_; rintro e w1 ⟨rfl, y, rfl⟩)
    clear v0 v1 v2 v3 l0
    go_loopw [7, 8, 169] (fun _ _ i wr => ∃ (j : Nat) (x : Ext W2), j ≤ vps.length ∧ i = .int .i64 j ∧ wr = x.1 ∧ Hid (R = elemsB (ps.drop j) (vps.drop j))) (fun _ _ i _ => vps.length - (intOf i).toNat)
    case atStart => exact ⟨0, _, Nat.zero_le _, rfl, rfl, HD⟩
    case round =>
     obtain ⟨j, x, hj, rfl, rfl, He⟩ := hrel
     by_cases hlt : j < vps.length
     · have hil : j < ps.length := by have := HLEN.out; omega
       have HDJ : Hid (R = (elemB ps[j] vps[j] && elemsB (ps.drop (j + 1)) (vps.drop (j + 1)))) := hid (by rw [He.out, drop_consS ps j hil, drop_consS vps j hlt, elemsB])
       obtain ⟨pb, po, pcs, hpb, _, pcell, prd⟩ := (HVP.out).at j hlt
       subst hpb
       have HPR := hid prd
       obtain ⟨en, ecn, ep, ecp, ee, ece, rfl, _, pn, pp, pe, _⟩ := valRd.lay prd
       have r0 : x.1.cell? ⟨pb, po + j * 4, none⟩ = some (.int .i64 vps[j].n) := (pcell.below (HB.out x)) 0 (by simp)
       have r1 : x.1.cell? ⟨pb, po + j * 4 + 1, none⟩ = some (.slice en vps[j].names.length ecn) := (pcell.below (HB.out x)) 1 (by simp)
       have r2 : x.1.cell? ⟨pb, po + j * 4 + 2, none⟩ = some (.slice ep vps[j].parts.length ecp) := (pcell.below (HB.out x)) 2 (by simp)
       have r3 : x.1.cell? ⟨pb, po + j * 4 + 3, none⟩ = some (.slice ee vps[j].entries.length ece) := (pcell.below (HB.out x)) 3 (by simp)
       clear prd pn pp pe pcell
       obtain ⟨lb, lo2, lcs, hlb, _, lcell, lrd⟩ := (HLPS.out).at j hil
       subst hlb
       have HLR := hid lrd
       obtain ⟨dn, dcn, dp, dcp, dr, dcr, rfl, _, ln, lp, lr, _⟩ := latRd.lay lrd
       have HLC : Hid (∀ z : World, Below w.heap.size w z → z.cell? ⟨lb, lo2 + j * 6, none⟩ = some (.int .i64 ps[j].kind) ∧ z.cell? ⟨lb, lo2 + j * 6 + 1, none⟩ = some (.int .i64 ps[j].lo) ∧ z.cell? ⟨lb, lo2 + j * 6 + 2, none⟩ = some (.int .i64 ps[j].hi) ∧ z.cell? ⟨lb, lo2 + j * 6 + 3, none⟩ = some (.slice dn ps[j].names.length dcn) ∧ z.cell? ⟨lb, lo2 + j * 6 + 4, none⟩ = some (.slice dp ps[j].parts.length dcp) ∧ z.cell? ⟨lb, lo2 + j * 6 + 5, none⟩ = some (.slice dr ps[j].rules.length dcr)) := hid fun z hz => by have := (lcell.below hz).six; simpa using this
       clear lrd ln lp lr lcell
       have hji : (j : Int) < (ps.length : Int) := by omega
       have hj0 : (0 : Int) ≤ (j : Int) := by omega
       go_wp2_with fail
       have HBB : Hid (∀ y : Ext (x.1.alloc (.cells #[.int .i64 vps[j].n, .slice en vps[j].names.length ecn, .slice ep vps[j].parts.length ecp, .slice ee vps[j].entries.length ece] 30)), Below w.heap.size w y.1) := hid fun y => ((HB.out x).alloc (HB.out x).size _).trans (y.2.mono (by have := (HB.out x).size; simp; omega))
       have HPB : Hid (∀ y : Ext (x.1.alloc (.cells #[.int .i64 vps[j].n, .slice en vps[j].names.length ecn, .slice ep vps[j].parts.length ecp, .slice ee vps[j].entries.length ece] 30)), ∀ (i : Nat) v, #[.int .i64 vps[j].n, .slice en vps[j].names.length ecn, .slice ep vps[j].parts.length ecp, .slice ee vps[j].entries.length ece][i]? = some v → y.1.cell? ⟨x.1.heap.size, i, none⟩ = some v) := hid fun y i v hv => y.cell (by rw [World.cell?_alloc_at _ _ _ _ rfl]; exact hv)
       have HUP : Hid (∀ y : Ext (x.1.alloc (.cells #[.int .i64 vps[j].n, .slice en vps[j].names.length ecn, .slice ep vps[j].parts.length ecp, .slice ee vps[j].entries.length ece] 30)), ∃ x' : Ext W2, y.1 = x'.1) := hid fun y => ⟨⟨y.1, (x.2.alloc x.2.size _).trans (y.2.mono (by have := x.2.size; simp; omega))⟩, rfl⟩
       generalize x.1.heap.size = NB at HPB ⊢
       generalize x.1.alloc (.cells #[.int .i64 vps[j].n, .slice en vps[j].names.length ecn, .slice ep vps[j].parts.length ecp, .slice ee vps[j].entries.length ece] 30) = WB at HBB HPB HUP ⊢
       have l4b : ∀ y : Ext WB, y.1.cell? ⟨w.heap.size, 4, none⟩ = some (.slice (some ⟨lb, lo2, none⟩) ps.length cp) := fun y => by obtain ⟨x', h⟩ := HUP.out y; rw [h]; exact l4 x'
       obtain ⟨p0, p1, p2, p3⟩ := bx4 fun y : Ext WB => HPB.out y
       have k0 : ∀ y : Ext WB, y.1.cell? ⟨lb, lo2 + j * 6, none⟩ = some (.int .i64 ps[j].kind) := fun y => (HLC.out _ (HBB.out y)).1
       have k1 : ∀ y : Ext WB, y.1.cell? ⟨lb, lo2 + j * 6 + 1, none⟩ = some (.int .i64 ps[j].lo) := fun y => (HLC.out _ (HBB.out y)).2.1
       have k2 : ∀ y : Ext WB, y.1.cell? ⟨lb, lo2 + j * 6 + 2, none⟩ = some (.int .i64 ps[j].hi) := fun y => (HLC.out _ (HBB.out y)).2.2.1
       have k3 : ∀ y : Ext WB, y.1.cell? ⟨lb, lo2 + j * 6 + 3, none⟩ = some (.slice dn ps[j].names.length dcn) := fun y => (HLC.out _ (HBB.out y)).2.2.2.1
       have k4 : ∀ y : Ext WB, y.1.cell? ⟨lb, lo2 + j * 6 + 4, none⟩ = some (.slice dp ps[j].parts.length dcp) := fun y => (HLC.out _ (HBB.out y)).2.2.2.2.1
       have k5 : ∀ y : Ext WB, y.1.cell? ⟨lb, lo2 + j * 6 + 5, none⟩ = some (.slice dr ps[j].rules.length dcr) := fun y => (HLC.out _ (HBB.out y)).2.2.2.2.2
       have HEL : Hid (∀ y : Ext WB, Calls Tryz.prog 37 #[.agg #[.int .i64 ps[j].kind, .int .i64 ps[j].lo, .int .i64 ps[j].hi, .slice dn ps[j].names.length dcn, .slice dp ps[j].parts.length dcp, .slice dr ps[j].rules.length dcr], .agg #[.int .i64 vps[j].n, .slice en vps[j].names.length ecn, .slice ep vps[j].parts.length ecp, .slice ee vps[j].entries.length ece]] y.1 fun e w' => e = .returned (.bool (elemB ps[j] vps[j])) ∧ ∃ z : Ext WB, w' = z.1) := hid fun y => ext_call y (HIH.out _ (List.getElem_mem hil) vps[j] [.int .i64 ps[j].kind, .int .i64 ps[j].lo, .int .i64 ps[j].hi, .slice dn ps[j].names.length dcn, .slice dp ps[j].parts.length dcp, .slice dr ps[j].rules.length dcr] [.int .i64 vps[j].n, .slice en vps[j].names.length ecn, .slice ep vps[j].parts.length ecp, .slice ee vps[j].entries.length ece] _ (latRd.below (HBB.out y) _ _ HLR.out) (valRd.below (HBB.out y) _ _ HPR.out))
       cases hel : elemB ps[j] vps[j]
       · have HEL2 : Hid (∀ y : Ext WB, Calls Tryz.prog 37 #[.agg #[.int .i64 ps[j].kind, .int .i64 ps[j].lo, .int .i64 ps[j].hi, .slice dn ps[j].names.length dcn, .slice dp ps[j].parts.length dcp, .slice dr ps[j].rules.length dcr], .agg #[.int .i64 vps[j].n, .slice en vps[j].names.length ecn, .slice ep vps[j].parts.length ecp, .slice ee vps[j].entries.length ece]] y.1 fun e w' => e = .returned (.bool false) ∧ ∃ z : Ext WB, w' = z.1) := hid fun y => by have := HEL.out y; rw [hel] at this; exact this
         have HF : Hid (R = false) := hid (by rw [HDJ.out, hel]; rfl)
         clear hel
         refine wp_region_ext (by kernel_rfl) (by kernel_rfl) ?_
         repeat (go_big_quiet_step ((go_at_call 37; exact HEL2.out _)))
         refine wpQuiet_nil ?_
         rintro _ ⟨z, rfl⟩
         obtain ⟨x', hx'⟩ := HUP.out z
         rw [hx']
         clear hx' p0 p1 p2 p3 k0 k1 k2 k3 k4 k5 l4b
         go_wp2_with fail
         go_ret
         exact ⟨ret_bool HF.out.symm, HB.out _⟩
       · have HEL2 : Hid (∀ y : Ext WB, Calls Tryz.prog 37 #[.agg #[.int .i64 ps[j].kind, .int .i64 ps[j].lo, .int .i64 ps[j].hi, .slice dn ps[j].names.length dcn, .slice dp ps[j].parts.length dcp, .slice dr ps[j].rules.length dcr], .agg #[.int .i64 vps[j].n, .slice en vps[j].names.length ecn, .slice ep vps[j].parts.length ecp, .slice ee vps[j].entries.length ece]] y.1 fun e w' => e = .returned (.bool true) ∧ ∃ z : Ext WB, w' = z.1) := hid fun y => by have := HEL.out y; rw [hel] at this; exact this
         have HF : Hid (R = elemsB (ps.drop (j + 1)) (vps.drop (j + 1))) := hid (by rw [HDJ.out, hel]; rfl)
         clear hel
         refine wp_region_ext (by kernel_rfl) (by kernel_rfl) ?_
         repeat (go_big_quiet_step ((go_at_call 37; exact HEL2.out _)))
         refine wpQuiet_nil ?_
         rintro _ ⟨z, rfl⟩
         obtain ⟨x', hx'⟩ := HUP.out z
         rw [hx']
         clear hx' p0 p1 p2 p3 k0 k1 k2 k3 k4 k5 l4b
         go_wp2_with fail
         go_roundw
         case rel => exact ⟨j + 1, x', by omega, by go_num, rfl, HF⟩
         case measure => simp [intOf]; omega
     · have HF : Hid (R = true) := hid (by rw [He.out, show vps.drop j = [] from List.drop_eq_nil_of_le (by omega), show ps.drop j = [] from List.drop_eq_nil_of_le (by have := HLEN.out; omega), elemsB])
       go_wp2_with fail
       go_ret
       exact ⟨ret_bool HF.out.symm, HB.out _⟩
  · have HF : Hid (R = false) := hid (by rw [HE.out, decide_eq_false hlen, Bool.and_false, Bool.false_and])
    have hlb : ((vps.length : Int) != (ps.length : Int)) = true := by simp; omega
    clear hu hlen
    go_wp2_with (go_at_call 64; refine (HCU2.out _).mono ?_; rintro e w1 ⟨rfl, y, rfl⟩)
    go_ret
    exact ⟨ret_bool HF.out.symm, HB.out _⟩
theorem mapB_eq (ps : List Lat) (vs : List Val) (h : 0 < ps.length) : mapB ps vs = vs.all fun v => elemB ps[0] v && decide (valC v (botV ps[0]) ≠ 0) := by
  cases ps with
  | nil => simp at h
  | cons p t => rw [mapB]; rfl
theorem elem_5 (lo hi' : Int) (ns : List ByteArray) (ps : List Lat) (rs : List Rl) (an ap ar : Option Addr) (cn cp cr : Nat) (vn : Int) (vns : List ByteArray) (vps : List Val) (ves : List En) (bn bp be : Option Addr) (bcn bcp bce : Nat) (w : World)
 (HL : Hid (latRd w (.mk 5 lo hi' ns ps rs) [.int .i64 5, .int .i64 lo, .int .i64 hi', .slice an ns.length cn, .slice ap ps.length cp, .slice ar rs.length cr])) (HV : Hid (valRd w (.mk vn vns vps ves) [.int .i64 vn, .slice bn vns.length bcn, .slice bp vps.length bcp, .slice be ves.length bce]))
 (HWF : Hid (WfL (.mk 5 lo hi' ns ps rs))) (HIH : Hid (∀ p ∈ ps, ∀ (v : Val) (cl cv : List Value) (W : World), latRd W p cl → valRd W v cv → Calls Tryz.prog 37 #[.agg cl.toArray, .agg cv.toArray] W fun e w' => e = .returned (.bool (elemB p v)) ∧ Below W.heap.size W w')) :
 Calls Tryz.prog 37 #[.agg #[.int .i64 5, .int .i64 lo, .int .i64 hi', .slice an ns.length cn, .slice ap ps.length cp, .slice ar rs.length cr], .agg #[.int .i64 vn, .slice bn vns.length bcn, .slice bp vps.length bcp, .slice be ves.length bce]] w fun e w' => e = .returned (.bool (elemB (.mk 5 lo hi' ns ps rs) (.mk vn vns vps ves))) ∧ Below w.heap.size w w' := by
 have HE : Hid (elemB (.mk 5 lo hi' ns ps rs) (.mk vn vns vps ves) = (usedB (.mk vn vns vps ves) false true true false && decide (vns.length = vps.length) && allowedB ns vns && mapB ps vps)) := hid (by rw [elemB_eq]; rfl)
 generalize elemB (.mk 5 lo hi' ns ps rs) (.mk vn vns vps ves) = R at HE ⊢
 obtain ⟨W2, hW, HB, HBl, HBv⟩ := two_box w #[.int .i64 5, .int .i64 lo, .int .i64 hi', .slice an ns.length cn, .slice ap ps.length cp, .slice ar rs.length cr] #[.int .i64 vn, .slice bn vns.length bcn, .slice bp vps.length bcp, .slice be ves.length bce] 26 30
 have HVP : Hid (SlRd w 4 (valRd w) (.slice bp vps.length bcp) vps) := hid (by obtain ⟨_, _, _, gg, _, _, g4, _⟩ := (valRd_iff _ _ _).1 HV.out; cases gg; exact g4)
 have HLPS : Hid (SlRd w 6 (latRd w) (.slice ap ps.length cp) ps) := hid (by obtain ⟨_, _, _, hh, _, _, h4, _⟩ := (latRd_iff _ _ _).1 HL.out; cases hh; exact h4)
 have HVM : Hid (vps.length ≤ 9223372036854775807) := hid (by obtain ⟨_, _, _, _, h⟩ := HVP.out.shape; exact h)
 go_enter Tryz.func37, Tryz.ntmps37
 go_wp2_with fail
 rw [hW.out]
 clear hW
 obtain ⟨x0, hx⟩ := ext_self W2
 rw [hx]
 clear hx
 obtain ⟨l0, -, -, l3, l4⟩ := bx5 fun x : Ext W2 => HBl.out.ext x
 obtain ⟨v0, v1, v2, v3⟩ := bx4 fun x : Ext W2 => HBv.out.ext x
 have HCU := used_hid HB HV
 have HCA : Hid (∀ x : Ext W2, Calls Tryz.prog 65 #[.slice an ns.length cn, .slice bn vns.length bcn] x.1 fun e w' => e = .returned (.bool (allowedB ns vns)) ∧ ∃ y : Ext W2, w' = y.1) := hid fun x => by
   obtain ⟨_, _, _, hh, _, h3, _⟩ := (latRd_iff _ _ _).1 (latRd.below (HB.out x) _ _ HL.out)
   obtain ⟨_, _, _, gg, _, g3, _⟩ := (valRd_iff _ _ _).1 (valRd.below (HB.out x) _ _ HV.out)
   cases hh; cases gg
   exact ext_call x (allowed_any _ _ ns vns _ h3 g3)
 cases hu : usedB (.mk vn vns vps ves) false true true false
 · have HCU2 : Hid (∀ x : Ext W2, Calls Tryz.prog 64 #[.agg #[.int .i64 vn, .slice bn vns.length bcn, .slice bp vps.length bcp, .slice be ves.length bce], .bool false, .bool true, .bool true, .bool false] x.1 fun e w' => e = .returned (.bool false) ∧ ∃ y : Ext W2, w' = y.1) := hid fun x => by have := HCU.out false true true false x; rw [hu] at this; exact this
   have HF : Hid (R = false) := hid (by rw [HE.out, hu]; rfl)
   clear hu
   go_wp2_with (go_at_call 64; refine (HCU2.out _).mono ?_; rintro e w1 ⟨rfl, y, rfl⟩)
   go_ret
   exact ⟨ret_bool HF.out.symm, HB.out _⟩
 have HCU2 : Hid (∀ x : Ext W2, Calls Tryz.prog 64 #[.agg #[.int .i64 vn, .slice bn vns.length bcn, .slice bp vps.length bcp, .slice be ves.length bce], .bool false, .bool true, .bool true, .bool false] x.1 fun e w' => e = .returned (.bool true) ∧ ∃ y : Ext W2, w' = y.1) := hid fun x => by have := HCU.out false true true false x; rw [hu] at this; exact this
 by_cases hlen : vns.length = vps.length
 · have hlb : ((vns.length : Int) != (vps.length : Int)) = false := by simp [hlen]
   cases ha : allowedB ns vns
   · have HCA2 : Hid (∀ x : Ext W2, Calls Tryz.prog 65 #[.slice an ns.length cn, .slice bn vns.length bcn] x.1 fun e w' => e = .returned (.bool false) ∧ ∃ y : Ext W2, w' = y.1) := hid fun x => by have := HCA.out x; rw [ha] at this; exact this
     have HF : Hid (R = false) := hid (by rw [HE.out, hu, ha, decide_eq_true hlen]; rfl)
     clear hu ha hlen
     go_wp2_with (first | (go_at_call 64; refine (HCU2.out _).mono ?_; rintro e w1 ⟨rfl, y, rfl⟩) | (go_at_call 65; refine (HCA2.out _).mono ?_; rintro e w1 ⟨rfl, y, rfl⟩))
     go_ret
     exact ⟨ret_bool HF.out.symm, HB.out _⟩
   have HCA2 : Hid (∀ x : Ext W2, Calls Tryz.prog 65 #[.slice an ns.length cn, .slice bn vns.length bcn] x.1 fun e w' => e = .returned (.bool true) ∧ ∃ y : Ext W2, w' = y.1) := hid fun x => by have := HCA.out x; rw [ha] at this; exact this
   have hil : 0 < ps.length := by have h1 : ps.length = 1 := HWF.out.kinds.2.1 rfl; omega
   have HD : Hid (R = (vps.drop 0).all fun v => elemB ps[0] v && decide (valC v (botV ps[0]) ≠ 0)) := hid (by rw [HE.out, hu, ha, decide_eq_true hlen, mapB_eq ps vps hil]; rfl)
   have hvm := HVM.out
   have hil0 : (0 : Int) < (ps.length : Int) := by omega
   clear hu ha hlen
   go_wp2_with (first | (go_at_call 64; refine (HCU2.out _).mono ?_; rintro e w1 ⟨rfl, y, rfl⟩) | (go_at_call 65; refine (HCA2.out _).mono ?_; rintro e w1 ⟨rfl, y, rfl⟩))
   clear v0 v1 v2 v3 l0 l3
   go_loopw [6, 133] (fun _ i wr => ∃ (j : Nat) (x : Ext W2), j ≤ vps.length ∧ i = .int .i64 j ∧ wr = x.1 ∧ Hid (R = (vps.drop j).all fun v => elemB ps[0] v && decide (valC v (botV ps[0]) ≠ 0))) (fun _ i _ => vps.length - (intOf i).toNat)
   case atStart => exact ⟨0, _, Nat.zero_le _, rfl, rfl, HD⟩
   case round =>
    obtain ⟨j, x, hj, rfl, rfl, He⟩ := hrel
    by_cases hlt : j < vps.length
    · have HDJ : Hid (R = ((elemB ps[0] vps[j] && decide (valC vps[j] (botV ps[0]) ≠ 0)) && (vps.drop (j + 1)).all fun v => elemB ps[0] v && decide (valC v (botV ps[0]) ≠ 0))) := hid (by rw [He.out, drop_consS vps j hlt, List.all_cons])
      obtain ⟨pb, po, pcs, hpb, _, pcell, prd⟩ := (HVP.out).at j hlt
      subst hpb
      have HPR := hid prd
      obtain ⟨en, ecn, ep, ecp, ee, ece, rfl, _, pn, pp, pe, _⟩ := valRd.lay prd
      have r0 : x.1.cell? ⟨pb, po + j * 4, none⟩ = some (.int .i64 vps[j].n) := (pcell.below (HB.out x)) 0 (by simp)
      have r1 : x.1.cell? ⟨pb, po + j * 4 + 1, none⟩ = some (.slice en vps[j].names.length ecn) := (pcell.below (HB.out x)) 1 (by simp)
      have r2 : x.1.cell? ⟨pb, po + j * 4 + 2, none⟩ = some (.slice ep vps[j].parts.length ecp) := (pcell.below (HB.out x)) 2 (by simp)
      have r3 : x.1.cell? ⟨pb, po + j * 4 + 3, none⟩ = some (.slice ee vps[j].entries.length ece) := (pcell.below (HB.out x)) 3 (by simp)
      clear prd pn pp pe pcell
      obtain ⟨lb, lo2, lcs, hlb, _, lcell, lrd⟩ := (HLPS.out).at 0 hil
      subst hlb
      have HLR := hid lrd
      obtain ⟨dn, dcn, dp, dcp, dr, dcr, rfl, _, ln, lp, lr, _⟩ := latRd.lay lrd
      have HLC : Hid (∀ z : World, Below w.heap.size w z → z.cell? ⟨lb, lo2, none⟩ = some (.int .i64 ps[0].kind) ∧ z.cell? ⟨lb, lo2 + 1, none⟩ = some (.int .i64 ps[0].lo) ∧ z.cell? ⟨lb, lo2 + 2, none⟩ = some (.int .i64 ps[0].hi) ∧ z.cell? ⟨lb, lo2 + 3, none⟩ = some (.slice dn ps[0].names.length dcn) ∧ z.cell? ⟨lb, lo2 + 4, none⟩ = some (.slice dp ps[0].parts.length dcp) ∧ z.cell? ⟨lb, lo2 + 5, none⟩ = some (.slice dr ps[0].rules.length dcr)) := hid fun z hz => by have := (lcell.below hz).six; simpa using this
      clear lrd ln lp lr lcell
      go_wp2_with fail
      have HBB : Hid (∀ y : Ext (x.1.alloc (.cells #[.int .i64 vps[j].n, .slice en vps[j].names.length ecn, .slice ep vps[j].parts.length ecp, .slice ee vps[j].entries.length ece] 30)), Below w.heap.size w y.1) := hid fun y => ((HB.out x).alloc (HB.out x).size _).trans (y.2.mono (by have := (HB.out x).size; simp; omega))
      have HPB : Hid (∀ y : Ext (x.1.alloc (.cells #[.int .i64 vps[j].n, .slice en vps[j].names.length ecn, .slice ep vps[j].parts.length ecp, .slice ee vps[j].entries.length ece] 30)), ∀ (i : Nat) v, #[.int .i64 vps[j].n, .slice en vps[j].names.length ecn, .slice ep vps[j].parts.length ecp, .slice ee vps[j].entries.length ece][i]? = some v → y.1.cell? ⟨x.1.heap.size, i, none⟩ = some v) := hid fun y i v hv => y.cell (by rw [World.cell?_alloc_at _ _ _ _ rfl]; exact hv)
      have HUP : Hid (∀ y : Ext (x.1.alloc (.cells #[.int .i64 vps[j].n, .slice en vps[j].names.length ecn, .slice ep vps[j].parts.length ecp, .slice ee vps[j].entries.length ece] 30)), ∃ x' : Ext W2, y.1 = x'.1) := hid fun y => ⟨⟨y.1, (x.2.alloc x.2.size _).trans (y.2.mono (by have := x.2.size; simp; omega))⟩, rfl⟩
      generalize x.1.heap.size = NB at HPB ⊢
      generalize x.1.alloc (.cells #[.int .i64 vps[j].n, .slice en vps[j].names.length ecn, .slice ep vps[j].parts.length ecp, .slice ee vps[j].entries.length ece] 30) = WB at HBB HPB HUP ⊢
      have l4b : ∀ y : Ext WB, y.1.cell? ⟨w.heap.size, 4, none⟩ = some (.slice (some ⟨lb, lo2, none⟩) ps.length cp) := fun y => by obtain ⟨x', h⟩ := HUP.out y; rw [h]; exact l4 x'
      obtain ⟨p0, p1, p2, p3⟩ := bx4 fun y : Ext WB => HPB.out y
      have k0 : ∀ y : Ext WB, y.1.cell? ⟨lb, lo2, none⟩ = some (.int .i64 ps[0].kind) := fun y => (HLC.out _ (HBB.out y)).1
      have k1 : ∀ y : Ext WB, y.1.cell? ⟨lb, lo2 + 1, none⟩ = some (.int .i64 ps[0].lo) := fun y => (HLC.out _ (HBB.out y)).2.1
      have k2 : ∀ y : Ext WB, y.1.cell? ⟨lb, lo2 + 2, none⟩ = some (.int .i64 ps[0].hi) := fun y => (HLC.out _ (HBB.out y)).2.2.1
      have k3 : ∀ y : Ext WB, y.1.cell? ⟨lb, lo2 + 3, none⟩ = some (.slice dn ps[0].names.length dcn) := fun y => (HLC.out _ (HBB.out y)).2.2.2.1
      have k4 : ∀ y : Ext WB, y.1.cell? ⟨lb, lo2 + 4, none⟩ = some (.slice dp ps[0].parts.length dcp) := fun y => (HLC.out _ (HBB.out y)).2.2.2.2.1
      have k5 : ∀ y : Ext WB, y.1.cell? ⟨lb, lo2 + 5, none⟩ = some (.slice dr ps[0].rules.length dcr) := fun y => (HLC.out _ (HBB.out y)).2.2.2.2.2
      have HEL : Hid (∀ y : Ext WB, Calls Tryz.prog 37 #[.agg #[.int .i64 ps[0].kind, .int .i64 ps[0].lo, .int .i64 ps[0].hi, .slice dn ps[0].names.length dcn, .slice dp ps[0].parts.length dcp, .slice dr ps[0].rules.length dcr], .agg #[.int .i64 vps[j].n, .slice en vps[j].names.length ecn, .slice ep vps[j].parts.length ecp, .slice ee vps[j].entries.length ece]] y.1 fun e w' => e = .returned (.bool (elemB ps[0] vps[j])) ∧ ∃ z : Ext WB, w' = z.1) := hid fun y => ext_call y (HIH.out _ (List.getElem_mem hil) vps[j] [.int .i64 ps[0].kind, .int .i64 ps[0].lo, .int .i64 ps[0].hi, .slice dn ps[0].names.length dcn, .slice dp ps[0].parts.length dcp, .slice dr ps[0].rules.length dcr] [.int .i64 vps[j].n, .slice en vps[j].names.length ecn, .slice ep vps[j].parts.length ecp, .slice ee vps[j].entries.length ece] _ (latRd.below (HBB.out y) _ _ HLR.out) (valRd.below (HBB.out y) _ _ HPR.out))
      cases hel : elemB ps[0] vps[j]
      · have HEL2 : Hid (∀ y : Ext WB, Calls Tryz.prog 37 #[.agg #[.int .i64 ps[0].kind, .int .i64 ps[0].lo, .int .i64 ps[0].hi, .slice dn ps[0].names.length dcn, .slice dp ps[0].parts.length dcp, .slice dr ps[0].rules.length dcr], .agg #[.int .i64 vps[j].n, .slice en vps[j].names.length ecn, .slice ep vps[j].parts.length ecp, .slice ee vps[j].entries.length ece]] y.1 fun e w' => e = .returned (.bool false) ∧ ∃ z : Ext WB, w' = z.1) := hid fun y => by have := HEL.out y; rw [hel] at this; exact this
        have HF : Hid (R = false) := hid (by rw [HDJ.out, hel]; rfl)
        clear hel
        refine wp_region_ext (by kernel_rfl) (by kernel_rfl) ?_
        repeat (go_big_quiet_step ((go_at_call 37; exact HEL2.out _)))
        refine wpQuiet_nil ?_
        rintro _ ⟨z, rfl⟩
        obtain ⟨x', hx'⟩ := HUP.out z
        rw [hx']
        clear hx' p0 p1 p2 p3 k0 k1 k2 k3 k4 k5 l4b
        go_wp2_with fail
        go_ret
        exact ⟨ret_bool HF.out.symm, HB.out _⟩
      · have HEL3 : Hid (∀ W, Below WB.heap.size WB W → Calls Tryz.prog 37 #[.agg #[.int .i64 ps[0].kind, .int .i64 ps[0].lo, .int .i64 ps[0].hi, .slice dn ps[0].names.length dcn, .slice dp ps[0].parts.length dcp, .slice dr ps[0].rules.length dcr], .agg #[.int .i64 vps[j].n, .slice en vps[j].names.length ecn, .slice ep vps[j].parts.length ecp, .slice ee vps[j].entries.length ece]] W fun e w' => e = .returned (.bool true) ∧ Below W.heap.size W w') := hid fun W h => by
          have := HIH.out _ (List.getElem_mem hil) vps[j] [.int .i64 ps[0].kind, .int .i64 ps[0].lo, .int .i64 ps[0].hi, .slice dn ps[0].names.length dcn, .slice dp ps[0].parts.length dcp, .slice dr ps[0].rules.length dcr] [.int .i64 vps[j].n, .slice en vps[j].names.length ecn, .slice ep vps[j].parts.length ecp, .slice ee vps[j].entries.length ece] W (latRd.below (HBB.out ⟨W, h⟩) _ _ HLR.out) (valRd.below (HBB.out ⟨W, h⟩) _ _ HPR.out)
          rw [hel] at this; exact this
        have HBOT : Hid (∀ W, Below WB.heap.size WB W → Calls Tryz.prog 61 #[.agg #[.int .i64 ps[0].kind, .int .i64 ps[0].lo, .int .i64 ps[0].hi, .slice dn ps[0].names.length dcn, .slice dp ps[0].parts.length dcp, .slice dr ps[0].rules.length dcr]] W (ValPost W (botV ps[0]))) := hid fun W h => bottom_any _ ps[0] [.int .i64 ps[0].kind, .int .i64 ps[0].lo, .int .i64 ps[0].hi, .slice dn ps[0].names.length dcn, .slice dp ps[0].parts.length dcp, .slice dr ps[0].rules.length dcr] W (Nat.le_refl _) (latRd.below (HBB.out ⟨W, h⟩) _ _ HLR.out) (HWF.out.part (List.getElem_mem hil))
        have HS : Hid (∀ y : Ext WB, y.1.cell? ⟨w.heap.size, 4, none⟩ = some (.slice (some ⟨lb, lo2, none⟩) ps.length cp) ∧ y.1.cell? ⟨lb, lo2, none⟩ = some (.int .i64 ps[0].kind) ∧ y.1.cell? ⟨lb, lo2 + 1, none⟩ = some (.int .i64 ps[0].lo) ∧ y.1.cell? ⟨lb, lo2 + 2, none⟩ = some (.int .i64 ps[0].hi) ∧ y.1.cell? ⟨lb, lo2 + 3, none⟩ = some (.slice dn ps[0].names.length dcn) ∧ y.1.cell? ⟨lb, lo2 + 4, none⟩ = some (.slice dp ps[0].parts.length dcp) ∧ y.1.cell? ⟨lb, lo2 + 5, none⟩ = some (.slice dr ps[0].rules.length dcr) ∧ y.1.cell? ⟨NB, 0, none⟩ = some (.int .i64 vps[j].n) ∧ y.1.cell? ⟨NB, 1, none⟩ = some (.slice en vps[j].names.length ecn) ∧ y.1.cell? ⟨NB, 2, none⟩ = some (.slice ep vps[j].parts.length ecp) ∧ y.1.cell? ⟨NB, 3, none⟩ = some (.slice ee vps[j].entries.length ece)) := hid fun y => ⟨l4b y, k0 y, k1 y, k2 y, k3 y, k4 y, k5 y, p0 y, p1 y, p2 y, p3 y⟩
        clear l4b k0 k1 k2 k3 k4 k5 p0 p1 p2 p3
        cases hq : decide (valC vps[j] (botV ps[0]) = 0)
        · have hne : ¬ (valC vps[j] (botV ps[0]) = 0) := of_decide_eq_false hq
          have HF : Hid (R = (vps.drop (j + 1)).all fun v => elemB ps[0] v && decide (valC v (botV ps[0]) ≠ 0)) := hid (by rw [HDJ.out, hel, decide_eq_true (show valC vps[j] (botV ps[0]) ≠ 0 from hne)]; rfl)
          clear hel hne
          have HEQ2 : Hid (∀ (W : World) (cs : List Value), Below WB.heap.size WB W → valRd W (botV ps[0]) cs → Calls Tryz.prog 22 #[.agg #[.int .i64 vps[j].n, .slice en vps[j].names.length ecn, .slice ep vps[j].parts.length ecp, .slice ee vps[j].entries.length ece], .agg cs.toArray] W fun e w' => e = .returned (.bool false) ∧ Below W.heap.size W w') := hid fun W cs h hc => by have := equal_any vps[j] (botV ps[0]) [.int .i64 vps[j].n, .slice en vps[j].names.length ecn, .slice ep vps[j].parts.length ecp, .slice ee vps[j].entries.length ece] cs W (valRd.below (HBB.out ⟨W, h⟩) _ _ HPR.out) hc; rw [hq] at this; exact this
          clear hq
          first
           | (go_region_held3 (fun w' => w'.cell? ⟨w.heap.size, 4, none⟩ = some (.slice (some ⟨lb, lo2, none⟩) ps.length cp) ∧ w'.cell? ⟨lb, lo2, none⟩ = some (.int .i64 ps[0].kind) ∧ w'.cell? ⟨lb, lo2 + 1, none⟩ = some (.int .i64 ps[0].lo) ∧ w'.cell? ⟨lb, lo2 + 2, none⟩ = some (.int .i64 ps[0].hi) ∧ w'.cell? ⟨lb, lo2 + 3, none⟩ = some (.slice dn ps[0].names.length dcn) ∧ w'.cell? ⟨lb, lo2 + 4, none⟩ = some (.slice dp ps[0].parts.length dcp) ∧ w'.cell? ⟨lb, lo2 + 5, none⟩ = some (.slice dr ps[0].rules.length dcr) ∧ w'.cell? ⟨NB, 0, none⟩ = some (.int .i64 vps[j].n) ∧ w'.cell? ⟨NB, 1, none⟩ = some (.slice en vps[j].names.length ecn) ∧ w'.cell? ⟨NB, 2, none⟩ = some (.slice ep vps[j].parts.length ecp) ∧ w'.cell? ⟨NB, 3, none⟩ = some (.slice ee vps[j].entries.length ece))
               (first
                 | exact HS.out ⟨_, (Below.refl _ _).drew⟩
                 | exact HS.out ⟨_, HB7.out⟩
                 | exact HS.out ⟨_, HB6.out⟩
                 | exact HS.out ⟨_, HB5.out⟩
                 | skip)
               (first
                 | (go_at_call 37
                    refine (HEL3.out _ (Below.refl _ _).drew).mono ?_
                    rintro e w5 ⟨rfl, hb5⟩
                    have HB5 : Hid (Below WB.heap.size WB w5) := hid ((Below.refl _ _).drew.trans hb5)
                    clear hb5)
                 | (go_at_call 61
                    refine (HBOT.out _ HB5.out).mono ?_
                    rintro e w6 ⟨cs6, rfl, hv6, hb6⟩
                    have HV6 := hid (valRd_mono' (only_sub _ _) hv6)
                    have HB6 : Hid (Below WB.heap.size WB w6) := hid (HB5.out.trans (hb6.mono HB5.out.size))
                    clear hb6 hv6)
                 | (go_at_call 22
                    refine (HEQ2.out _ _ HB6.out HV6.out).mono ?_
                    rintro e w7 ⟨rfl, hb7⟩
                    have HB7 : Hid (Below WB.heap.size WB w7) := hid (HB6.out.trans (hb7.mono HB6.out.size))
                    clear hb7)))
           | fail
          all_goals
           obtain ⟨x', hx'⟩ := HUP.out ⟨_, HB7.out⟩
           have hx2 : w7 = x'.1 := hx'
           rw [hx2]
           go_wp2_with fail
           go_roundw
           case rel => exact ⟨j + 1, x', by omega, by go_num, rfl, HF⟩
           case measure => simp [intOf]; omega
        · have hne : valC vps[j] (botV ps[0]) = 0 := of_decide_eq_true hq
          have HF : Hid (R = false) := hid (by rw [HDJ.out, hel, decide_eq_false (show ¬ (valC vps[j] (botV ps[0]) ≠ 0) from fun h => h hne)]; rfl)
          clear hel hne
          have HEQ2 : Hid (∀ (W : World) (cs : List Value), Below WB.heap.size WB W → valRd W (botV ps[0]) cs → Calls Tryz.prog 22 #[.agg #[.int .i64 vps[j].n, .slice en vps[j].names.length ecn, .slice ep vps[j].parts.length ecp, .slice ee vps[j].entries.length ece], .agg cs.toArray] W fun e w' => e = .returned (.bool true) ∧ Below W.heap.size W w') := hid fun W cs h hc => by have := equal_any vps[j] (botV ps[0]) [.int .i64 vps[j].n, .slice en vps[j].names.length ecn, .slice ep vps[j].parts.length ecp, .slice ee vps[j].entries.length ece] cs W (valRd.below (HBB.out ⟨W, h⟩) _ _ HPR.out) hc; rw [hq] at this; exact this
          clear hq
          first
           | (go_region_held3 (fun w' => w'.cell? ⟨w.heap.size, 4, none⟩ = some (.slice (some ⟨lb, lo2, none⟩) ps.length cp) ∧ w'.cell? ⟨lb, lo2, none⟩ = some (.int .i64 ps[0].kind) ∧ w'.cell? ⟨lb, lo2 + 1, none⟩ = some (.int .i64 ps[0].lo) ∧ w'.cell? ⟨lb, lo2 + 2, none⟩ = some (.int .i64 ps[0].hi) ∧ w'.cell? ⟨lb, lo2 + 3, none⟩ = some (.slice dn ps[0].names.length dcn) ∧ w'.cell? ⟨lb, lo2 + 4, none⟩ = some (.slice dp ps[0].parts.length dcp) ∧ w'.cell? ⟨lb, lo2 + 5, none⟩ = some (.slice dr ps[0].rules.length dcr) ∧ w'.cell? ⟨NB, 0, none⟩ = some (.int .i64 vps[j].n) ∧ w'.cell? ⟨NB, 1, none⟩ = some (.slice en vps[j].names.length ecn) ∧ w'.cell? ⟨NB, 2, none⟩ = some (.slice ep vps[j].parts.length ecp) ∧ w'.cell? ⟨NB, 3, none⟩ = some (.slice ee vps[j].entries.length ece))
               (first
                 | exact HS.out ⟨_, (Below.refl _ _).drew⟩
                 | exact HS.out ⟨_, HB7.out⟩
                 | exact HS.out ⟨_, HB6.out⟩
                 | exact HS.out ⟨_, HB5.out⟩
                 | skip)
               (first
                 | (go_at_call 37
                    refine (HEL3.out _ (Below.refl _ _).drew).mono ?_
                    rintro e w5 ⟨rfl, hb5⟩
                    have HB5 : Hid (Below WB.heap.size WB w5) := hid ((Below.refl _ _).drew.trans hb5)
                    clear hb5)
                 | (go_at_call 61
                    refine (HBOT.out _ HB5.out).mono ?_
                    rintro e w6 ⟨cs6, rfl, hv6, hb6⟩
                    have HV6 := hid (valRd_mono' (only_sub _ _) hv6)
                    have HB6 : Hid (Below WB.heap.size WB w6) := hid (HB5.out.trans (hb6.mono HB5.out.size))
                    clear hb6 hv6)
                 | (go_at_call 22
                    refine (HEQ2.out _ _ HB6.out HV6.out).mono ?_
                    rintro e w7 ⟨rfl, hb7⟩
                    have HB7 : Hid (Below WB.heap.size WB w7) := hid (HB6.out.trans (hb7.mono HB6.out.size))
                    clear hb7)))
           | fail
          all_goals
           go_wp2_with fail
           go_ret
           exact ⟨ret_bool HF.out.symm, HBB.out ⟨_, HB7.out⟩⟩
    · have HF : Hid (R = true) := hid (by rw [He.out, show vps.drop j = [] from List.drop_eq_nil_of_le (by omega)]; rfl)
      go_wp2_with fail
      go_ret
      exact ⟨ret_bool HF.out.symm, HB.out _⟩
 · have HF : Hid (R = false) := hid (by rw [HE.out, decide_eq_false hlen, Bool.and_false, Bool.false_and, Bool.false_and])
   have hlb : ((vns.length : Int) != (vps.length : Int)) = true := by simp; omega
   clear hu hlen
   go_wp2_with (go_at_call 64; refine (HCU2.out _).mono ?_; rintro e w1 ⟨rfl, y, rfl⟩)
   go_ret
   exact ⟨ret_bool HF.out.symm, HB.out _⟩
theorem element_any (f : Nat) : ∀ (l : Lat) (v : Val) (cl cv : List Value) (w : World), SizeOf.sizeOf l ≤ f → latRd w l cl → valRd w v cv → WfL l →
 Calls Tryz.prog 37 #[.agg cl.toArray, .agg cv.toArray] w fun e w' => e = .returned (.bool (elemB l v)) ∧ Below w.heap.size w w' := by
 induction f with
 | zero => intro l v cl cv w hn; cases l; simp at hn
 | succ f ih =>
   intro l v cl cv w hn hl hv hwf
   have hih : ∀ p ∈ l.parts, ∀ (v : Val) (cl cv : List Value) (W : World), latRd W p cl → valRd W v cv → Calls Tryz.prog 37 #[.agg cl.toArray, .agg cv.toArray] W fun e w' => e = .returned (.bool (elemB p v)) ∧ Below W.heap.size W w' :=
     fun p hp v cl cv W h1 h2 => ih p v cl cv W (by have := sizeOf_part hp; omega) h1 h2 (hwf.part hp)
   obtain ⟨a1, a2, a3, rfl, _, hns, hps, hrs⟩ := (latRd_iff _ _ _).1 hl
   obtain ⟨b1, b2, b3, rfl, _, hvn, hvp, hve⟩ := (valRd_iff _ _ _).1 hv
   obtain ⟨an, cn, rfl, _, _⟩ := hns.shape
   obtain ⟨ap, cp, rfl, _, _⟩ := hps.shape
   obtain ⟨ar, cr, rfl, _, _⟩ := hrs.shape
   obtain ⟨bn, bcn, rfl, _, _⟩ := hvn.shape
   obtain ⟨bp, bcp, rfl, _, _⟩ := hvp.shape
   obtain ⟨be, bce, rfl, _, _⟩ := hve.shape
   have hk := hwf.kinds.1
   clear hns hps hrs hvn hvp hve hn ih
   obtain ⟨k, lo, hi', ns, ps, rs⟩ := l
   obtain ⟨vn, vns, vps, ves⟩ := v
   simp only [Lat.kind, Lat.lo, Lat.hi, Lat.names, Lat.parts, Lat.rules, Val.n, Val.names, Val.parts, Val.entries] at hl hv hk hih ⊢
   obtain ⟨h1, h2⟩ := hk
   have hx : k = 1 ∨ k = 2 ∨ k = 3 ∨ k = 4 ∨ k = 5 ∨ k = 6 ∨ k = 7 ∨ k = 8 ∨ k = 9 ∨ k = 10 := by omega
   clear h1 h2
   rcases hx with rfl | rfl | rfl | rfl | rfl | rfl | rfl | rfl | rfl | rfl
   · exact elem_1 lo hi' ns ps rs an ap ar cn cp cr vn vns vps ves bn bp be bcn bcp bce w (hid hl) (hid hv)
   · exact elem_23 2 (.inl rfl) lo hi' ns ps rs an ap ar cn cp cr vn vns vps ves bn bp be bcn bcp bce w (hid hl) (hid hv)
   · exact elem_23 3 (.inr rfl) lo hi' ns ps rs an ap ar cn cp cr vn vns vps ves bn bp be bcn bcp bce w (hid hl) (hid hv)
   · exact elem_4 lo hi' ns ps rs an ap ar cn cp cr vn vns vps ves bn bp be bcn bcp bce w (hid hl) (hid hv)
   · exact elem_5 lo hi' ns ps rs an ap ar cn cp cr vn vns vps ves bn bp be bcn bcp bce w (hid hl) (hid hv) (hid hwf) (hid hih)
   · exact elem_67 6 (.inl rfl) lo hi' ns ps rs an ap ar cn cp cr vn vns vps ves bn bp be bcn bcp bce w (hid hl) (hid hv) (hid hwf) (hid hih)
   · exact elem_67 7 (.inr rfl) lo hi' ns ps rs an ap ar cn cp cr vn vns vps ves bn bp be bcn bcp bce w (hid hl) (hid hv) (hid hwf) (hid hih)
   · exact elem_8 lo hi' ns ps rs an ap ar cn cp cr vn vns vps ves bn bp be bcn bcp bce w (hid hl) (hid hv)
   · exact elem_9 lo hi' ns ps rs an ap ar cn cp cr vn vns vps ves bn bp be bcn bcp bce w (hid hl) (hid hv)
   · exact elem_10 lo hi' ns ps rs an ap ar cn cp cr vn vns vps ves bn bp be bcn bcp bce w (hid hl) (hid hv)
theorem valid_any (l : Lat) (v : Val) (cl cv : List Value) (w : World) (hl : latRd w l cl) (hv : valRd w v cv) :
 Calls Tryz.prog 15 #[.agg cl.toArray, .agg cv.toArray] w fun e w' => e = .returned (.bool (validB l v)) ∧ Below w.heap.size w w' := by
 have HC : Hid (∀ W, Below w.heap.size w W → Calls Tryz.prog 36 #[.agg cl.toArray] W fun e w' => e = .returned (.int .i64 (chkE l)) ∧ Below W.heap.size W w') := hid fun W h => check_any l cl W (latRd.below h _ _ hl)
 have HEL : Hid (chkE l = 0 → ∀ W, Below w.heap.size w W → Calls Tryz.prog 37 #[.agg cl.toArray, .agg cv.toArray] W fun e w' => e = .returned (.bool (elemB l v)) ∧ Below W.heap.size W w') := hid fun h0 W h => element_any _ l v cl cv W (Nat.le_refl _) (latRd.below h _ _ hl) (valRd.below h _ _ hv) (chkE_wf h0)
 have HE : Hid (validB l v = (decide (chkE l = 0) && elemB l v)) := hid rfl
 generalize validB l v = R at HE ⊢
 generalize elemB l v = B at HE HEL
 generalize chkE l = E at HC HEL HE
 obtain ⟨a1, a2, a3, rfl, _, hns, hps, hrs⟩ := (latRd_iff _ _ _).1 hl
 obtain ⟨b1, b2, b3, rfl, _, hvn, hvp, hve⟩ := (valRd_iff _ _ _).1 hv
 obtain ⟨an, cn, rfl, _, _⟩ := hns.shape
 obtain ⟨ap, cp, rfl, _, _⟩ := hps.shape
 obtain ⟨ar, cr, rfl, _, _⟩ := hrs.shape
 obtain ⟨bn, bcn, rfl, _, _⟩ := hvn.shape
 obtain ⟨bp, bcp, rfl, _, _⟩ := hvp.shape
 obtain ⟨be, bce, rfl, _, _⟩ := hve.shape
 clear hns hps hrs hvn hvp hve hl hv
 have HB : Hid (∀ O1 O2, Below w.heap.size w ((w.alloc O1).alloc O2)) := hid fun O1 O2 => ((Below.refl _ _).alloc (Nat.le_refl _) O1).alloc (by simp) O2
 go_enter Tryz.func15, Tryz.ntmps15
 go_wp2_with fail
 generalize hW2 : (w.alloc (.cells #[.int .i64 l.kind, .int .i64 l.lo, .int .i64 l.hi, .slice an l.names.length cn, .slice ap l.parts.length cp, .slice ar l.rules.length cr] 26)).alloc (.cells #[.int .i64 v.n, .slice bn v.names.length bcn, .slice bp v.parts.length bcp, .slice be v.entries.length bce] 30) = W2
 have HB2 : Hid (Below w.heap.size w W2) := hid (by rw [← hW2]; exact HB.out _ _)
 have HX : Hid (∀ w', Below W2.heap.size W2 w' → (∀ (i : Nat) u, #[Value.int .i64 l.kind, .int .i64 l.lo, .int .i64 l.hi, .slice an l.names.length cn, .slice ap l.parts.length cp, .slice ar l.rules.length cr][i]? = some u → w'.cell? ⟨w.heap.size, i, none⟩ = some u) ∧ (∀ (i : Nat) u, #[Value.int .i64 v.n, .slice bn v.names.length bcn, .slice bp v.parts.length bcp, .slice be v.entries.length bce][i]? = some u → w'.cell? ⟨w.heap.size + 1, i, none⟩ = some u)) :=
  hid fun w' h => two_boxes w _ _ 26 30 (by rw [← hW2] at h; exact h.mono (by simp))
 clear hW2
 refine (HC.out _ HB2.out).mono ?_
 rintro e w1 ⟨rfl, hb1⟩
 have HB1 : Hid (Below W2.heap.size W2 w1) := hid hb1
 have HBW := hid (HB2.out.trans (hb1.mono HB2.out.size))
 clear hb1
 have f0 := (HX.out _ HB1.out).1 0 _ rfl
 have f1 := (HX.out _ HB1.out).1 1 _ rfl
 have f2 := (HX.out _ HB1.out).1 2 _ rfl
 have f3 := (HX.out _ HB1.out).1 3 _ rfl
 have f4 := (HX.out _ HB1.out).1 4 _ rfl
 have f5 := (HX.out _ HB1.out).1 5 _ rfl
 have g0 := (HX.out _ HB1.out).2 0 _ rfl
 have g1 := (HX.out _ HB1.out).2 1 _ rfl
 have g2 := (HX.out _ HB1.out).2 2 _ rfl
 have g3 := (HX.out _ HB1.out).2 3 _ rfl
 by_cases hE : E = 0
 · subst hE
   have HE2 : Hid (R = B) := hid (by rw [HE.out]; simp)
   have HEL2 := hid (HEL.out rfl)
   clear HEL
   go_wp2_with fail
   refine (HEL2.out _ HBW.out).mono ?_
   rintro e w2 ⟨rfl, hb2⟩
   have HBF := hid (HBW.out.trans (hb2.mono HBW.out.size))
   clear hb2
   go_wp2_with fail
   go_ret
   exact ⟨ret_bool HE2.out.symm, HBF.out⟩
 · have hEb : (E == 0) = false := by simpa using hE
   have HE2 : Hid (R = false) := hid (by rw [HE.out, decide_eq_false hE]; rfl)
   clear hE
   go_wp2_with fail
   go_ret
   exact ⟨ret_bool HE2.out.symm, HBW.out⟩
def strOf (l : List UInt8) : ByteArray := ⟨l.toArray⟩
def rdText (s : RS) : ByteArray × RS := (strOf (rdBytes s).1, (rdBytes s).2)
def rdSmall (m : Nat) (s : RS) : Nat × RS := (if m < (rdUint s).1 then 0 else (rdUint s).1, if m < (rdUint s).1 then (rdUint s).2.fail else (rdUint s).2)
theorem rdSmall_le (m : Nat) (s : RS) : (rdSmall m s).1 ≤ m := by
 unfold rdSmall
 show (if m < (rdUint s).1 then 0 else (rdUint s).1) ≤ m
 split <;> omega
def rdLoop {α : Type} (f : RS → α × RS) : Nat → RS → List α × RS
 | 0, s => ([], s)
 | n + 1, s => if s.err = 0 then ((f s).1 :: (rdLoop f n (f s).2).1, (rdLoop f n (f s).2).2) else ([], s)
theorem rdLoop_zero {α : Type} (f : RS → α × RS) (s : RS) : rdLoop f 0 s = ([], s) := rfl
theorem rdLoop_bad {α : Type} (f : RS → α × RS) (n : Nat) (s : RS) (h : s.err ≠ 0) : rdLoop f n s = ([], s) := by
 cases n with
 | zero => rfl
 | succ n => unfold rdLoop; rw [if_neg h]
theorem rdLoop_go {α : Type} (f : RS → α × RS) (n : Nat) (s : RS) (h : s.err = 0) : rdLoop f (n + 1) s = ((f s).1 :: (rdLoop f n (f s).2).1, (rdLoop f n (f s).2).2) := by
 conv => lhs; unfold rdLoop
 rw [if_pos h]
def LoopAt {α : Type} (R : List α × RS) (f : RS → α × RS) (acc : List α) (k : Nat) (s : RS) : Prop := R = (acc ++ (rdLoop f k s).1, (rdLoop f k s).2)
theorem LoopAt.start {α : Type} (f : RS → α × RS) (k : Nat) (s : RS) : LoopAt (rdLoop f k s) f [] k s := rfl
theorem LoopAt.step {α : Type} {R : List α × RS} {f : RS → α × RS} {acc : List α} {k : Nat} {s : RS} (h : LoopAt R f acc (k + 1) s) (he : s.err = 0) : LoopAt R f (acc ++ [(f s).1]) k (f s).2 := by
 unfold LoopAt at h ⊢
 rw [h, rdLoop_go f k s he, List.append_assoc]
 rfl
theorem LoopAt.end0 {α : Type} {R : List α × RS} {f : RS → α × RS} {acc : List α} {s : RS} (h : LoopAt R f acc 0 s) : R = (acc, s) := by
 unfold LoopAt at h
 rw [h, rdLoop_zero, List.append_nil]
theorem LoopAt.endE {α : Type} {R : List α × RS} {f : RS → α × RS} {acc : List α} {k : Nat} {s : RS} (h : LoopAt R f acc k s) (he : s.err ≠ 0) : R = (acc, s) := by
 unfold LoopAt at h
 rw [h, rdLoop_bad f k s he, List.append_nil]
def rdTick (s : RS) : Tk × RS := (⟨((rdSmall 63 s).1 : Nat), ((rdSmall 1000000000000000 (rdSmall 63 s).2).1 : Nat)⟩, (rdSmall 1000000000000000 (rdSmall 63 s).2).2)
def rdClock (s : RS) : List Tk × RS := rdLoop rdTick (rdCount s).1 (rdCount s).2
def rdEntry (s : RS) : En × RS := (⟨(rdClock s).1, (rdText (rdClock s).2).1⟩, (rdText (rdClock s).2).2)
def rdPair (f : RS → Val × RS) (s : RS) : (ByteArray × Val) × RS := (((rdText s).1, (f (rdText s).2).1), (f (rdText s).2).2)
mutual
def readV : Lat → RS → Val × RS
 | .mk k _ _ _ ps _, s =>
   if k = 1 then (.mk (if (rdBool s).1 then 1 else 0) [] [] [], (rdBool s).2)
   else if k = 2 ∨ k = 3 then (.mk (rdInt s).1 [] [] [], (rdInt s).2)
   else if k = 4 ∨ k = 10 then (.mk 0 (rdLoop rdText (rdCount s).1 (rdCount s).2).1 [] [], (rdLoop rdText (rdCount s).1 (rdCount s).2).2)
   else if k = 5 then (.mk 0 ((readMap ps (rdCount s).1 (rdCount s).2).1.map Prod.fst) ((readMap ps (rdCount s).1 (rdCount s).2).1.map Prod.snd) [], (readMap ps (rdCount s).1 (rdCount s).2).2)
   else if k = 8 then (if (rdSmall 2 s).1 = 1 then (.mk 1 [(rdText (rdSmall 2 s).2).1] [] [], (rdText (rdSmall 2 s).2).2) else (.mk ((rdSmall 2 s).1 : Nat) [] [] [], (rdSmall 2 s).2))
   else if k = 9 then (.mk 0 [] [] (rdLoop rdEntry (rdCount s).1 (rdCount s).2).1, (rdLoop rdEntry (rdCount s).1 (rdCount s).2).2)
   else (.mk 0 [] (readParts ps s).1 [], (readParts ps s).2)
def readMap : List Lat → Nat → RS → List (ByteArray × Val) × RS
 | [], _, s => ([], s)
 | p :: _, n, s => rdLoop (rdPair (readV p)) n s
def readParts : List Lat → RS → List Val × RS
 | [], s => ([], s)
 | p :: ps, s => ((readV p s).1 :: (readParts ps (readV p s).2).1, (readParts ps (readV p s).2).2)
end
theorem usedB_4 {v : Val} {n list parts entries : Bool} : usedB v n list parts entries = true ↔ (n = true ∨ v.n = 0) ∧ (list = true ∨ v.names = []) ∧ (parts = true ∨ v.parts = []) ∧ (entries = true ∨ v.entries = []) := by
 unfold usedB
 simp only [Bool.and_eq_true, Bool.or_eq_true, decide_eq_true_eq, List.length_eq_zero_iff, and_assoc]
section
variable {k lo hi : Int} {ns : List ByteArray} {ps : List Lat} {rs : List Rl} {v : Val}
theorem isE_1 : elemB (.mk 1 lo hi ns ps rs) v = true ↔ (v.n = 0 ∨ v.n = 1) ∧ v.names = [] ∧ v.parts = [] ∧ v.entries = [] := by
 rw [elemB, if_pos (by rfl), Bool.and_eq_true, usedB_4, decide_eq_true_eq]
 simp only [Bool.false_eq_true, false_or, true_or, true_and]
 exact and_comm
theorem isE_23 (e : k = 2 ∨ k = 3) : elemB (.mk k lo hi ns ps rs) v = true ↔ (lo ≤ v.n ∧ v.n ≤ hi) ∧ v.names = [] ∧ v.parts = [] ∧ v.entries = [] := by
 rw [elemB, if_neg (by omega), if_pos e, Bool.and_eq_true, usedB_4, decide_eq_true_eq]
 simp only [Bool.false_eq_true, false_or, true_or, true_and]
 exact and_comm
theorem isE_4 : elemB (.mk 4 lo hi ns ps rs) v = true ↔ (v.n = 0 ∧ v.parts = [] ∧ v.entries = []) ∧ allowedB ns v.names = true := by
 rw [elemB, if_neg (by decide), if_neg (by decide), if_pos (by rfl), Bool.and_eq_true, usedB_4]
 simp only [Bool.false_eq_true, false_or, true_or, true_and]
theorem isE_10 : elemB (.mk 10 lo hi ns ps rs) v = true ↔ (v.n = 0 ∧ v.parts = [] ∧ v.entries = []) ∧ allowedB ns v.names = true ∧ closedB rs v.names = true := by
 rw [elemB, if_neg (by decide), if_neg (by decide), if_neg (by decide), if_pos (by rfl), Bool.and_eq_true, Bool.and_eq_true, usedB_4]
 simp only [Bool.false_eq_true, false_or, true_or, true_and, and_assoc]
theorem isE_410 (e : k = 4 ∨ k = 10) (h : elemB (.mk k lo hi ns ps rs) v = true) : (v.n = 0 ∧ v.parts = [] ∧ v.entries = []) ∧ allowedB ns v.names = true := by
 rcases e with rfl | rfl
 · exact isE_4.1 h
 · exact ⟨(isE_10.1 h).1, (isE_10.1 h).2.1⟩
theorem isE_8 : elemB (.mk 8 lo hi ns ps rs) v = true ↔ v.parts = [] ∧ v.entries = [] ∧ ((v.n = 0 ∧ v.names = []) ∨ (v.n = 2 ∧ v.names = []) ∨ (v.n = 1 ∧ v.names.length = 1 ∧ allowedB ns v.names = true)) := by
 rw [elemB, if_neg (by decide), if_neg (by decide), if_neg (by decide), if_neg (by decide), if_pos (by rfl)]
 by_cases h02 : v.n = 0 ∨ v.n = 2
 · rw [if_pos h02, usedB_4]
   simp only [Bool.false_eq_true, false_or, true_or, true_and]
   constructor
   · rintro ⟨a, b, c⟩
     refine ⟨b, c, ?_⟩
     rcases h02 with h | h
     · exact .inl ⟨h, a⟩
     · exact .inr (.inl ⟨h, a⟩)
   · rintro ⟨b, c, h | h | h⟩
     · exact ⟨h.2, b, c⟩
     · exact ⟨h.2, b, c⟩
     · omega
 · rw [if_neg h02]
   by_cases h1 : v.n = 1
   · rw [if_pos h1, Bool.and_eq_true, Bool.and_eq_true, usedB_4, decide_eq_true_eq]
     simp only [Bool.false_eq_true, false_or, true_or, true_and]
     constructor
     · rintro ⟨⟨⟨a, b⟩, c⟩, d⟩
       exact ⟨a, b, .inr (.inr ⟨h1, c, d⟩)⟩
     · rintro ⟨b, c, h | h | h⟩
       · omega
       · omega
       · exact ⟨⟨⟨b, c⟩, h.2.1⟩, h.2.2⟩
   · rw [if_neg h1]
     constructor
     · intro h; cases h
     · rintro ⟨_, _, h | h | h⟩ <;> omega
theorem isE_9 : elemB (.mk 9 lo hi ns ps rs) v = true ↔ (v.n = 0 ∧ v.names = [] ∧ v.parts = []) ∧ regB v.entries = true := by
 rw [elemB, if_neg (by decide), if_neg (by decide), if_neg (by decide), if_neg (by decide), if_neg (by decide), if_pos (by rfl), Bool.and_eq_true, usedB_4]
 simp only [Bool.false_eq_true, false_or, true_or, true_and, and_true]
theorem isE_5 : elemB (.mk 5 lo hi ns ps rs) v = true ↔ (v.n = 0 ∧ v.entries = []) ∧ v.names.length = v.parts.length ∧ allowedB ns v.names = true ∧ mapB ps v.parts = true := by
 rw [elemB, if_neg (by decide), if_neg (by decide), if_neg (by decide), if_neg (by decide), if_neg (by decide), if_neg (by decide), if_pos (by rfl), Bool.and_eq_true, Bool.and_eq_true, Bool.and_eq_true, usedB_4, decide_eq_true_eq]
 simp only [Bool.false_eq_true, false_or, true_or, true_and, and_assoc]
theorem isE_67 (e : k = 6 ∨ k = 7) : elemB (.mk k lo hi ns ps rs) v = true ↔ (v.n = 0 ∧ v.names = [] ∧ v.entries = []) ∧ v.parts.length = ps.length ∧ elemsB ps v.parts = true := by
 rw [elemB, if_neg (by omega), if_neg (by omega), if_neg (by omega), if_neg (by omega), if_neg (by omega), if_neg (by omega), if_neg (by omega), Bool.and_eq_true, Bool.and_eq_true, usedB_4, decide_eq_true_eq]
 simp only [Bool.false_eq_true, false_or, true_or, true_and, and_assoc]
end
theorem mapB_one (p : Lat) (vs : List Val) : mapB [p] vs = true ↔ ∀ v ∈ vs, elemB p v = true ∧ valC v (botV p) ≠ 0 := by
 rw [mapB, List.all_eq_true]
 constructor
 · intro h v hv
   have := h v hv
   rw [Bool.and_eq_true, decide_eq_true_eq] at this
   exact this
 · intro h v hv
   rw [Bool.and_eq_true, decide_eq_true_eq]
   exact h v hv
theorem elemsB_iff : ∀ (ps : List Lat) (vs : List Val), vs.length = ps.length → (elemsB ps vs = true ↔ ∀ i (h : i < ps.length) (h' : i < vs.length), elemB ps[i] vs[i] = true)
 | [], [], _ => ⟨fun _ i h => by simp at h, fun _ => by rw [elemsB]⟩
 | [], _ :: _, h => by simp at h
 | _ :: _, [], h => by simp at h
 | p :: ps, v :: vs, h => by
   rw [elemsB, Bool.and_eq_true, elemsB_iff ps vs (by simpa using h)]
   constructor
   · rintro ⟨h1, h2⟩ i hi hi'
     cases i with
     | zero => exact h1
     | succ i => exact h2 i (by simpa using hi) (by simpa using hi')
   · intro h
     exact ⟨h 0 (by simp) (by simp), fun i hi hi' => h (i + 1) (by simpa using hi) (by simpa using hi')⟩
theorem allowed_names {only list : List ByteArray} (h : allowedB only list = true) : ∀ s ∈ list, nameB s = true := fun s hs => by
  unfold allowedB at h
  rw [Bool.and_eq_true] at h
  have := List.all_eq_true.1 h.2 s hs
  unfold memB at this
  rw [Bool.and_eq_true] at this
  exact this.1
theorem name_le {s : ByteArray} (h : nameB s = true) : 1 ≤ s.size ∧ s.size ≤ 16 := by
 unfold nameB at h
 rw [Bool.and_eq_true] at h
 exact of_decide_eq_true h.1
end Go.Proofs.YtmdjnaobllajmaaGreatDoor
