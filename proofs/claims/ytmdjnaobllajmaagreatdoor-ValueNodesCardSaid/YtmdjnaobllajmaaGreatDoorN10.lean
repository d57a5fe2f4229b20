/-
  What the statements of the chapter share, part 10: VElem3, VElem4, DSpec, PElem, PEnc, VWri0.
-/
import Derived.Test.YtmdjnaobllajmaaGreatDoorN04
import Derived.Test.YtmdjnaobllajmaaGreatDoorN07
import Derived.Test.YtmdjnaobllajmaaGreatDoorN08
import Derived.Test.YtmdjnaobllajmaaGreatDoorN09
set_option linter.unusedVariables false
set_option linter.unusedSimpArgs false
set_option maxRecDepth 100000
set_option maxHeartbeats 8000000
namespace Go.Proofs.YtmdjnaobllajmaaGreatDoor
open Go.RowKit
theorem mapB_eq (ps : List Lat) (vs : List Val) (h : 0 < ps.length) : mapB ps vs = vs.all fun v => elemB ps[0] v && decide (valC v (botV ps[0]) ≠ 0) := by
  cases ps with
  | nil => simp at h
  | cons p t => rw [mapB]; rfl
theorem elem_5 (lo hi' : Int) (ns : List ByteArray) (ps : List Lat) (rs : List Rl) (an ap ar : Option Addr) (cn cp cr : Nat) (vn : Int) (vns : List ByteArray) (vps : List Val) (ves : List En) (bn bp be : Option Addr) (bcn bcp bce : Nat) (w : World)
    (HL : Hid (latRd w (.mk 5 lo hi' ns ps rs) [.int .i64 5, .int .i64 lo, .int .i64 hi', .slice an ns.length cn, .slice ap ps.length cp, .slice ar rs.length cr])) (HV : Hid (valRd w (.mk vn vns vps ves) [.int .i64 vn, .slice bn vns.length bcn, .slice bp vps.length bcp, .slice be ves.length bce]))
    (HWF : Hid (WfL (.mk 5 lo hi' ns ps rs))) (HIH : Hid (∀ p ∈ ps, ∀ (v : Val) (cl cv : List Value) (W : World), latRd W p cl → valRd W v cv → Calls Tryz.prog 37 #[.agg cl.toArray, .agg cv.toArray] W fun e w' => e = .returned (.bool (elemB p v)) ∧ Below W.heap.size W w')) :
    Calls Tryz.prog 37 #[.agg #[.int .i64 5, .int .i64 lo, .int .i64 hi', .slice an ns.length cn, .slice ap ps.length cp, .slice ar rs.length cr], .agg #[.int .i64 vn, .slice bn vns.length bcn, .slice bp vps.length bcp, .slice be ves.length bce]] w fun e w' => e = .returned (.bool (elemB (.mk 5 lo hi' ns ps rs) (.mk vn vns vps ves))) ∧ Below w.heap.size w w' := by
  have HE : Hid (elemB (.mk 5 lo hi' ns ps rs) (.mk vn vns vps ves) = (usedB (.mk vn vns vps ves) false true true false && decide (vns.length = vps.length) && allowedB ns vns && mapB ps vps)) := hid (by rw [elemB_eq]; rfl)
  generalize elemB (.mk 5 lo hi' ns ps rs) (.mk vn vns vps ves) = R at HE ⊢
  have HB : Hid (∀ x : Ext ((w.alloc (.cells #[.int .i64 5, .int .i64 lo, .int .i64 hi', .slice an ns.length cn, .slice ap ps.length cp, .slice ar rs.length cr] 26)).alloc (.cells #[.int .i64 vn, .slice bn vns.length bcn, .slice bp vps.length bcp, .slice be ves.length bce] 30)), Below w.heap.size w x.1) := hid fun x => (((Below.refl _ _).alloc (Nat.le_refl _) _).alloc (by simp) _).trans (x.2.mono (by simp; omega))
  have HX : Hid (∀ x : Ext ((w.alloc (.cells #[.int .i64 5, .int .i64 lo, .int .i64 hi', .slice an ns.length cn, .slice ap ps.length cp, .slice ar rs.length cr] 26)).alloc (.cells #[.int .i64 vn, .slice bn vns.length bcn, .slice bp vps.length bcp, .slice be ves.length bce] 30)), (∀ (i : Nat) v, #[.int .i64 5, .int .i64 lo, .int .i64 hi', .slice an ns.length cn, .slice ap ps.length cp, .slice ar rs.length cr][i]? = some v → x.1.cell? ⟨w.heap.size, i, none⟩ = some v) ∧ (∀ (i : Nat) v, #[.int .i64 vn, .slice bn vns.length bcn, .slice bp vps.length bcp, .slice be ves.length bce][i]? = some v → x.1.cell? ⟨w.heap.size + 1, i, none⟩ = some v)) :=
    hid fun x => two_boxes w #[.int .i64 5, .int .i64 lo, .int .i64 hi', .slice an ns.length cn, .slice ap ps.length cp, .slice ar rs.length cr] #[.int .i64 vn, .slice bn vns.length bcn, .slice bp vps.length bcp, .slice be ves.length bce] 26 30 (x.2.mono (by simp))
  have HVP : Hid (SlRd w 4 (valRd w) (.slice bp vps.length bcp) vps) := hid (by obtain ⟨_, _, _, gg, _, _, g4, _⟩ := (valRd_iff _ _ _).1 HV.out; cases gg; exact g4)
  have HLPS : Hid (SlRd w 6 (latRd w) (.slice ap ps.length cp) ps) := hid (by obtain ⟨_, _, _, hh, _, _, h4, _⟩ := (latRd_iff _ _ _).1 HL.out; cases hh; exact h4)
  have HVM : Hid (vps.length ≤ 9223372036854775807) := hid (by obtain ⟨_, _, _, _, h⟩ := HVP.out.shape; exact h)
  go_enter Tryz.func37, Tryz.ntmps37
  go_wp2_with fail
  generalize (w.alloc (.cells #[.int .i64 5, .int .i64 lo, .int .i64 hi', .slice an ns.length cn, .slice ap ps.length cp, .slice ar rs.length cr] 26)).alloc (.cells #[.int .i64 vn, .slice bn vns.length bcn, .slice bp vps.length bcp, .slice be ves.length bce] 30) = W2 at HB HX ⊢
  obtain ⟨x0, hx⟩ := ext_self W2
  rw [hx]
  clear hx
  have l0 : ∀ x : Ext W2, x.1.cell? ⟨w.heap.size, 0, none⟩ = some (.int .i64 5) := fun x => (HX.out x).1 0 _ rfl
  have l3 : ∀ x : Ext W2, x.1.cell? ⟨w.heap.size, 3, none⟩ = some (.slice an ns.length cn) := fun x => (HX.out x).1 3 _ rfl
  have l4 : ∀ x : Ext W2, x.1.cell? ⟨w.heap.size, 4, none⟩ = some (.slice ap ps.length cp) := fun x => (HX.out x).1 4 _ rfl
  have v0 : ∀ x : Ext W2, x.1.cell? ⟨w.heap.size + 1, 0, none⟩ = some (.int .i64 vn) := fun x => (HX.out x).2 0 _ rfl
  have v1 : ∀ x : Ext W2, x.1.cell? ⟨w.heap.size + 1, 1, none⟩ = some (.slice bn vns.length bcn) := fun x => (HX.out x).2 1 _ rfl
  have v2 : ∀ x : Ext W2, x.1.cell? ⟨w.heap.size + 1, 2, none⟩ = some (.slice bp vps.length bcp) := fun x => (HX.out x).2 2 _ rfl
  have v3 : ∀ x : Ext W2, x.1.cell? ⟨w.heap.size + 1, 3, none⟩ = some (.slice be ves.length bce) := fun x => (HX.out x).2 3 _ rfl
  have HCU : Hid (∀ (q1 q2 q3 q4 : Bool) (x : Ext W2), Calls Tryz.prog 64 #[.agg #[.int .i64 vn, .slice bn vns.length bcn, .slice bp vps.length bcp, .slice be ves.length bce], .bool q1, .bool q2, .bool q3, .bool q4] x.1 fun e w' => e = .returned (.bool (usedB (.mk vn vns vps ves) q1 q2 q3 q4)) ∧ ∃ y : Ext W2, w' = y.1) :=
    hid fun _ _ _ _ x => ext_call x (used_any _ [.int .i64 vn, .slice bn vns.length bcn, .slice bp vps.length bcp, .slice be ves.length bce] _ _ _ _ _ (valRd.below (HB.out x) _ _ HV.out))
  have HCA : Hid (∀ x : Ext W2, Calls Tryz.prog 65 #[.slice an ns.length cn, .slice bn vns.length bcn] x.1 fun e w' => e = .returned (.bool (allowedB ns vns)) ∧ ∃ y : Ext W2, w' = y.1) := hid fun x => by
    obtain ⟨_, _, _, hh, _, h3, _⟩ := (latRd_iff _ _ _).1 (latRd.below (HB.out x) _ _ HL.out)
    obtain ⟨_, _, _, gg, _, g3, _⟩ := (valRd_iff _ _ _).1 (valRd.below (HB.out x) _ _ HV.out)
    cases hh; cases gg
    exact ext_call x (allowed_any _ _ ns vns _ h3 g3)
  cases hu : usedB (.mk vn vns vps ves) false true true false
  · have HCU2 : Hid (∀ x : Ext W2, Calls Tryz.prog 64 #[.agg #[.int .i64 vn, .slice bn vns.length bcn, .slice bp vps.length bcp, .slice be ves.length bce], .bool false, .bool true, .bool true, .bool false] x.1 fun e w' => e = .returned (.bool false) ∧ ∃ y : Ext W2, w' = y.1) := hid fun x => by have := HCU.out false true true false x; rw [hu] at this; exact this
    have HF : Hid (R = false) := hid (by rw [HE.out, hu]; rfl)
    clear hu
    go_wp2_with (go_at_call 64; refine (HCU2.out _).mono ?_; rintro e w1 ⟨rfl, y, rfl⟩)
    go_ret
    exact ⟨ret_bool HF.out.symm, HB.out _⟩
  have HCU2 : Hid (∀ x : Ext W2, Calls Tryz.prog 64 #[.agg #[.int .i64 vn, .slice bn vns.length bcn, .slice bp vps.length bcp, .slice be ves.length bce], .bool false, .bool true, .bool true, .bool false] x.1 fun e w' => e = .returned (.bool true) ∧ ∃ y : Ext W2, w' = y.1) := hid fun x => by have := HCU.out false true true false x; rw [hu] at this; exact this
  by_cases hlen : vns.length = vps.length
  · have hlb : ((vns.length : Int) != (vps.length : Int)) = false := by simp [hlen]
    cases ha : allowedB ns vns
    · have HCA2 : Hid (∀ x : Ext W2, Calls Tryz.prog 65 #[.slice an ns.length cn, .slice bn vns.length bcn] x.1 fun e w' => e = .returned (.bool false) ∧ ∃ y : Ext W2, w' = y.1) := hid fun x => by have := HCA.out x; rw [ha] at this; exact this
      have HF : Hid (R = false) := hid (by rw [HE.out, hu, ha, decide_eq_true hlen]; rfl)
      clear hu ha hlen
      go_wp2_with (first | (go_at_call 64; refine (HCU2.out _).mono ?_; rintro e w1 ⟨rfl, y, rfl⟩) | (go_at_call 65; refine (HCA2.out _).mono ?_; rintro e w1 ⟨rfl, y, rfl⟩))
      go_ret
      exact ⟨ret_bool HF.out.symm, HB.out _⟩
    have HCA2 : Hid (∀ x : Ext W2, Calls Tryz.prog 65 #[.slice an ns.length cn, .slice bn vns.length bcn] x.1 fun e w' => e = .returned (.bool true) ∧ ∃ y : Ext W2, w' = y.1) := hid fun x => by have := HCA.out x; rw [ha] at this; exact this
    have hil : 0 < ps.length := by have h1 : ps.length = 1 := HWF.out.kinds.2.1 rfl; omega
    have HD : Hid (R = (vps.drop 0).all fun v => elemB ps[0] v && decide (valC v (botV ps[0]) ≠ 0)) := hid (by rw [HE.out, hu, ha, decide_eq_true hlen, mapB_eq ps vps hil]; rfl)
    have hvm := HVM.out
    have hil0 : (0 : Int) < (ps.length : Int) := by omega
    clear hu ha hlen
    go_wp2_with (first | (go_at_call 64; refine (HCU2.out _).mono ?_; rintro e w1 ⟨rfl, y, rfl⟩) | (go_at_call 65; refine (HCA2.out _).mono ?_; rintro e w1 ⟨rfl, y, rfl⟩))
    clear v0 v1 v2 v3 l0 l3
    go_loopw [6, 133] (fun _ i wr => ∃ (j : Nat) (x : Ext W2), j ≤ vps.length ∧ i = .int .i64 j ∧ wr = x.1 ∧ Hid (R = (vps.drop j).all fun v => elemB ps[0] v && decide (valC v (botV ps[0]) ≠ 0))) (fun _ i _ => vps.length - (intOf i).toNat)
    case atStart => exact ⟨0, _, Nat.zero_le _, rfl, rfl, HD⟩
    case round =>
      obtain ⟨j, x, hj, rfl, rfl, He⟩ := hrel
      by_cases hlt : j < vps.length
      · have HDJ : Hid (R = ((elemB ps[0] vps[j] && decide (valC vps[j] (botV ps[0]) ≠ 0)) && (vps.drop (j + 1)).all fun v => elemB ps[0] v && decide (valC v (botV ps[0]) ≠ 0))) := hid (by rw [He.out, drop_consS vps j hlt, List.all_cons])
        obtain ⟨pb, po, pcs, hpb, _, pcell, prd⟩ := (HVP.out).at j hlt
        subst hpb
        have HPR := hid prd
        obtain ⟨qn, qp, qe, rfl, _, pn, pp, pe⟩ := (valRd_iff _ _ _).1 prd
        obtain ⟨en, ecn, rfl, _, _⟩ := pn.shape
        obtain ⟨ep, ecp, rfl, _, _⟩ := pp.shape
        obtain ⟨ee, ece, rfl, _, _⟩ := pe.shape
        have r0 : x.1.cell? ⟨pb, po + j * 4, none⟩ = some (.int .i64 vps[j].n) := (pcell.below (HB.out x)) 0 (by simp)
        have r1 : x.1.cell? ⟨pb, po + j * 4 + 1, none⟩ = some (.slice en vps[j].names.length ecn) := (pcell.below (HB.out x)) 1 (by simp)
        have r2 : x.1.cell? ⟨pb, po + j * 4 + 2, none⟩ = some (.slice ep vps[j].parts.length ecp) := (pcell.below (HB.out x)) 2 (by simp)
        have r3 : x.1.cell? ⟨pb, po + j * 4 + 3, none⟩ = some (.slice ee vps[j].entries.length ece) := (pcell.below (HB.out x)) 3 (by simp)
        clear prd pn pp pe pcell
        obtain ⟨lb, lo2, lcs, hlb, _, lcell, lrd⟩ := (HLPS.out).at 0 hil
        subst hlb
        have HLR := hid lrd
        obtain ⟨kn, kp, kr, rfl, _, ln, lp, lr⟩ := (latRd_iff _ _ _).1 lrd
        obtain ⟨dn, dcn, rfl, _, _⟩ := ln.shape
        obtain ⟨dp, dcp, rfl, _, _⟩ := lp.shape
        obtain ⟨dr, dcr, rfl, _, _⟩ := lr.shape
        have HLC : Hid (∀ z : World, Below w.heap.size w z → z.cell? ⟨lb, lo2, none⟩ = some (.int .i64 ps[0].kind) ∧ z.cell? ⟨lb, lo2 + 1, none⟩ = some (.int .i64 ps[0].lo) ∧ z.cell? ⟨lb, lo2 + 2, none⟩ = some (.int .i64 ps[0].hi) ∧ z.cell? ⟨lb, lo2 + 3, none⟩ = some (.slice dn ps[0].names.length dcn) ∧ z.cell? ⟨lb, lo2 + 4, none⟩ = some (.slice dp ps[0].parts.length dcp) ∧ z.cell? ⟨lb, lo2 + 5, none⟩ = some (.slice dr ps[0].rules.length dcr)) := hid fun z hz => by have := (lcell.below hz).six; simpa using this
        clear lrd ln lp lr lcell
        go_wp2_with fail
        have HBB : Hid (∀ y : Ext (x.1.alloc (.cells #[.int .i64 vps[j].n, .slice en vps[j].names.length ecn, .slice ep vps[j].parts.length ecp, .slice ee vps[j].entries.length ece] 30)), Below w.heap.size w y.1) := hid fun y => ((HB.out x).alloc (HB.out x).size _).trans (y.2.mono (by have := (HB.out x).size; simp; omega))
        have HPB : Hid (∀ y : Ext (x.1.alloc (.cells #[.int .i64 vps[j].n, .slice en vps[j].names.length ecn, .slice ep vps[j].parts.length ecp, .slice ee vps[j].entries.length ece] 30)), ∀ (i : Nat) v, #[.int .i64 vps[j].n, .slice en vps[j].names.length ecn, .slice ep vps[j].parts.length ecp, .slice ee vps[j].entries.length ece][i]? = some v → y.1.cell? ⟨x.1.heap.size, i, none⟩ = some v) := hid fun y i v hv => y.cell (by rw [World.cell?_alloc_at _ _ _ _ rfl]; exact hv)
        have HUP : Hid (∀ y : Ext (x.1.alloc (.cells #[.int .i64 vps[j].n, .slice en vps[j].names.length ecn, .slice ep vps[j].parts.length ecp, .slice ee vps[j].entries.length ece] 30)), ∃ x' : Ext W2, y.1 = x'.1) := hid fun y => ⟨⟨y.1, (x.2.alloc x.2.size _).trans (y.2.mono (by have := x.2.size; simp; omega))⟩, rfl⟩
        generalize x.1.heap.size = NB at HPB ⊢
        generalize x.1.alloc (.cells #[.int .i64 vps[j].n, .slice en vps[j].names.length ecn, .slice ep vps[j].parts.length ecp, .slice ee vps[j].entries.length ece] 30) = WB at HBB HPB HUP ⊢
        have l4b : ∀ y : Ext WB, y.1.cell? ⟨w.heap.size, 4, none⟩ = some (.slice (some ⟨lb, lo2, none⟩) ps.length cp) := fun y => by obtain ⟨x', h⟩ := HUP.out y; rw [h]; exact l4 x'
        have p0 : ∀ y : Ext WB, y.1.cell? ⟨NB, 0, none⟩ = some (.int .i64 vps[j].n) := fun y => (HPB.out y) 0 _ rfl
        have p1 : ∀ y : Ext WB, y.1.cell? ⟨NB, 1, none⟩ = some (.slice en vps[j].names.length ecn) := fun y => (HPB.out y) 1 _ rfl
        have p2 : ∀ y : Ext WB, y.1.cell? ⟨NB, 2, none⟩ = some (.slice ep vps[j].parts.length ecp) := fun y => (HPB.out y) 2 _ rfl
        have p3 : ∀ y : Ext WB, y.1.cell? ⟨NB, 3, none⟩ = some (.slice ee vps[j].entries.length ece) := fun y => (HPB.out y) 3 _ rfl
        have k0 : ∀ y : Ext WB, y.1.cell? ⟨lb, lo2, none⟩ = some (.int .i64 ps[0].kind) := fun y => (HLC.out _ (HBB.out y)).1
        have k1 : ∀ y : Ext WB, y.1.cell? ⟨lb, lo2 + 1, none⟩ = some (.int .i64 ps[0].lo) := fun y => (HLC.out _ (HBB.out y)).2.1
        have k2 : ∀ y : Ext WB, y.1.cell? ⟨lb, lo2 + 2, none⟩ = some (.int .i64 ps[0].hi) := fun y => (HLC.out _ (HBB.out y)).2.2.1
        have k3 : ∀ y : Ext WB, y.1.cell? ⟨lb, lo2 + 3, none⟩ = some (.slice dn ps[0].names.length dcn) := fun y => (HLC.out _ (HBB.out y)).2.2.2.1
        have k4 : ∀ y : Ext WB, y.1.cell? ⟨lb, lo2 + 4, none⟩ = some (.slice dp ps[0].parts.length dcp) := fun y => (HLC.out _ (HBB.out y)).2.2.2.2.1
        have k5 : ∀ y : Ext WB, y.1.cell? ⟨lb, lo2 + 5, none⟩ = some (.slice dr ps[0].rules.length dcr) := fun y => (HLC.out _ (HBB.out y)).2.2.2.2.2
        have HEL : Hid (∀ y : Ext WB, Calls Tryz.prog 37 #[.agg #[.int .i64 ps[0].kind, .int .i64 ps[0].lo, .int .i64 ps[0].hi, .slice dn ps[0].names.length dcn, .slice dp ps[0].parts.length dcp, .slice dr ps[0].rules.length dcr], .agg #[.int .i64 vps[j].n, .slice en vps[j].names.length ecn, .slice ep vps[j].parts.length ecp, .slice ee vps[j].entries.length ece]] y.1 fun e w' => e = .returned (.bool (elemB ps[0] vps[j])) ∧ ∃ z : Ext WB, w' = z.1) := hid fun y => ext_call y (HIH.out _ (List.getElem_mem hil) vps[j] [.int .i64 ps[0].kind, .int .i64 ps[0].lo, .int .i64 ps[0].hi, .slice dn ps[0].names.length dcn, .slice dp ps[0].parts.length dcp, .slice dr ps[0].rules.length dcr] [.int .i64 vps[j].n, .slice en vps[j].names.length ecn, .slice ep vps[j].parts.length ecp, .slice ee vps[j].entries.length ece] _ (latRd.below (HBB.out y) _ _ HLR.out) (valRd.below (HBB.out y) _ _ HPR.out))
        cases hel : elemB ps[0] vps[j]
        · have HEL2 : Hid (∀ y : Ext WB, Calls Tryz.prog 37 #[.agg #[.int .i64 ps[0].kind, .int .i64 ps[0].lo, .int .i64 ps[0].hi, .slice dn ps[0].names.length dcn, .slice dp ps[0].parts.length dcp, .slice dr ps[0].rules.length dcr], .agg #[.int .i64 vps[j].n, .slice en vps[j].names.length ecn, .slice ep vps[j].parts.length ecp, .slice ee vps[j].entries.length ece]] y.1 fun e w' => e = .returned (.bool false) ∧ ∃ z : Ext WB, w' = z.1) := hid fun y => by have := HEL.out y; rw [hel] at this; exact this
          have HF : Hid (R = false) := hid (by rw [HDJ.out, hel]; rfl)
          clear hel
          refine wp_region_ext (by kernel_rfl) (by kernel_rfl) ?_
          repeat (go_big_quiet_step ((go_at_call 37; exact HEL2.out _)))
          refine wpQuiet_nil ?_
          rintro _ ⟨z, rfl⟩
          obtain ⟨x', hx'⟩ := HUP.out z
          rw [hx']
          clear hx' p0 p1 p2 p3 k0 k1 k2 k3 k4 k5 l4b
          go_wp2_with fail
          go_ret
          exact ⟨ret_bool HF.out.symm, HB.out _⟩
        · have HEL3 : Hid (∀ W, Below WB.heap.size WB W → Calls Tryz.prog 37 #[.agg #[.int .i64 ps[0].kind, .int .i64 ps[0].lo, .int .i64 ps[0].hi, .slice dn ps[0].names.length dcn, .slice dp ps[0].parts.length dcp, .slice dr ps[0].rules.length dcr], .agg #[.int .i64 vps[j].n, .slice en vps[j].names.length ecn, .slice ep vps[j].parts.length ecp, .slice ee vps[j].entries.length ece]] W fun e w' => e = .returned (.bool true) ∧ Below W.heap.size W w') := hid fun W h => by
            have := HIH.out _ (List.getElem_mem hil) vps[j] [.int .i64 ps[0].kind, .int .i64 ps[0].lo, .int .i64 ps[0].hi, .slice dn ps[0].names.length dcn, .slice dp ps[0].parts.length dcp, .slice dr ps[0].rules.length dcr] [.int .i64 vps[j].n, .slice en vps[j].names.length ecn, .slice ep vps[j].parts.length ecp, .slice ee vps[j].entries.length ece] W (latRd.below (HBB.out ⟨W, h⟩) _ _ HLR.out) (valRd.below (HBB.out ⟨W, h⟩) _ _ HPR.out)
            rw [hel] at this; exact this
          have HBOT : Hid (∀ W, Below WB.heap.size WB W → Calls Tryz.prog 61 #[.agg #[.int .i64 ps[0].kind, .int .i64 ps[0].lo, .int .i64 ps[0].hi, .slice dn ps[0].names.length dcn, .slice dp ps[0].parts.length dcp, .slice dr ps[0].rules.length dcr]] W (ValPost W (botV ps[0]))) := hid fun W h => bottom_any _ ps[0] [.int .i64 ps[0].kind, .int .i64 ps[0].lo, .int .i64 ps[0].hi, .slice dn ps[0].names.length dcn, .slice dp ps[0].parts.length dcp, .slice dr ps[0].rules.length dcr] W (Nat.le_refl _) (latRd.below (HBB.out ⟨W, h⟩) _ _ HLR.out) (HWF.out.part (List.getElem_mem hil))
          have HS : Hid (∀ y : Ext WB, y.1.cell? ⟨w.heap.size, 4, none⟩ = some (.slice (some ⟨lb, lo2, none⟩) ps.length cp) ∧ y.1.cell? ⟨lb, lo2, none⟩ = some (.int .i64 ps[0].kind) ∧ y.1.cell? ⟨lb, lo2 + 1, none⟩ = some (.int .i64 ps[0].lo) ∧ y.1.cell? ⟨lb, lo2 + 2, none⟩ = some (.int .i64 ps[0].hi) ∧ y.1.cell? ⟨lb, lo2 + 3, none⟩ = some (.slice dn ps[0].names.length dcn) ∧ y.1.cell? ⟨lb, lo2 + 4, none⟩ = some (.slice dp ps[0].parts.length dcp) ∧ y.1.cell? ⟨lb, lo2 + 5, none⟩ = some (.slice dr ps[0].rules.length dcr) ∧ y.1.cell? ⟨NB, 0, none⟩ = some (.int .i64 vps[j].n) ∧ y.1.cell? ⟨NB, 1, none⟩ = some (.slice en vps[j].names.length ecn) ∧ y.1.cell? ⟨NB, 2, none⟩ = some (.slice ep vps[j].parts.length ecp) ∧ y.1.cell? ⟨NB, 3, none⟩ = some (.slice ee vps[j].entries.length ece)) := hid fun y => ⟨l4b y, k0 y, k1 y, k2 y, k3 y, k4 y, k5 y, p0 y, p1 y, p2 y, p3 y⟩
          clear l4b k0 k1 k2 k3 k4 k5 p0 p1 p2 p3
          cases hq : decide (valC vps[j] (botV ps[0]) = 0)
          · have hne : ¬ (valC vps[j] (botV ps[0]) = 0) := of_decide_eq_false hq
            have HF : Hid (R = (vps.drop (j + 1)).all fun v => elemB ps[0] v && decide (valC v (botV ps[0]) ≠ 0)) := hid (by rw [HDJ.out, hel, decide_eq_true (show valC vps[j] (botV ps[0]) ≠ 0 from hne)]; rfl)
            clear hel hne
            have HEQ2 : Hid (∀ (W : World) (cs : List Value), Below WB.heap.size WB W → valRd W (botV ps[0]) cs → Calls Tryz.prog 22 #[.agg #[.int .i64 vps[j].n, .slice en vps[j].names.length ecn, .slice ep vps[j].parts.length ecp, .slice ee vps[j].entries.length ece], .agg cs.toArray] W fun e w' => e = .returned (.bool false) ∧ Below W.heap.size W w') := hid fun W cs h hc => by have := equal_any vps[j] (botV ps[0]) [.int .i64 vps[j].n, .slice en vps[j].names.length ecn, .slice ep vps[j].parts.length ecp, .slice ee vps[j].entries.length ece] cs W (valRd.below (HBB.out ⟨W, h⟩) _ _ HPR.out) hc; rw [hq] at this; exact this
            clear hq
            first
              | (go_region_held3 (fun w' => w'.cell? ⟨w.heap.size, 4, none⟩ = some (.slice (some ⟨lb, lo2, none⟩) ps.length cp) ∧ w'.cell? ⟨lb, lo2, none⟩ = some (.int .i64 ps[0].kind) ∧ w'.cell? ⟨lb, lo2 + 1, none⟩ = some (.int .i64 ps[0].lo) ∧ w'.cell? ⟨lb, lo2 + 2, none⟩ = some (.int .i64 ps[0].hi) ∧ w'.cell? ⟨lb, lo2 + 3, none⟩ = some (.slice dn ps[0].names.length dcn) ∧ w'.cell? ⟨lb, lo2 + 4, none⟩ = some (.slice dp ps[0].parts.length dcp) ∧ w'.cell? ⟨lb, lo2 + 5, none⟩ = some (.slice dr ps[0].rules.length dcr) ∧ w'.cell? ⟨NB, 0, none⟩ = some (.int .i64 vps[j].n) ∧ w'.cell? ⟨NB, 1, none⟩ = some (.slice en vps[j].names.length ecn) ∧ w'.cell? ⟨NB, 2, none⟩ = some (.slice ep vps[j].parts.length ecp) ∧ w'.cell? ⟨NB, 3, none⟩ = some (.slice ee vps[j].entries.length ece))
                  (first
                    | exact HS.out ⟨_, (Below.refl _ _).drew⟩
                    | exact HS.out ⟨_, HB7.out⟩
                    | exact HS.out ⟨_, HB6.out⟩
                    | exact HS.out ⟨_, HB5.out⟩
                    | skip)
                  (first
                    | (go_at_call 37
                       refine (HEL3.out _ (Below.refl _ _).drew).mono ?_
                       rintro e w5 ⟨rfl, hb5⟩
                       have HB5 : Hid (Below WB.heap.size WB w5) := hid ((Below.refl _ _).drew.trans hb5)
                       clear hb5)
                    | (go_at_call 61
                       refine (HBOT.out _ HB5.out).mono ?_
                       rintro e w6 ⟨cs6, rfl, hv6, hb6⟩
                       have HV6 := hid (valRd_mono' (only_sub _ _) hv6)
                       have HB6 : Hid (Below WB.heap.size WB w6) := hid (HB5.out.trans (hb6.mono HB5.out.size))
                       clear hb6 hv6)
                    | (go_at_call 22
                       refine (HEQ2.out _ _ HB6.out HV6.out).mono ?_
                       rintro e w7 ⟨rfl, hb7⟩
                       have HB7 : Hid (Below WB.heap.size WB w7) := hid (HB6.out.trans (hb7.mono HB6.out.size))
                       clear hb7)))
              | fail
            all_goals
              obtain ⟨x', hx'⟩ := HUP.out ⟨_, HB7.out⟩
              have hx2 : w7 = x'.1 := hx'
              rw [hx2]
              go_wp2_with fail
              go_roundw
              case rel => exact ⟨j + 1, x', by omega, by go_num, rfl, HF⟩
              case measure => simp [intOf]; omega
          · have hne : valC vps[j] (botV ps[0]) = 0 := of_decide_eq_true hq
            have HF : Hid (R = false) := hid (by rw [HDJ.out, hel, decide_eq_false (show ¬ (valC vps[j] (botV ps[0]) ≠ 0) from fun h => h hne)]; rfl)
            clear hel hne
            have HEQ2 : Hid (∀ (W : World) (cs : List Value), Below WB.heap.size WB W → valRd W (botV ps[0]) cs → Calls Tryz.prog 22 #[.agg #[.int .i64 vps[j].n, .slice en vps[j].names.length ecn, .slice ep vps[j].parts.length ecp, .slice ee vps[j].entries.length ece], .agg cs.toArray] W fun e w' => e = .returned (.bool true) ∧ Below W.heap.size W w') := hid fun W cs h hc => by have := equal_any vps[j] (botV ps[0]) [.int .i64 vps[j].n, .slice en vps[j].names.length ecn, .slice ep vps[j].parts.length ecp, .slice ee vps[j].entries.length ece] cs W (valRd.below (HBB.out ⟨W, h⟩) _ _ HPR.out) hc; rw [hq] at this; exact this
            clear hq
            first
              | (go_region_held3 (fun w' => w'.cell? ⟨w.heap.size, 4, none⟩ = some (.slice (some ⟨lb, lo2, none⟩) ps.length cp) ∧ w'.cell? ⟨lb, lo2, none⟩ = some (.int .i64 ps[0].kind) ∧ w'.cell? ⟨lb, lo2 + 1, none⟩ = some (.int .i64 ps[0].lo) ∧ w'.cell? ⟨lb, lo2 + 2, none⟩ = some (.int .i64 ps[0].hi) ∧ w'.cell? ⟨lb, lo2 + 3, none⟩ = some (.slice dn ps[0].names.length dcn) ∧ w'.cell? ⟨lb, lo2 + 4, none⟩ = some (.slice dp ps[0].parts.length dcp) ∧ w'.cell? ⟨lb, lo2 + 5, none⟩ = some (.slice dr ps[0].rules.length dcr) ∧ w'.cell? ⟨NB, 0, none⟩ = some (.int .i64 vps[j].n) ∧ w'.cell? ⟨NB, 1, none⟩ = some (.slice en vps[j].names.length ecn) ∧ w'.cell? ⟨NB, 2, none⟩ = some (.slice ep vps[j].parts.length ecp) ∧ w'.cell? ⟨NB, 3, none⟩ = some (.slice ee vps[j].entries.length ece))
                  (first
                    | exact HS.out ⟨_, (Below.refl _ _).drew⟩
                    | exact HS.out ⟨_, HB7.out⟩
                    | exact HS.out ⟨_, HB6.out⟩
                    | exact HS.out ⟨_, HB5.out⟩
                    | skip)
                  (first
                    | (go_at_call 37
                       refine (HEL3.out _ (Below.refl _ _).drew).mono ?_
                       rintro e w5 ⟨rfl, hb5⟩
                       have HB5 : Hid (Below WB.heap.size WB w5) := hid ((Below.refl _ _).drew.trans hb5)
                       clear hb5)
                    | (go_at_call 61
                       refine (HBOT.out _ HB5.out).mono ?_
                       rintro e w6 ⟨cs6, rfl, hv6, hb6⟩
                       have HV6 := hid (valRd_mono' (only_sub _ _) hv6)
                       have HB6 : Hid (Below WB.heap.size WB w6) := hid (HB5.out.trans (hb6.mono HB5.out.size))
                       clear hb6 hv6)
                    | (go_at_call 22
                       refine (HEQ2.out _ _ HB6.out HV6.out).mono ?_
                       rintro e w7 ⟨rfl, hb7⟩
                       have HB7 : Hid (Below WB.heap.size WB w7) := hid (HB6.out.trans (hb7.mono HB6.out.size))
                       clear hb7)))
              | fail
            all_goals
              go_wp2_with fail
              go_ret
              exact ⟨ret_bool HF.out.symm, HBB.out ⟨_, HB7.out⟩⟩
      · have HF : Hid (R = true) := hid (by rw [He.out, show vps.drop j = [] from List.drop_eq_nil_of_le (by omega)]; rfl)
        go_wp2_with fail
        go_ret
        exact ⟨ret_bool HF.out.symm, HB.out _⟩
  · have HF : Hid (R = false) := hid (by rw [HE.out, decide_eq_false hlen, Bool.and_false, Bool.false_and, Bool.false_and])
    have hlb : ((vns.length : Int) != (vps.length : Int)) = true := by simp; omega
    clear hu hlen
    go_wp2_with (go_at_call 64; refine (HCU2.out _).mono ?_; rintro e w1 ⟨rfl, y, rfl⟩)
    go_ret
    exact ⟨ret_bool HF.out.symm, HB.out _⟩
theorem element_any (f : Nat) : ∀ (l : Lat) (v : Val) (cl cv : List Value) (w : World), SizeOf.sizeOf l ≤ f → latRd w l cl → valRd w v cv → WfL l →
    Calls Tryz.prog 37 #[.agg cl.toArray, .agg cv.toArray] w fun e w' => e = .returned (.bool (elemB l v)) ∧ Below w.heap.size w w' := by
  induction f with
  | zero => intro l v cl cv w hn; cases l; simp at hn
  | succ f ih =>
    intro l v cl cv w hn hl hv hwf
    have hih : ∀ p ∈ l.parts, ∀ (v : Val) (cl cv : List Value) (W : World), latRd W p cl → valRd W v cv → Calls Tryz.prog 37 #[.agg cl.toArray, .agg cv.toArray] W fun e w' => e = .returned (.bool (elemB p v)) ∧ Below W.heap.size W w' :=
      fun p hp v cl cv W h1 h2 => ih p v cl cv W (by have := sizeOf_part hp; omega) h1 h2 (hwf.part hp)
    obtain ⟨a1, a2, a3, rfl, _, hns, hps, hrs⟩ := (latRd_iff _ _ _).1 hl
    obtain ⟨b1, b2, b3, rfl, _, hvn, hvp, hve⟩ := (valRd_iff _ _ _).1 hv
    obtain ⟨an, cn, rfl, _, _⟩ := hns.shape
    obtain ⟨ap, cp, rfl, _, _⟩ := hps.shape
    obtain ⟨ar, cr, rfl, _, _⟩ := hrs.shape
    obtain ⟨bn, bcn, rfl, _, _⟩ := hvn.shape
    obtain ⟨bp, bcp, rfl, _, _⟩ := hvp.shape
    obtain ⟨be, bce, rfl, _, _⟩ := hve.shape
    have hk := hwf.kinds.1
    clear hns hps hrs hvn hvp hve hn ih
    obtain ⟨k, lo, hi', ns, ps, rs⟩ := l
    obtain ⟨vn, vns, vps, ves⟩ := v
    simp only [Lat.kind, Lat.lo, Lat.hi, Lat.names, Lat.parts, Lat.rules, Val.n, Val.names, Val.parts, Val.entries] at hl hv hk hih ⊢
    obtain ⟨h1, h2⟩ := hk
    have hx : k = 1 ∨ k = 2 ∨ k = 3 ∨ k = 4 ∨ k = 5 ∨ k = 6 ∨ k = 7 ∨ k = 8 ∨ k = 9 ∨ k = 10 := by omega
    clear h1 h2
    rcases hx with rfl | rfl | rfl | rfl | rfl | rfl | rfl | rfl | rfl | rfl
    · exact elem_1 lo hi' ns ps rs an ap ar cn cp cr vn vns vps ves bn bp be bcn bcp bce w (hid hl) (hid hv)
    · exact elem_2 lo hi' ns ps rs an ap ar cn cp cr vn vns vps ves bn bp be bcn bcp bce w (hid hl) (hid hv)
    · exact elem_3 lo hi' ns ps rs an ap ar cn cp cr vn vns vps ves bn bp be bcn bcp bce w (hid hl) (hid hv)
    · exact elem_4 lo hi' ns ps rs an ap ar cn cp cr vn vns vps ves bn bp be bcn bcp bce w (hid hl) (hid hv)
    · exact elem_5 lo hi' ns ps rs an ap ar cn cp cr vn vns vps ves bn bp be bcn bcp bce w (hid hl) (hid hv) (hid hwf) (hid hih)
    · exact elem_6 lo hi' ns ps rs an ap ar cn cp cr vn vns vps ves bn bp be bcn bcp bce w (hid hl) (hid hv) (hid hwf) (hid hih)
    · exact elem_7 lo hi' ns ps rs an ap ar cn cp cr vn vns vps ves bn bp be bcn bcp bce w (hid hl) (hid hv) (hid hwf) (hid hih)
    · exact elem_8 lo hi' ns ps rs an ap ar cn cp cr vn vns vps ves bn bp be bcn bcp bce w (hid hl) (hid hv)
    · exact elem_9 lo hi' ns ps rs an ap ar cn cp cr vn vns vps ves bn bp be bcn bcp bce w (hid hl) (hid hv)
    · exact elem_10 lo hi' ns ps rs an ap ar cn cp cr vn vns vps ves bn bp be bcn bcp bce w (hid hl) (hid hv)
theorem valid_any (l : Lat) (v : Val) (cl cv : List Value) (w : World) (hl : latRd w l cl) (hv : valRd w v cv) :
    Calls Tryz.prog 15 #[.agg cl.toArray, .agg cv.toArray] w fun e w' => e = .returned (.bool (validB l v)) ∧ Below w.heap.size w w' := by
  have HC : Hid (∀ W, Below w.heap.size w W → Calls Tryz.prog 36 #[.agg cl.toArray] W fun e w' => e = .returned (.int .i64 (chkE l)) ∧ Below W.heap.size W w') := hid fun W h => check_any l cl W (latRd.below h _ _ hl)
  have HEL : Hid (chkE l = 0 → ∀ W, Below w.heap.size w W → Calls Tryz.prog 37 #[.agg cl.toArray, .agg cv.toArray] W fun e w' => e = .returned (.bool (elemB l v)) ∧ Below W.heap.size W w') := hid fun h0 W h => element_any _ l v cl cv W (Nat.le_refl _) (latRd.below h _ _ hl) (valRd.below h _ _ hv) (chkE_wf h0)
  have HE : Hid (validB l v = (decide (chkE l = 0) && elemB l v)) := hid rfl
  generalize validB l v = R at HE ⊢
  generalize elemB l v = B at HE HEL
  generalize chkE l = E at HC HEL HE
  obtain ⟨a1, a2, a3, rfl, _, hns, hps, hrs⟩ := (latRd_iff _ _ _).1 hl
  obtain ⟨b1, b2, b3, rfl, _, hvn, hvp, hve⟩ := (valRd_iff _ _ _).1 hv
  obtain ⟨an, cn, rfl, _, _⟩ := hns.shape
  obtain ⟨ap, cp, rfl, _, _⟩ := hps.shape
  obtain ⟨ar, cr, rfl, _, _⟩ := hrs.shape
  obtain ⟨bn, bcn, rfl, _, _⟩ := hvn.shape
  obtain ⟨bp, bcp, rfl, _, _⟩ := hvp.shape
  obtain ⟨be, bce, rfl, _, _⟩ := hve.shape
  clear hns hps hrs hvn hvp hve hl hv
  have HB : Hid (∀ O1 O2, Below w.heap.size w ((w.alloc O1).alloc O2)) := hid fun O1 O2 => ((Below.refl _ _).alloc (Nat.le_refl _) O1).alloc (by simp) O2
  go_enter Tryz.func15, Tryz.ntmps15
  go_wp2_with fail
  generalize hW2 : (w.alloc (.cells #[.int .i64 l.kind, .int .i64 l.lo, .int .i64 l.hi, .slice an l.names.length cn, .slice ap l.parts.length cp, .slice ar l.rules.length cr] 26)).alloc (.cells #[.int .i64 v.n, .slice bn v.names.length bcn, .slice bp v.parts.length bcp, .slice be v.entries.length bce] 30) = W2
  have HB2 : Hid (Below w.heap.size w W2) := hid (by rw [← hW2]; exact HB.out _ _)
  have HX : Hid (∀ w', Below W2.heap.size W2 w' → (∀ (i : Nat) u, #[Value.int .i64 l.kind, .int .i64 l.lo, .int .i64 l.hi, .slice an l.names.length cn, .slice ap l.parts.length cp, .slice ar l.rules.length cr][i]? = some u → w'.cell? ⟨w.heap.size, i, none⟩ = some u) ∧ (∀ (i : Nat) u, #[Value.int .i64 v.n, .slice bn v.names.length bcn, .slice bp v.parts.length bcp, .slice be v.entries.length bce][i]? = some u → w'.cell? ⟨w.heap.size + 1, i, none⟩ = some u)) :=
    hid fun w' h => two_boxes w _ _ 26 30 (by rw [← hW2] at h; exact h.mono (by simp))
  clear hW2
  refine (HC.out _ HB2.out).mono ?_
  rintro e w1 ⟨rfl, hb1⟩
  have HB1 : Hid (Below W2.heap.size W2 w1) := hid hb1
  have HBW := hid (HB2.out.trans (hb1.mono HB2.out.size))
  clear hb1
  have f0 := (HX.out _ HB1.out).1 0 _ rfl
  have f1 := (HX.out _ HB1.out).1 1 _ rfl
  have f2 := (HX.out _ HB1.out).1 2 _ rfl
  have f3 := (HX.out _ HB1.out).1 3 _ rfl
  have f4 := (HX.out _ HB1.out).1 4 _ rfl
  have f5 := (HX.out _ HB1.out).1 5 _ rfl
  have g0 := (HX.out _ HB1.out).2 0 _ rfl
  have g1 := (HX.out _ HB1.out).2 1 _ rfl
  have g2 := (HX.out _ HB1.out).2 2 _ rfl
  have g3 := (HX.out _ HB1.out).2 3 _ rfl
  by_cases hE : E = 0
  · subst hE
    have HE2 : Hid (R = B) := hid (by rw [HE.out]; simp)
    have HEL2 := hid (HEL.out rfl)
    clear HEL
    go_wp2_with fail
    refine (HEL2.out _ HBW.out).mono ?_
    rintro e w2 ⟨rfl, hb2⟩
    have HBF := hid (HBW.out.trans (hb2.mono HBW.out.size))
    clear hb2
    go_wp2_with fail
    go_ret
    exact ⟨ret_bool HE2.out.symm, HBF.out⟩
  · have hEb : (E == 0) = false := by simpa using hE
    have HE2 : Hid (R = false) := hid (by rw [HE.out, decide_eq_false hE]; rfl)
    clear hE
    go_wp2_with fail
    go_ret
    exact ⟨ret_bool HE2.out.symm, HBW.out⟩
def strOf (l : List UInt8) : ByteArray := ⟨l.toArray⟩
theorem strOf_list (l : List UInt8) : (strOf l).data.toList = l := rfl
theorem strOf_size (l : List UInt8) : (strOf l).size = l.length := rfl
def rdText (s : RS) : ByteArray × RS := (strOf (rdBytes s).1, (rdBytes s).2)
def rdSmall (m : Nat) (s : RS) : Nat × RS := (if m < (rdUint s).1 then 0 else (rdUint s).1, if m < (rdUint s).1 then (rdUint s).2.fail else (rdUint s).2)
theorem rdSmall_le (m : Nat) (s : RS) : (rdSmall m s).1 ≤ m := by
  unfold rdSmall
  show (if m < (rdUint s).1 then 0 else (rdUint s).1) ≤ m
  split <;> omega
def rdLoop {α : Type} (f : RS → α × RS) : Nat → RS → List α × RS
  | 0, s => ([], s)
  | n + 1, s => if s.err = 0 then ((f s).1 :: (rdLoop f n (f s).2).1, (rdLoop f n (f s).2).2) else ([], s)
theorem rdLoop_zero {α : Type} (f : RS → α × RS) (s : RS) : rdLoop f 0 s = ([], s) := rfl
theorem rdLoop_bad {α : Type} (f : RS → α × RS) (n : Nat) (s : RS) (h : s.err ≠ 0) : rdLoop f n s = ([], s) := by
  cases n with
  | zero => rfl
  | succ n => unfold rdLoop; rw [if_neg h]
theorem rdLoop_go {α : Type} (f : RS → α × RS) (n : Nat) (s : RS) (h : s.err = 0) : rdLoop f (n + 1) s = ((f s).1 :: (rdLoop f n (f s).2).1, (rdLoop f n (f s).2).2) := by
  conv => lhs; unfold rdLoop
  rw [if_pos h]
def LoopAt {α : Type} (R : List α × RS) (f : RS → α × RS) (acc : List α) (k : Nat) (s : RS) : Prop := R = (acc ++ (rdLoop f k s).1, (rdLoop f k s).2)
theorem LoopAt.start {α : Type} (f : RS → α × RS) (k : Nat) (s : RS) : LoopAt (rdLoop f k s) f [] k s := rfl
theorem LoopAt.step {α : Type} {R : List α × RS} {f : RS → α × RS} {acc : List α} {k : Nat} {s : RS} (h : LoopAt R f acc (k + 1) s) (he : s.err = 0) : LoopAt R f (acc ++ [(f s).1]) k (f s).2 := by
  unfold LoopAt at h ⊢
  rw [h, rdLoop_go f k s he, List.append_assoc]
  rfl
theorem LoopAt.end0 {α : Type} {R : List α × RS} {f : RS → α × RS} {acc : List α} {s : RS} (h : LoopAt R f acc 0 s) : R = (acc, s) := by
  unfold LoopAt at h
  rw [h, rdLoop_zero, List.append_nil]
theorem LoopAt.endE {α : Type} {R : List α × RS} {f : RS → α × RS} {acc : List α} {k : Nat} {s : RS} (h : LoopAt R f acc k s) (he : s.err ≠ 0) : R = (acc, s) := by
  unfold LoopAt at h
  rw [h, rdLoop_bad f k s he, List.append_nil]
def rdTick (s : RS) : Tk × RS := (⟨((rdSmall 63 s).1 : Nat), ((rdSmall 1000000000000000 (rdSmall 63 s).2).1 : Nat)⟩, (rdSmall 1000000000000000 (rdSmall 63 s).2).2)
def rdClock (s : RS) : List Tk × RS := rdLoop rdTick (rdCount s).1 (rdCount s).2
def rdEntry (s : RS) : En × RS := (⟨(rdClock s).1, (rdText (rdClock s).2).1⟩, (rdText (rdClock s).2).2)
def rdPair (f : RS → Val × RS) (s : RS) : (ByteArray × Val) × RS := (((rdText s).1, (f (rdText s).2).1), (f (rdText s).2).2)
mutual
def readV : Lat → RS → Val × RS
  | .mk k _ _ _ ps _, s =>
    if k = 1 then (.mk (if (rdBool s).1 then 1 else 0) [] [] [], (rdBool s).2)
    else if k = 2 ∨ k = 3 then (.mk (rdInt s).1 [] [] [], (rdInt s).2)
    else if k = 4 ∨ k = 10 then (.mk 0 (rdLoop rdText (rdCount s).1 (rdCount s).2).1 [] [], (rdLoop rdText (rdCount s).1 (rdCount s).2).2)
    else if k = 5 then (.mk 0 ((readMap ps (rdCount s).1 (rdCount s).2).1.map Prod.fst) ((readMap ps (rdCount s).1 (rdCount s).2).1.map Prod.snd) [], (readMap ps (rdCount s).1 (rdCount s).2).2)
    else if k = 8 then (if (rdSmall 2 s).1 = 1 then (.mk 1 [(rdText (rdSmall 2 s).2).1] [] [], (rdText (rdSmall 2 s).2).2) else (.mk ((rdSmall 2 s).1 : Nat) [] [] [], (rdSmall 2 s).2))
    else if k = 9 then (.mk 0 [] [] (rdLoop rdEntry (rdCount s).1 (rdCount s).2).1, (rdLoop rdEntry (rdCount s).1 (rdCount s).2).2)
    else (.mk 0 [] (readParts ps s).1 [], (readParts ps s).2)
def readMap : List Lat → Nat → RS → List (ByteArray × Val) × RS
  | [], _, s => ([], s)
  | p :: _, n, s => rdLoop (rdPair (readV p)) n s
def readParts : List Lat → RS → List Val × RS
  | [], s => ([], s)
  | p :: ps, s => ((readV p s).1 :: (readParts ps (readV p s).2).1, (readParts ps (readV p s).2).2)
end
theorem usedB_4 {v : Val} {n list parts entries : Bool} : usedB v n list parts entries = true ↔ (n = true ∨ v.n = 0) ∧ (list = true ∨ v.names = []) ∧ (parts = true ∨ v.parts = []) ∧ (entries = true ∨ v.entries = []) := by
  unfold usedB
  simp only [Bool.and_eq_true, Bool.or_eq_true, decide_eq_true_eq, List.length_eq_zero_iff, and_assoc]
section
variable {k lo hi : Int} {ns : List ByteArray} {ps : List Lat} {rs : List Rl} {v : Val}
theorem isE_1 : elemB (.mk 1 lo hi ns ps rs) v = true ↔ (v.n = 0 ∨ v.n = 1) ∧ v.names = [] ∧ v.parts = [] ∧ v.entries = [] := by
  rw [elemB, if_pos (by rfl), Bool.and_eq_true, usedB_4, decide_eq_true_eq]
  simp only [Bool.false_eq_true, false_or, true_or, true_and]
  exact and_comm
theorem isE_23 (e : k = 2 ∨ k = 3) : elemB (.mk k lo hi ns ps rs) v = true ↔ (lo ≤ v.n ∧ v.n ≤ hi) ∧ v.names = [] ∧ v.parts = [] ∧ v.entries = [] := by
  rw [elemB, if_neg (by omega), if_pos e, Bool.and_eq_true, usedB_4, decide_eq_true_eq]
  simp only [Bool.false_eq_true, false_or, true_or, true_and]
  exact and_comm
theorem isE_4 : elemB (.mk 4 lo hi ns ps rs) v = true ↔ (v.n = 0 ∧ v.parts = [] ∧ v.entries = []) ∧ allowedB ns v.names = true := by
  rw [elemB, if_neg (by decide), if_neg (by decide), if_pos (by rfl), Bool.and_eq_true, usedB_4]
  simp only [Bool.false_eq_true, false_or, true_or, true_and]
theorem isE_10 : elemB (.mk 10 lo hi ns ps rs) v = true ↔ (v.n = 0 ∧ v.parts = [] ∧ v.entries = []) ∧ allowedB ns v.names = true ∧ closedB rs v.names = true := by
  rw [elemB, if_neg (by decide), if_neg (by decide), if_neg (by decide), if_pos (by rfl), Bool.and_eq_true, Bool.and_eq_true, usedB_4]
  simp only [Bool.false_eq_true, false_or, true_or, true_and, and_assoc]
theorem isE_410 (e : k = 4 ∨ k = 10) (h : elemB (.mk k lo hi ns ps rs) v = true) : (v.n = 0 ∧ v.parts = [] ∧ v.entries = []) ∧ allowedB ns v.names = true := by
  rcases e with rfl | rfl
  · exact isE_4.1 h
  · exact ⟨(isE_10.1 h).1, (isE_10.1 h).2.1⟩
theorem isE_8 : elemB (.mk 8 lo hi ns ps rs) v = true ↔ v.parts = [] ∧ v.entries = [] ∧ ((v.n = 0 ∧ v.names = []) ∨ (v.n = 2 ∧ v.names = []) ∨ (v.n = 1 ∧ v.names.length = 1 ∧ allowedB ns v.names = true)) := by
  rw [elemB, if_neg (by decide), if_neg (by decide), if_neg (by decide), if_neg (by decide), if_pos (by rfl)]
  by_cases h02 : v.n = 0 ∨ v.n = 2
  · rw [if_pos h02, usedB_4]
    simp only [Bool.false_eq_true, false_or, true_or, true_and]
    constructor
    · rintro ⟨a, b, c⟩
      refine ⟨b, c, ?_⟩
      rcases h02 with h | h
      · exact .inl ⟨h, a⟩
      · exact .inr (.inl ⟨h, a⟩)
    · rintro ⟨b, c, h | h | h⟩
      · exact ⟨h.2, b, c⟩
      · exact ⟨h.2, b, c⟩
      · omega
  · rw [if_neg h02]
    by_cases h1 : v.n = 1
    · rw [if_pos h1, Bool.and_eq_true, Bool.and_eq_true, usedB_4, decide_eq_true_eq]
      simp only [Bool.false_eq_true, false_or, true_or, true_and]
      constructor
      · rintro ⟨⟨⟨a, b⟩, c⟩, d⟩
        exact ⟨a, b, .inr (.inr ⟨h1, c, d⟩)⟩
      · rintro ⟨b, c, h | h | h⟩
        · omega
        · omega
        · exact ⟨⟨⟨b, c⟩, h.2.1⟩, h.2.2⟩
    · rw [if_neg h1]
      constructor
      · intro h; cases h
      · rintro ⟨_, _, h | h | h⟩ <;> omega
theorem isE_9 : elemB (.mk 9 lo hi ns ps rs) v = true ↔ (v.n = 0 ∧ v.names = [] ∧ v.parts = []) ∧ regB v.entries = true := by
  rw [elemB, if_neg (by decide), if_neg (by decide), if_neg (by decide), if_neg (by decide), if_neg (by decide), if_pos (by rfl), Bool.and_eq_true, usedB_4]
  simp only [Bool.false_eq_true, false_or, true_or, true_and, and_true]
theorem isE_5 : elemB (.mk 5 lo hi ns ps rs) v = true ↔ (v.n = 0 ∧ v.entries = []) ∧ v.names.length = v.parts.length ∧ allowedB ns v.names = true ∧ mapB ps v.parts = true := by
  rw [elemB, if_neg (by decide), if_neg (by decide), if_neg (by decide), if_neg (by decide), if_neg (by decide), if_neg (by decide), if_pos (by rfl), Bool.and_eq_true, Bool.and_eq_true, Bool.and_eq_true, usedB_4, decide_eq_true_eq]
  simp only [Bool.false_eq_true, false_or, true_or, true_and, and_assoc]
theorem isE_67 (e : k = 6 ∨ k = 7) : elemB (.mk k lo hi ns ps rs) v = true ↔ (v.n = 0 ∧ v.names = [] ∧ v.entries = []) ∧ v.parts.length = ps.length ∧ elemsB ps v.parts = true := by
  rw [elemB, if_neg (by omega), if_neg (by omega), if_neg (by omega), if_neg (by omega), if_neg (by omega), if_neg (by omega), if_neg (by omega), Bool.and_eq_true, Bool.and_eq_true, usedB_4, decide_eq_true_eq]
  simp only [Bool.false_eq_true, false_or, true_or, true_and, and_assoc]
end
theorem mapB_one (p : Lat) (vs : List Val) : mapB [p] vs = true ↔ ∀ v ∈ vs, elemB p v = true ∧ valC v (botV p) ≠ 0 := by
  rw [mapB, List.all_eq_true]
  constructor
  · intro h v hv
    have := h v hv
    rw [Bool.and_eq_true, decide_eq_true_eq] at this
    exact this
  · intro h v hv
    rw [Bool.and_eq_true, decide_eq_true_eq]
    exact h v hv
theorem elemsB_iff : ∀ (ps : List Lat) (vs : List Val), vs.length = ps.length → (elemsB ps vs = true ↔ ∀ i (h : i < ps.length) (h' : i < vs.length), elemB ps[i] vs[i] = true)
  | [], [], _ => ⟨fun _ i h => by simp at h, fun _ => by rw [elemsB]⟩
  | [], _ :: _, h => by simp at h
  | _ :: _, [], h => by simp at h
  | p :: ps, v :: vs, h => by
    rw [elemsB, Bool.and_eq_true, elemsB_iff ps vs (by simpa using h)]
    constructor
    · rintro ⟨h1, h2⟩ i hi hi'
      cases i with
      | zero => exact h1
      | succ i => exact h2 i (by simpa using hi) (by simpa using hi')
    · intro h
      exact ⟨h 0 (by simp) (by simp), fun i hi hi' => h (i + 1) (by simpa using hi) (by simpa using hi')⟩
theorem allowed_names {only list : List ByteArray} (h : allowedB only list = true) : ∀ s ∈ list, nameB s = true := fun s hs => by
  unfold allowedB at h
  rw [Bool.and_eq_true] at h
  have := List.all_eq_true.1 h.2 s hs
  unfold memB at this
  rw [Bool.and_eq_true] at this
  exact this.1
theorem name_le {s : ByteArray} (h : nameB s = true) : 1 ≤ s.size ∧ s.size ≤ 16 := by
  unfold nameB at h
  rw [Bool.and_eq_true] at h
  exact of_decide_eq_true h.1
/-! What was read. -/
structure Tks {α : Type} (f : RS → α × RS) (enc : α → List UInt8) : Prop where
  ok : ∀ s, s.Ok → (f s).2.Ok ∧ (f s).2.data = s.data
  took : ∀ s, s.Ok → (f s).2.err = 0 → Took s (f s).2 (enc (f s).1)
theorem tks_text : Tks rdText textE := ⟨fun _ h => ⟨(rdBytes_ok h).1, (rdBytes_ok h).2.1⟩, fun s h he => rdBytes_took h he⟩
theorem rdSmall_ok (m : Nat) {s : RS} (h : s.Ok) : (rdSmall m s).2.Ok ∧ (rdSmall m s).2.data = s.data := by
  unfold rdSmall
  obtain ⟨h1, h2, _⟩ := rdUint_ok h
  show (if m < (rdUint s).1 then (rdUint s).2.fail else (rdUint s).2).Ok ∧ (if m < (rdUint s).1 then (rdUint s).2.fail else (rdUint s).2).data = s.data
  split
  · exact ⟨h1.fail, (RS.fail_data _).trans h2⟩
  · exact ⟨h1, h2⟩
theorem fail_err (s : RS) : s.fail.err ≠ 0 := by
  unfold RS.fail
  split
  · exact fun h => absurd (show (2 : Int) = 0 from h) (by decide)
  · assumption
theorem rdSmall_took (m : Nat) {s : RS} (h : s.Ok) (he : (rdSmall m s).2.err = 0) : Took s (rdSmall m s).2 (uintE (rdSmall m s).1) := by
  by_cases hm : m < (rdUint s).1
  · have : (rdSmall m s).2 = (rdUint s).2.fail := if_pos hm
    rw [this] at he
    exact absurd he (fail_err _)
  · have e : rdSmall m s = rdUint s := by
      unfold rdSmall
      rw [if_neg hm, if_neg hm]
    rw [e] at he ⊢
    exact rdUint_took h he
theorem tks_tick : Tks rdTick fun t => uintE t.process.toNat ++ uintE t.n.toNat := ⟨fun s h => by
    obtain ⟨h1, h2⟩ := rdSmall_ok 63 h
    obtain ⟨h3, h4⟩ := rdSmall_ok 1000000000000000 h1
    exact ⟨h3, h4.trans h2⟩, fun s h he => by
    obtain ⟨h1, h2⟩ := rdSmall_ok 63 h
    have t2 := rdSmall_took 1000000000000000 h1 he
    exact (rdSmall_took 63 h t2.err.1).trans t2⟩
theorem rdLoop_keeps {α : Type} {f : RS → α × RS} {enc : α → List UInt8} (hf : Tks f enc) : ∀ (n : Nat) (s : RS), s.Ok → (rdLoop f n s).2.Ok ∧ (rdLoop f n s).2.data = s.data
  | 0, s, h => ⟨h, rfl⟩
  | n + 1, s, h => by
    by_cases he : s.err = 0
    · rw [rdLoop_go f n s he]
      obtain ⟨h1, h2⟩ := hf.ok s h
      obtain ⟨h3, h4⟩ := rdLoop_keeps hf n _ h1
      exact ⟨h3, h4.trans h2⟩
    · rw [rdLoop_bad f _ s he]
      exact ⟨h, rfl⟩
theorem rdLoop_took {α : Type} {f : RS → α × RS} {enc : α → List UInt8} (hf : Tks f enc) : ∀ (n : Nat) (s : RS), s.Ok → (rdLoop f n s).2.err = 0 → Took s (rdLoop f n s).2 ((rdLoop f n s).1.flatMap enc) ∧ (rdLoop f n s).1.length = n
  | 0, s, _, he => ⟨Took.refl he, rfl⟩
  | n + 1, s, h, he => by
    by_cases h0 : s.err = 0
    · rw [rdLoop_go f n s h0] at he ⊢
      obtain ⟨h1, h2⟩ := hf.ok s h
      obtain ⟨h3, h4⟩ := rdLoop_took hf n _ h1 he
      refine ⟨?_, by simp only [List.length_cons, h4]⟩
      rw [List.flatMap_cons]
      exact (hf.took s h h3.err.1).trans h3
    · rw [rdLoop_bad f _ s h0] at he
      exact absurd he h0
def rdList {α : Type} (f : RS → α × RS) (s : RS) : List α × RS := rdLoop f (rdCount s).1 (rdCount s).2
theorem tks_list {α : Type} {f : RS → α × RS} {enc : α → List UInt8} (hf : Tks f enc) : Tks (rdList f) fun l => uintE l.length ++ l.flatMap enc := ⟨fun s h => by
    obtain ⟨h1, h2, _⟩ := rdCount_ok h
    obtain ⟨h3, h4⟩ := rdLoop_keeps hf (rdCount s).1 _ h1
    exact ⟨h3, h4.trans h2⟩, fun s h he => by
    obtain ⟨h1, h2, _⟩ := rdCount_ok h
    obtain ⟨h3, h4⟩ := rdLoop_took hf (rdCount s).1 _ h1 he
    have t := (rdCount_took h h3.err.1).trans h3
    show Took s _ (uintE (rdList f s).1.length ++ _)
    rw [show (rdList f s).1.length = (rdCount s).1 from h4]
    exact t⟩
theorem ticksE_eq : ∀ l : List Tk, ticksE l = l.flatMap fun t => uintE t.process.toNat ++ uintE t.n.toNat
  | [] => rfl
  | t :: r => by rw [ticksE, List.flatMap_cons, ticksE_eq r, List.append_assoc]
theorem entriesE_eq : ∀ l : List En, entriesE l = l.flatMap entryE
  | [] => rfl
  | t :: r => by rw [entriesE, List.flatMap_cons, entriesE_eq r]
theorem textsE_eq : ∀ l : List ByteArray, textsE l = l.flatMap textE
  | [] => rfl
  | t :: r => by rw [textsE, List.flatMap_cons, textsE_eq r]
theorem tks_entry : Tks rdEntry entryE := ⟨fun s h => by
    obtain ⟨h1, h2⟩ := (tks_list tks_tick).ok s h
    obtain ⟨h3, h4⟩ := tks_text.ok _ h1
    exact ⟨h3, h4.trans h2⟩, fun s h he => by
    obtain ⟨h1, h2⟩ := (tks_list tks_tick).ok s h
    have t2 := tks_text.took _ h1 he
    have t1 := (tks_list tks_tick).took s h t2.err.1
    have t := t1.trans t2
    unfold entryE
    rw [ticksE_eq, ← List.append_assoc]
    exact t⟩
theorem tks_pair {f : RS → Val × RS} {enc : Val → List UInt8} (hf : Tks f enc) : Tks (rdPair f) fun x => textE x.1 ++ enc x.2 := ⟨fun s h => by
    obtain ⟨h1, h2⟩ := tks_text.ok s h
    obtain ⟨h3, h4⟩ := hf.ok _ h1
    exact ⟨h3, h4.trans h2⟩, fun s h he => by
    obtain ⟨h1, h2⟩ := tks_text.ok s h
    have t2 := hf.took _ h1 he
    exact (tks_text.took s h t2.err.1).trans t2⟩
theorem sizeOf_lpart {l p : Lat} (h : p ∈ l.parts) : SizeOf.sizeOf p < SizeOf.sizeOf l := by
  cases l
  have := List.sizeOf_lt_of_mem h
  simp only [Lat.parts] at this
  simp only [Lat.mk.sizeOf_spec]
  omega
theorem readParts_keeps : ∀ (ps : List Lat), (∀ p ∈ ps, ∀ s, s.Ok → (readV p s).2.Ok ∧ (readV p s).2.data = s.data) → ∀ s : RS, s.Ok → (readParts ps s).2.Ok ∧ (readParts ps s).2.data = s.data
  | [], _, s, h => by rw [readParts]; exact ⟨h, rfl⟩
  | p :: t, H, s, h => by
    rw [readParts]
    obtain ⟨h1, h2⟩ := H p (by simp) s h
    obtain ⟨h3, h4⟩ := readParts_keeps t (fun q hq => H q (by simp [hq])) _ h1
    exact ⟨h3, h4.trans h2⟩
theorem readParts_took : ∀ (ps : List Lat), (∀ p ∈ ps, Tks (readV p) (putV p)) → ∀ s : RS, s.Ok → (readParts ps s).2.err = 0 → Took s (readParts ps s).2 (putVs ps (readParts ps s).1) ∧ (readParts ps s).1.length = ps.length
  | [], _, s, h, he => by rw [readParts] at he ⊢; exact ⟨by rw [putVs]; exact Took.refl he, rfl⟩
  | p :: t, H, s, h, he => by
    rw [readParts] at he ⊢
    obtain ⟨h1, h2⟩ := (H p (by simp)).ok s h
    obtain ⟨h3, h4⟩ := readParts_took t (fun q hq => H q (by simp [hq])) _ h1 he
    refine ⟨?_, by simp only [List.length_cons, h4]⟩
    rw [putVs]
    exact ((H p (by simp)).took s h h3.err.1).trans h3
theorem readV_1 {lo hi : Int} {ns : List ByteArray} {ps : List Lat} {rs : List Rl} (s : RS) : readV (.mk 1 lo hi ns ps rs) s = (.mk (if (rdBool s).1 then 1 else 0) [] [] [], (rdBool s).2) := by rw [readV]; rfl
theorem readV_23 {k lo hi : Int} {ns : List ByteArray} {ps : List Lat} {rs : List Rl} (hk : k = 2 ∨ k = 3) (s : RS) : readV (.mk k lo hi ns ps rs) s = (.mk (rdInt s).1 [] [] [], (rdInt s).2) := by
  rw [readV, if_neg (by omega), if_pos hk]
theorem readV_410 {k lo hi : Int} {ns : List ByteArray} {ps : List Lat} {rs : List Rl} (hk : k = 4 ∨ k = 10) (s : RS) : readV (.mk k lo hi ns ps rs) s = (.mk 0 (rdList rdText s).1 [] [], (rdList rdText s).2) := by
  rw [readV, if_neg (by omega), if_neg (by omega), if_pos hk]; rfl
theorem readV_5 {lo hi : Int} {ns : List ByteArray} {p : Lat} {rs : List Rl} (s : RS) : readV (.mk 5 lo hi ns [p] rs) s = (.mk 0 ((rdList (rdPair (readV p)) s).1.map Prod.fst) ((rdList (rdPair (readV p)) s).1.map Prod.snd) [], (rdList (rdPair (readV p)) s).2) := by
  rw [readV, if_neg (by decide), if_neg (by decide), if_neg (by decide), if_pos (by rfl)]
  simp only [readMap]
  rfl
theorem readV_8 {lo hi : Int} {ns : List ByteArray} {ps : List Lat} {rs : List Rl} (s : RS) : readV (.mk 8 lo hi ns ps rs) s = if (rdSmall 2 s).1 = 1 then (.mk 1 [(rdText (rdSmall 2 s).2).1] [] [], (rdText (rdSmall 2 s).2).2) else (.mk ((rdSmall 2 s).1 : Nat) [] [] [], (rdSmall 2 s).2) := by
  rw [readV, if_neg (by decide), if_neg (by decide), if_neg (by decide), if_neg (by decide), if_pos (by rfl)]
theorem readV_9 {lo hi : Int} {ns : List ByteArray} {ps : List Lat} {rs : List Rl} (s : RS) : readV (.mk 9 lo hi ns ps rs) s = (.mk 0 [] [] (rdList rdEntry s).1, (rdList rdEntry s).2) := by
  rw [readV, if_neg (by decide), if_neg (by decide), if_neg (by decide), if_neg (by decide), if_neg (by decide), if_pos (by rfl)]; rfl
theorem readV_67 {k lo hi : Int} {ns : List ByteArray} {ps : List Lat} {rs : List Rl} (hk : k = 6 ∨ k = 7) (s : RS) : readV (.mk k lo hi ns ps rs) s = (.mk 0 [] (readParts ps s).1 [], (readParts ps s).2) := by
  rw [readV, if_neg (by omega), if_neg (by omega), if_neg (by omega), if_neg (by omega), if_neg (by omega), if_neg (by omega)]
theorem putV_1 {lo hi : Int} {ns : List ByteArray} {ps : List Lat} {rs : List Rl} (v : Val) : putV (.mk 1 lo hi ns ps rs) v = boolE (decide (v.n = 1)) := by rw [putV, if_pos (by rfl)]
theorem putV_23 {k lo hi : Int} {ns : List ByteArray} {ps : List Lat} {rs : List Rl} (hk : k = 2 ∨ k = 3) (v : Val) : putV (.mk k lo hi ns ps rs) v = intE v.n := by
  rw [putV, if_neg (by omega), if_pos hk]
theorem putV_410 {k lo hi : Int} {ns : List ByteArray} {ps : List Lat} {rs : List Rl} (hk : k = 4 ∨ k = 10) (v : Val) : putV (.mk k lo hi ns ps rs) v = uintE v.names.length ++ v.names.flatMap textE := by
  rw [putV, if_neg (by omega), if_neg (by omega), if_pos hk, textsE_eq]
theorem putV_5 {lo hi : Int} {ns : List ByteArray} {p : Lat} {rs : List Rl} (v : Val) : putV (.mk 5 lo hi ns [p] rs) v = uintE v.names.length ++ (v.names.zip v.parts).flatMap fun x => textE x.1 ++ putV p x.2 := by
  rw [putV, if_neg (by decide), if_neg (by decide), if_neg (by decide), if_pos (by rfl), putMap]
theorem putV_8 {lo hi : Int} {ns : List ByteArray} {ps : List Lat} {rs : List Rl} (v : Val) : putV (.mk 8 lo hi ns ps rs) v = uintE v.n.toNat ++ (if v.n = 1 then textE (v.names.headD ByteArray.empty) else []) := by
  rw [putV, if_neg (by decide), if_neg (by decide), if_neg (by decide), if_neg (by decide), if_pos (by rfl)]
theorem putV_9 {lo hi : Int} {ns : List ByteArray} {ps : List Lat} {rs : List Rl} (v : Val) : putV (.mk 9 lo hi ns ps rs) v = uintE v.entries.length ++ v.entries.flatMap entryE := by
  rw [putV, if_neg (by decide), if_neg (by decide), if_neg (by decide), if_neg (by decide), if_neg (by decide), if_pos (by rfl), entriesE_eq]
theorem putV_67 {k lo hi : Int} {ns : List ByteArray} {ps : List Lat} {rs : List Rl} (hk : k = 6 ∨ k = 7) (v : Val) : putV (.mk k lo hi ns ps rs) v = putVs ps v.parts := by
  rw [putV, if_neg (by omega), if_neg (by omega), if_neg (by omega), if_neg (by omega), if_neg (by omega), if_neg (by omega)]
theorem kind_cases {k : Int} (h : 1 ≤ k ∧ k ≤ 10) : k = 1 ∨ (k = 2 ∨ k = 3) ∨ (k = 4 ∨ k = 10) ∨ k = 5 ∨ (k = 6 ∨ k = 7) ∨ k = 8 ∨ k = 9 := by omega
theorem zip_map {α β : Type} : ∀ l : List (α × β), (l.map Prod.fst).zip (l.map Prod.snd) = l
  | [] => rfl
  | (a, b) :: t => by simp [zip_map t]
theorem tks_read (f : Nat) : ∀ l : Lat, SizeOf.sizeOf l ≤ f → WfL l → Tks (readV l) (putV l) := by
  induction f with
  | zero => intro l hn; cases l; simp at hn
  | succ f ih =>
    intro l hn hwf
    have hk := hwf.kinds
    have hp : ∀ p ∈ l.parts, Tks (readV p) (putV p) := fun p hp => ih p (by have := sizeOf_lpart hp; omega) (hwf.part hp)
    obtain ⟨k, lo, hi, ns, ps, rs⟩ := l
    simp only [Lat.kind, Lat.lo, Lat.hi, Lat.names, Lat.parts, Lat.rules] at hk hp
    rcases kind_cases hk.1 with rfl | e | e | rfl | e | rfl | rfl
    · refine ⟨fun s h => ?_, fun s h he => ?_⟩
      · rw [readV_1]; exact rdBool_ok h
      · rw [readV_1] at he ⊢
        have := rdBool_took h he
        rw [putV_1]
        simp only [Val.n]
        cases hb : (rdBool s).1 <;> rw [hb] at this <;> exact this
    · refine ⟨fun s h => ?_, fun s h he => ?_⟩
      · rw [readV_23 e]; exact ⟨(rdInt_ok h).1, (rdInt_ok h).2.1⟩
      · rw [readV_23 e] at he ⊢
        rw [putV_23 e]
        exact rdInt_took h he
    · refine ⟨fun s h => ?_, fun s h he => ?_⟩
      · rw [readV_410 e]; exact (tks_list tks_text).ok s h
      · rw [readV_410 e] at he ⊢
        rw [putV_410 e]
        exact (tks_list tks_text).took s h he
    · obtain ⟨p, rfl⟩ := List.length_eq_one_iff.1 (hk.2.1 rfl)
      have hq := tks_list (tks_pair (hp p (by simp)))
      refine ⟨fun s h => ?_, fun s h he => ?_⟩
      · rw [readV_5]; exact hq.ok s h
      · rw [readV_5] at he ⊢
        rw [putV_5]
        simp only [Val.names, Val.parts, zip_map, List.length_map]
        exact hq.took s h he
    · refine ⟨fun s h => ?_, fun s h he => ?_⟩
      · rw [readV_67 e]; exact readParts_keeps ps (fun p hpm => (hp p hpm).ok) s h
      · rw [readV_67 e] at he ⊢
        rw [putV_67 e]
        exact (readParts_took ps hp s h he).1
    · refine ⟨fun s h => ?_, fun s h he => ?_⟩
      · rw [readV_8]
        obtain ⟨h1, h2⟩ := rdSmall_ok 2 h
        split
        · obtain ⟨h3, h4⟩ := tks_text.ok _ h1
          exact ⟨h3, h4.trans h2⟩
        · exact ⟨h1, h2⟩
      · rw [readV_8] at he ⊢
        obtain ⟨h1, h2⟩ := rdSmall_ok 2 h
        rw [putV_8]
        by_cases h8 : (rdSmall 2 s).1 = 1
        · rw [if_pos h8] at he ⊢
          simp only [Val.n, Val.names, if_true, List.headD_cons]
          have t2 := tks_text.took _ h1 he
          have t1 := rdSmall_took 2 h t2.err.1
          rw [h8] at t1
          exact t1.trans t2
        · rw [if_neg h8] at he ⊢
          rw [show (if (Val.mk ((rdSmall 2 s).1 : Nat) [] [] []).n = 1 then textE ((Val.mk ((rdSmall 2 s).1 : Nat) [] [] []).names.headD ByteArray.empty) else []) = [] from if_neg (by show ¬ (((rdSmall 2 s).1 : Nat) : Int) = 1; omega), List.append_nil]
          exact rdSmall_took 2 h he
    · refine ⟨fun s h => ?_, fun s h he => ?_⟩
      · rw [readV_9]; exact (tks_list tks_entry).ok s h
      · rw [readV_9] at he ⊢
        rw [putV_9]
        exact (tks_list tks_entry).took s h he
/-! What was written. -/
def Rds {α : Type} (f : RS → α × RS) (x : α) (bs : List UInt8) : Prop := ∀ (s : RS) (r : List UInt8), s.Ok → s.err = 0 → s.data.length < 18446744073709551616 → s.data.drop s.pos = bs ++ r → ∃ s', f s = (x, s') ∧ s'.Ok ∧ Took s s' bs
theorem took_rest {s t : RS} {bs r : List UInt8} (h : Took s t bs) (hr : s.data.drop s.pos = bs ++ r) : t.data.drop t.pos = r := by
  have := h.read
  rw [hr] at this
  exact (List.append_cancel_left this).symm
theorem took_len {s t : RS} {bs : List UInt8} (h : Took s t bs) : t.data.length = s.data.length := congrArg List.length h.data
theorem rds_go {s : RS} {bs r : List UInt8} (ho : s.Ok) (he : s.err = 0) (hr : s.data.drop s.pos = bs ++ r) : (s.go bs.length).Ok ∧ Took s (s.go bs.length) bs := by
  have hp := go_pos ho.pos hr
  refine ⟨ho.go hp, took_go he hp ?_⟩
  rw [hr, List.take_left]
theorem rds_uint {n : Nat} (hn : n < 18446744073709551616) : Rds rdUint n (uintE n) := fun s r ho he _ hr => ⟨_, rdUint_of he hn hr, rds_go ho he hr⟩
theorem rds_int {n : Int} (hn : -9223372036854775808 ≤ n ∧ n ≤ 9223372036854775807) : Rds rdInt n (intE n) := fun s r ho he _ hr => ⟨_, rdInt_of he hn hr, rds_go ho he hr⟩
theorem rds_bool (b : Bool) : Rds rdBool b (boolE b) := fun s r ho he _ hr => ⟨_, rdBool_of he hr, rds_go ho he hr⟩
theorem rds_text (q : ByteArray) : Rds rdText q (textE q) := fun s r ho he hl hr => by
  have hb : s.data.drop s.pos = bytesE q.data.toList ++ r := hr
  have hlen := congrArg List.length hb
  rw [List.length_drop, List.length_append] at hlen
  unfold bytesE at hlen
  rw [List.length_append] at hlen
  refine ⟨_, ?_, rds_go ho he hb⟩
  unfold rdText
  rw [rdBytes_of he ho.pos (by omega) hb]
  rfl
theorem rds_small {m n : Nat} (hn : n ≤ m) (hm : m < 18446744073709551616) : Rds (rdSmall m) n (uintE n) := fun s r ho he hl hr => by
  obtain ⟨s', h1, h2⟩ := rds_uint (n := n) (by omega) s r ho he hl hr
  refine ⟨s', ?_, h2⟩
  unfold rdSmall
  rw [h1, if_neg (by omega), if_neg (by omega)]
theorem Rds.bind {α β γ : Type} {f : RS → α × RS} {x : α} {a : List UInt8} (hf : Rds f x a) {g : RS → β × RS} {y : β} {b : List UInt8} (hg : Rds g y b) {h : RS → γ × RS} {z : γ} (hh : ∀ s s' s'', f s = (x, s') → g s' = (y, s'') → h s = (z, s'')) : Rds h z (a ++ b) := fun s r ho he hl hr => by
  rw [List.append_assoc] at hr
  obtain ⟨s', h1, h2, h3⟩ := hf s _ ho he hl hr
  obtain ⟨s'', h4, h5, h6⟩ := hg s' r h2 h3.err.2 (by rw [took_len h3]; exact hl) (took_rest h3 hr)
  exact ⟨s'', hh s s' s'' h1 h4, h5, h3.trans h6⟩
theorem rds_tick {t : Tk} (h1 : 0 ≤ t.process ∧ t.process ≤ 63) (h2 : 0 ≤ t.n ∧ t.n ≤ 1000000000000000) : Rds rdTick t (uintE t.process.toNat ++ uintE t.n.toNat) :=
  (rds_small (m := 63) (n := t.process.toNat) (by omega) (by decide)).bind (rds_small (m := 1000000000000000) (n := t.n.toNat) (by omega) (by decide)) fun s s' s'' e1 e2 => by
    unfold rdTick
    rw [e1, e2]
    obtain ⟨p, n⟩ := t
    simp only at h1 h2 ⊢
    rw [Int.toNat_of_nonneg h1.1, Int.toNat_of_nonneg h2.1]
theorem rds_loop {α : Type} {f : RS → α × RS} {enc : α → List UInt8} : ∀ (l : List α), (∀ x ∈ l, Rds f x (enc x)) → Rds (rdLoop f l.length) l (l.flatMap enc)
  | [], _ => fun s r ho he hl hr => ⟨s, rfl, ho, Took.refl he⟩
  | x :: t, h => fun s r ho he hl hr => by
    rw [List.flatMap_cons, List.append_assoc] at hr
    obtain ⟨s', h1, h2, h3⟩ := h x (by simp) s _ ho he hl hr
    obtain ⟨s'', h4, h5, h6⟩ := rds_loop t (fun y hy => h y (by simp [hy])) s' r h2 h3.err.2 (by rw [took_len h3]; exact hl) (took_rest h3 hr)
    refine ⟨s'', ?_, h5, by rw [List.flatMap_cons]; exact h3.trans h6⟩
    show rdLoop f (t.length + 1) s = _
    rw [rdLoop_go f _ s he, h1, h4]
theorem flatMap_len {α : Type} {enc : α → List UInt8} (h1 : ∀ x, 1 ≤ (enc x).length) : ∀ l : List α, l.length ≤ (l.flatMap enc).length
  | [] => Nat.zero_le _
  | x :: t => by
    rw [List.flatMap_cons, List.length_append, List.length_cons]
    have := h1 x
    have := flatMap_len h1 t
    omega
theorem rds_list {α : Type} {f : RS → α × RS} {enc : α → List UInt8} (h1 : ∀ x, 1 ≤ (enc x).length) (l : List α) (h : ∀ x ∈ l, Rds f x (enc x)) : Rds (rdList f) l (uintE l.length ++ l.flatMap enc) := fun s r ho he hl hr => by
  rw [List.append_assoc] at hr
  have hlen := congrArg List.length hr
  rw [List.length_drop, List.length_append, List.length_append] at hlen
  have := flatMap_len h1 l
  have hc := rdCount_of he ho.pos (n := l.length) (by omega) hr (by rw [List.length_append]; omega)
  obtain ⟨h2, h3⟩ := rds_go ho he hr
  obtain ⟨s'', h4, h5, h6⟩ := rds_loop l h _ r h2 h3.err.2 hl (took_rest h3 hr)
  refine ⟨s'', ?_, h5, h3.trans h6⟩
  unfold rdList
  rw [hc]
  exact h4
theorem uintE_pos (n : Nat) : 1 ≤ (uintE n).length := by
  by_cases h : n < 128
  · rw [uintE_lt h]; exact Nat.le_refl _
  · rw [uintE_ge (by omega), List.length_cons]; omega
theorem textE_pos (s : ByteArray) : 1 ≤ (textE s).length := by
  unfold textE
  rw [List.length_append]
  have := uintE_pos s.size
  omega
theorem entryE_pos (e : En) : 1 ≤ (entryE e).length := by
  unfold entryE
  rw [List.length_append]
  have := uintE_pos e.clock.length
  omega
theorem clockFrom_mem : ∀ (last : Int) (c : List Tk), -1 ≤ last → clockFrom last c = true → ∀ t ∈ c, (0 ≤ t.process ∧ t.process ≤ 63) ∧ (0 ≤ t.n ∧ t.n ≤ 1000000000000000)
  | _, [], _, _, t, h => by simp at h
  | last, x :: r, hl, hc, t, h => by
    rw [clockFrom, Bool.and_eq_true] at hc
    have hx : last < x.process ∧ x.process ≤ 63 ∧ 1 ≤ x.n ∧ x.n ≤ 1000000000000000 := of_decide_eq_true hc.1
    rcases List.mem_cons.1 h with rfl | h
    · omega
    · exact clockFrom_mem x.process r (by omega) hc.2 t h
theorem rds_entry {e : En} (h : clockB e.clock = true) : Rds rdEntry e (entryE e) := by
  unfold entryE
  rw [ticksE_eq, ← List.append_assoc]
  refine (rds_list (f := rdTick) (fun t => by rw [List.length_append]; have := uintE_pos t.process.toNat; omega) e.clock fun t ht => ?_).bind (rds_text e.name) fun s s' s'' e1 e2 => ?_
  · obtain ⟨a, b⟩ := clockFrom_mem (-1) e.clock (by omega) h t ht
    exact rds_tick a b
  · unfold rdEntry
    rw [show rdClock s = (e.clock, s') from e1, e2]
theorem regGo_mem (list : List En) : ∀ (k : Nat) (l : List En), regGo list k l = true → ∀ e ∈ l, clockB e.clock = true ∧ nameB e.name = true
  | _, [], _, e, h => by simp at h
  | k, x :: t, hr, e, h => by
    rw [regGo, Bool.and_eq_true] at hr
    rcases List.mem_cons.1 h with rfl | h
    · have := hr.1
      unfold entryB at this
      simp only [Bool.and_eq_true] at this
      exact ⟨this.1.1.1.2, this.1.1.2⟩
    · exact regGo_mem list (k + 1) t hr.2 e h
theorem rds_parts : ∀ (ps : List Lat) (vs : List Val), vs.length = ps.length → elemsB ps vs = true → (∀ p ∈ ps, ∀ v, elemB p v = true → Rds (readV p) v (putV p v)) → Rds (readParts ps) vs (putVs ps vs)
  | [], [], _, _, _ => fun s r ho he hl hr => ⟨s, by rw [readParts], ho, by rw [putVs]; exact Took.refl he⟩
  | [], _ :: _, h, _, _ => by simp at h
  | _ :: _, [], h, _, _ => by simp at h
  | p :: ps, v :: vs, hl, he, H => by
    rw [elemsB, Bool.and_eq_true] at he
    rw [putVs]
    refine (H p (by simp) v he.1).bind (rds_parts ps vs (by simpa using hl) he.2 fun q hq => H q (by simp [hq])) fun s s' s'' e1 e2 => ?_
    rw [readParts, e1, e2]
theorem rds_read (f : Nat) : ∀ (l : Lat) (v : Val), SizeOf.sizeOf l ≤ f → WfL l → elemB l v = true → Rds (readV l) v (putV l v) := by
  induction f with
  | zero => intro l v hn; cases l; simp at hn
  | succ f ih =>
    intro l v hn hwf hel
    have hk := hwf.kinds
    have hrg : ¬ _ := of_decide_eq_false hwf.ranges
    have hp : ∀ p ∈ l.parts, ∀ v, elemB p v = true → Rds (readV p) v (putV p v) := fun p hp v => ih p v (by have := sizeOf_lpart hp; omega) (hwf.part hp)
    obtain ⟨k, lo, hi, ns, ps, rs⟩ := l
    simp only [Lat.kind, Lat.lo, Lat.hi, Lat.names, Lat.parts, Lat.rules] at hk hp hrg
    rcases kind_cases hk.1 with rfl | e | e | rfl | e | rfl | rfl
    · have hu := isE_1.1 hel
      obtain ⟨vn, vns, vps, ves⟩ := v
      simp only [Val.n, Val.names, Val.parts, Val.entries] at hu
      obtain ⟨hn, rfl, rfl, rfl⟩ := hu
      rw [putV_1]
      intro s r ho he hl hr
      obtain ⟨s', h1, h2⟩ := rds_bool _ s r ho he hl hr
      refine ⟨s', ?_, h2⟩
      rw [readV_1, h1]
      rcases hn with rfl | rfl <;> rfl
    · have hu := (isE_23 e).1 hel
      obtain ⟨vn, vns, vps, ves⟩ := v
      simp only [Val.n, Val.names, Val.parts, Val.entries] at hu
      obtain ⟨hn, rfl, rfl, rfl⟩ := hu
      rw [putV_23 e]
      intro s r ho he hl hr
      obtain ⟨s', h1, h2⟩ := rds_int (n := vn) (by omega) s r ho he hl hr
      refine ⟨s', ?_, h2⟩
      rw [readV_23 e, h1]
    · have hu := isE_410 e hel
      obtain ⟨vn, vns, vps, ves⟩ := v
      simp only [Val.n, Val.names, Val.parts, Val.entries] at hu
      obtain ⟨⟨rfl, rfl, rfl⟩, _⟩ := hu
      rw [putV_410 e]
      intro s r ho he hl hr
      obtain ⟨s', h1, h2⟩ := rds_list (f := rdText) textE_pos vns (fun x _ => rds_text x) s r ho he hl hr
      refine ⟨s', ?_, h2⟩
      rw [readV_410 e, h1]
    · have hu := isE_5.1 hel
      obtain ⟨vn, vns, vps, ves⟩ := v
      simp only [Val.n, Val.names, Val.parts, Val.entries] at hu
      obtain ⟨⟨rfl, rfl⟩, hlen, _, hm⟩ := hu
      obtain ⟨p, rfl⟩ := List.length_eq_one_iff.1 (hk.2.1 rfl)
      rw [mapB_one] at hm
      rw [putV_5]
      simp only [Val.names, Val.parts]
      have hz : (vns.zip vps).length = vns.length := by rw [List.length_zip]; omega
      intro s r ho he hl hr
      rw [← hz] at hr
      obtain ⟨s', h1, h2⟩ := rds_list (f := rdPair (readV p)) (enc := fun x => textE x.1 ++ putV p x.2) (fun x => by rw [List.length_append]; have := textE_pos x.1; omega) (vns.zip vps) (fun x hx => by
        obtain ⟨a, b⟩ := x
        have hb := (List.of_mem_zip hx).2
        exact (rds_text a).bind (hp p (by simp) b (hm b hb).1) fun s s' s'' e1 e2 => by
          unfold rdPair
          rw [e1, e2]) s r ho he hl hr
      rw [hz] at h2
      refine ⟨s', ?_, h2⟩
      rw [readV_5, h1, List.map_fst_zip (by omega), List.map_snd_zip (by omega)]
    · have hu := (isE_67 e).1 hel
      obtain ⟨vn, vns, vps, ves⟩ := v
      simp only [Val.n, Val.names, Val.parts, Val.entries] at hu
      obtain ⟨⟨rfl, rfl, rfl⟩, hlen, hm⟩ := hu
      rw [putV_67 e]
      intro s r ho he hl hr
      obtain ⟨s', h1, h2⟩ := rds_parts ps vps hlen hm hp s r ho he hl hr
      refine ⟨s', ?_, h2⟩
      rw [readV_67 e, h1]
    · have hu := isE_8.1 hel
      obtain ⟨vn, vns, vps, ves⟩ := v
      simp only [Val.n, Val.names, Val.parts, Val.entries] at hu
      obtain ⟨rfl, rfl, hu⟩ := hu
      rw [putV_8]
      rcases hu with ⟨rfl, rfl⟩ | ⟨rfl, rfl⟩ | ⟨rfl, hlen, _⟩
      · rw [show (if (Val.mk 0 [] [] []).n = 1 then textE ((Val.mk 0 [] [] []).names.headD ByteArray.empty) else []) = [] from if_neg (by decide), List.append_nil]
        intro s r ho he hl hr
        obtain ⟨s', h1, h2⟩ := rds_small (m := 2) (n := 0) (by decide) (by decide) s r ho he hl hr
        exact ⟨s', by rw [readV_8, h1]; rfl, h2⟩
      · rw [show (if (Val.mk 2 [] [] []).n = 1 then textE ((Val.mk 2 [] [] []).names.headD ByteArray.empty) else []) = [] from if_neg (by decide), List.append_nil]
        intro s r ho he hl hr
        obtain ⟨s', h1, h2⟩ := rds_small (m := 2) (n := 2) (by decide) (by decide) s r ho he hl hr
        exact ⟨s', by rw [readV_8, h1]; rfl, h2⟩
      · obtain ⟨q, rfl⟩ := List.length_eq_one_iff.1 hlen
        exact (rds_small (m := 2) (n := 1) (by decide) (by decide)).bind (rds_text q) fun s s' s'' e1 e2 => by
          rw [readV_8, e1]
          show (if (1 : Nat) = 1 then _ else _) = _
          rw [if_pos rfl, e2]
    · have hu := isE_9.1 hel
      obtain ⟨vn, vns, vps, ves⟩ := v
      simp only [Val.n, Val.names, Val.parts, Val.entries] at hu
      obtain ⟨⟨rfl, rfl, rfl⟩, hreg⟩ := hu
      rw [putV_9]
      intro s r ho he hl hr
      obtain ⟨s', h1, h2⟩ := rds_list (f := rdEntry) entryE_pos ves (fun x hx => rds_entry (regGo_mem ves 0 ves hreg x hx).1) s r ho he hl hr
      refine ⟨s', ?_, h2⟩
      rw [readV_9, h1]
/-! The decoder. -/
def decodeV (l : Lat) (b : List UInt8) : Val × Int :=
  if chkE l ≠ 0 then (zeroV, 1) else if (readV l ⟨b, 0, 0, 0⟩).2.ends ≠ 0 ∨ elemB l (readV l ⟨b, 0, 0, 0⟩).1 = false then (zeroV, 2) else ((readV l ⟨b, 0, 0, 0⟩).1, 0)
theorem new_ok (b : List UInt8) : RS.Ok ⟨b, 0, 0, 0⟩ := ⟨Nat.zero_le _, Nat.le_refl _, .inl rfl⟩
theorem decodeV_iff {l : Lat} (hl : chkE l = 0) (b : List UInt8) (v : Val) (hb : b.length < 18446744073709551616) : decodeV l b = (v, 0) ↔ elemB l v = true ∧ b = putV l v := by
  have hwf := chkE_wf hl
  unfold decodeV
  rw [if_neg (fun h => h hl)]
  constructor
  · intro h
    by_cases hc : (readV l ⟨b, 0, 0, 0⟩).2.ends ≠ 0 ∨ elemB l (readV l ⟨b, 0, 0, 0⟩).1 = false
    · rw [if_pos hc] at h
      injection h with _ h
      exact absurd h (by decide)
    · rw [if_neg hc] at h
      injection h with h _
      subst h
      have hel : elemB l (readV l ⟨b, 0, 0, 0⟩).1 = true := by
        cases h : elemB l (readV l ⟨b, 0, 0, 0⟩).1
        · exact absurd (.inr h) hc
        · rfl
      refine ⟨hel, ?_⟩
      have hends : (readV l ⟨b, 0, 0, 0⟩).2.ends = 0 := Decidable.byContradiction fun h => hc (.inl h)
      unfold RS.ends at hends
      have hT := tks_read _ l (Nat.le_refl _) hwf
      obtain ⟨hok, hd⟩ := hT.ok _ (new_ok b)
      by_cases h0 : (readV l ⟨b, 0, 0, 0⟩).2.err = 0
      · have ht := hT.took _ (new_ok b) h0
        have hnot : ¬ (readV l ⟨b, 0, 0, 0⟩).2.pos < (readV l ⟨b, 0, 0, 0⟩).2.data.length := fun h => by
          rw [if_pos ⟨h0, h⟩] at hends
          exact absurd hends (by decide)
        have hr := ht.read
        rw [show (readV l ⟨b, 0, 0, 0⟩).2.data.drop (readV l ⟨b, 0, 0, 0⟩).2.pos = [] from List.drop_eq_nil_of_le (by omega), List.append_nil] at hr
        exact hr
      · rw [if_neg (fun h => h0 h.1)] at hends
        exact absurd hends h0
  · rintro ⟨hel, rfl⟩
    obtain ⟨s', h1, h2, h3⟩ := rds_read _ l v (Nat.le_refl _) hwf hel ⟨putV l v, 0, 0, 0⟩ [] (new_ok _) rfl hb (by rw [List.append_nil]; rfl)
    rw [h1]
    have hd := h3.data
    have hp := h3.pos
    simp only at hd hp ⊢
    have he : s'.ends = 0 := by
      unfold RS.ends
      rw [if_neg (by rw [hd, hp]; omega)]
      exact h3.err.2
    rw [if_neg (by rw [he, hel]; simp)]
theorem decodeV_snd (l : Lat) (b : List UInt8) : decodeV l b = (zeroV, 1) ∨ decodeV l b = (zeroV, 2) ∨ ∃ v, decodeV l b = (v, 0) := by
  unfold decodeV
  split
  · exact .inl rfl
  · split
    · exact .inr (.inl rfl)
    · exact .inr (.inr ⟨_, rfl⟩)
theorem putV_prefix {l : Lat} (hl : chkE l = 0) {v w : Val} (hv : elemB l v = true) (hw : elemB l w = true) {r : List UInt8} (h : putV l v = putV l w ++ r) (hb : (putV l v).length < 18446744073709551616) : v = w := by
  have hwf := chkE_wf hl
  obtain ⟨s1, h1, _⟩ := rds_read _ l v (Nat.le_refl _) hwf hv ⟨putV l v, 0, 0, 0⟩ [] (new_ok _) rfl hb (by rw [List.append_nil]; rfl)
  obtain ⟨s2, h2, _⟩ := rds_read _ l w (Nat.le_refl _) hwf hw ⟨putV l v, 0, 0, 0⟩ r (new_ok _) rfl hb h
  rw [h1] at h2
  injection h2
def lows (n : Nat) : Nat → Bool := fun b => decide (b < n)
structure WtSt (w wr : World) (B : Nat) (rv0 rv : Value) (bs : List UInt8) (lc vc : Array Value) : Prop where
  wrt : WrAt wr B rv bs
  boxL : wr.heap[w.heap.size]? = some (.cells lc 26 (0, 0))
  boxV : wr.heap[w.heap.size + 1]? = some (.cells vc 30 (0, 0))
  wf : Wf B rv0 rv w wr
  notL : rv.ownBlock ≠ some w.heap.size
  notV : rv.ownBlock ≠ some (w.heap.size + 1)
  lt : B < w.heap.size
  base : ∀ k, rv0.ownBlock = some k → B + 1 ≤ k
theorem Wf.of_below {B : Nat} {v : Value} {w w' : World} (h : Below w.heap.size w w') : Wf B v v w w' := ⟨h.os, h.tape, h.output, h.size, fun k hk _ _ => h.block k hk, fun _ e => .inl e⟩
theorem WrAt.below {w w' : World} {B : Nat} {v : Value} {bs : List UInt8} (h : WrAt w B v bs) (k : Below w.heap.size w w') : WrAt w' B v bs := ⟨(k.block _ h.lt).trans h.blk, owns_below h.own k⟩
section
variable {w wr w1 : World} {B : Nat} {rv0 rv : Value} {bs bs' : List UInt8} {lc vc : Array Value}
theorem WtSt.cellL (h : WtSt w wr B rv0 rv bs lc vc) {i : Nat} {v : Value} (e : lc[i]? = some v) : wr.cell? ⟨w.heap.size, i, none⟩ = some v := (cell_at_block h.boxL).trans e
theorem WtSt.cellV (h : WtSt w wr B rv0 rv bs lc vc) {i : Nat} {v : Value} (e : vc[i]? = some v) : wr.cell? ⟨w.heap.size + 1, i, none⟩ = some v := (cell_at_block h.boxV).trans e
theorem WtSt.low (h : WtSt w wr B rv0 rv bs lc vc) : Sub (only (lows B) w) (only (lows B) wr) := only_keep fun b hb hl => ⟨hb, h.wf.block b hl (by have := of_decide_eq_true hb; omega) fun e => by have := h.base b e; have := of_decide_eq_true hb; omega⟩
theorem WtSt.sub (h : WtSt w wr B rv0 rv bs lc vc) : Sub (only (lows B) w) wr := h.low.trans (only_sub _ _)
theorem WtSt.fin (h : WtSt w wr B rv0 rv bs lc vc) (k : WrPost B rv wr bs' w1) : WrPost B rv0 w bs' w1 := WrPost.after h.wf k
theorem WtSt.done (h : WtSt w wr B rv0 rv bs lc vc) : WrPost B rv0 w bs wr := ⟨rv, h.wrt, h.wf⟩
theorem WtSt.call (h : WtSt w wr B rv0 rv bs lc vc) (k : WrPost B rv wr bs' w1) : ∃ rv', WtSt w w1 B rv0 rv' bs' lc vc := by
  obtain ⟨rv', h1, h2⟩ := k
  have hl := h.lt
  have hv := block_lt h.boxV
  refine ⟨rv', h1, (h2.block _ (by omega) (by omega) h.notL).trans h.boxL, (h2.block _ hv (by omega) h.notV).trans h.boxV, h.wf.trans h2, fun e => ?_, fun e => ?_, hl, h.base⟩
  · rcases h2.own _ e with e | e
    · exact h.notL e
    · omega
  · rcases h2.own _ e with e | e
    · exact h.notV e
    · omega
theorem WtSt.below (h : WtSt w wr B rv0 rv bs lc vc) (k : Below wr.heap.size wr w1) : WtSt w w1 B rv0 rv bs lc vc :=
  have hl := h.lt
  have hv := block_lt h.boxV
  ⟨h.wrt.below k, (k.block _ (by omega)).trans h.boxL, (k.block _ hv).trans h.boxV, h.wf.trans (Wf.of_below k), h.notL, h.notV, h.lt, h.base⟩
theorem WtSt.alloc (h : WtSt w wr B rv0 rv bs lc vc) (O : Obj) : WtSt w (wr.alloc O) B rv0 rv bs lc vc := h.below ((Below.refl _ _).alloc (Nat.le_refl _) O)
theorem WtSt.drewN (h : WtSt w wr B rv0 rv bs lc vc) (q : Nat) : WtSt w (wr.drewN q) B rv0 rv bs lc vc := h.below (below_drewN' (Below.refl _ _) q)
theorem WtSt.keep (h : WtSt w wr B rv0 rv bs lc vc) {g : Nat} (hg : w.heap.size ≤ g) (hl : g < wr.heap.size) (hn : rv.ownBlock ≠ some g) (k : WrPost B rv wr bs' w1) : w1.heap[g]? = wr.heap[g]? := by
  obtain ⟨rv', h1, h2⟩ := k
  exact h2.block _ hl (by have := h.lt; omega) hn
theorem WtSt.start (h : WrAt w B rv bs) (lc vc : Array Value) : WtSt w ((w.alloc (.cells lc 26 (0, 0))).alloc (.cells vc 30 (0, 0))) B rv rv bs lc vc :=
  have hb : Below w.heap.size w ((w.alloc (.cells lc 26 (0, 0))).alloc (.cells vc 30 (0, 0))) := ((Below.refl _ _).alloc (Nat.le_refl _) _).alloc (by simp) _
  ⟨h.below hb, block_alloc (heap_alloc_new _ _) _, heap_new_at _ _ _ (by simp), Wf.of_below hb, fun e => by have := (h.base _ e).2; omega, fun e => by have := (h.base _ e).2; omega, h.lt, fun k e => (h.base k e).1⟩
end
theorem beqI (a b : Int) : (a == b) = decide (a = b) := by
  by_cases h : a = b
  · subst h; simp
  · rw [decide_eq_false h]; simpa using h
theorem name_small {s : ByteArray} (h : nameB s = true) : s.size ≤ 1000000 := by
  unfold nameB at h
  simp only [Bool.and_eq_true, decide_eq_true_eq] at h
  omega
theorem strs_sub {w : World} {a : Option Addr} {n cap : Nat} {l : List ByteArray} (h : Strs w (.slice a n cap) l) (i : Nat) (hi : i < l.length) : ∃ b o, a = some ⟨b, o, none⟩ ∧ w.cell? ⟨b, o + i, none⟩ = some (.string l[i]) := by
  obtain ⟨b, o, h1, h2, _⟩ := h.cell i hi
  exact ⟨b, o, h1, h2⟩
theorem flatMap_drop {α : Type} (f : α → List UInt8) (l : List α) (j : Nat) (h : j < l.length) : (l.drop j).flatMap f = f l[j] ++ (l.drop (j + 1)).flatMap f := by
  rw [List.drop_eq_getElem_cons h, List.flatMap_cons]
theorem part_le {a b T : List UInt8} {n : Nat} (h : a ++ b = T) (hT : T.length ≤ n) : a.length ≤ n := by
  rw [← h, List.length_append] at hT
  omega
def WriteOk (l : Lat) (v : Val) : Prop := ∀ (B : Nat) (rv : Value) (bs : List UInt8) (cl cv : List Value) (w : World), latRd (only (lows B) w) l cl → valRd (only (lows B) w) v cv → WrAt w B rv bs → bs.length + (putV l v).length ≤ 80000000 →
    Calls Tryz.prog 50 #[.pointer (some ⟨B, 0, none⟩), .agg cl.toArray, .agg cv.toArray] w fun e w' => e = .returned (.tuple #[]) ∧ WrPost B rv w (bs ++ putV l v) w'
end Go.Proofs.YtmdjnaobllajmaaGreatDoor
