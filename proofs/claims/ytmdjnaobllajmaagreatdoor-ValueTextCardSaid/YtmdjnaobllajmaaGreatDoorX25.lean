/-
  What the statements of the chapter share, part 25: VE9, VK4, VK5, VE10, VX5.
-/
import Derived.Test.YtmdjnaobllajmaaGreatDoorX08
import Derived.Test.YtmdjnaobllajmaaGreatDoorX16
import Derived.Test.YtmdjnaobllajmaaGreatDoorX20
import Derived.Test.YtmdjnaobllajmaaGreatDoorX21
import Derived.Test.YtmdjnaobllajmaaGreatDoorX23
import Derived.Test.YtmdjnaobllajmaaGreatDoorX24
import Derived.Deep.Cut
set_option linter.unusedVariables false
set_option linter.unusedSimpArgs false
set_option maxRecDepth 100000
set_option maxHeartbeats 8000000
namespace Go.Proofs.YtmdjnaobllajmaaGreatDoor
open Go.RowKit
theorem relem_67 (k : Int) (hk : k = 6 ∨ k = 7) (lo hi' : Int) (sn sr : Value) (vn : Int) (a c : Nat) (bn bp be : Option Addr) (bcn bcp bce : Nat) (w : World) (R : Bool) (vps : List Val) (ap : Option Addr) (cp : Nat) (ps : List Lat) (HVP : Hid (SlRd w 4 (valRd w) (.slice bp vps.length bcp) vps)) (HPS : Hid (SlRd w 6 (latRd w) (.slice ap ps.length cp) ps))
 (HEL : Hid (∀ (p : Lat) (q : Val) (cl cq : List Value) (W : World), p ∈ ps → Below w.heap.size w W → latRd W p cl → valRd W q cq → Calls Tryz.prog 38 #[.agg cl.toArray, .agg cq.toArray] W fun e w' => e = .returned (.bool (elemB p q)) ∧ Below W.heap.size W w'))
 (HE : Hid (R = (decide (c = 0) && (decide (vn = 0) && (decide (a = 0) && (decide (vps.length = ps.length) && elemsB ps vps)))))) :
 Calls Tryz.prog 38 #[.agg #[.int .i64 k, .int .i64 lo, .int .i64 hi', sn, .slice ap ps.length cp, sr], .agg #[.int .i64 vn, .slice bn a bcn, .slice bp vps.length bcp, .slice be c bce]] w fun e w' => e = .returned (.bool R) ∧ Below w.heap.size w w' := by
 have hvl : vps.length ≤ 9223372036854775807 := by obtain ⟨_, _, _, _, h⟩ := HVP.out.shape; omega
 have hpl : ps.length ≤ 9223372036854775807 := by obtain ⟨_, _, _, _, h⟩ := HPS.out.shape; omega
 obtain ⟨W2, hW, HB, HBl, HBv⟩ := two_box w #[.int .i64 k, .int .i64 lo, .int .i64 hi', sn, .slice ap ps.length cp, sr] #[.int .i64 vn, .slice bn a bcn, .slice bp vps.length bcp, .slice be c bce] 26 30
 go_enter Tryz.func38, Tryz.ntmps38
 go_upto_region 1 with fail
 rw [hW.out]
 clear hW
 obtain ⟨x0, hx⟩ := ext_self W2
 rw [hx]
 clear hx
 obtain ⟨l0, l1, l2, l3, l4, l5⟩ := bx6 fun x : Ext W2 => HBl.out.ext x
 obtain ⟨v0, v1, v2, v3⟩ := bx4 fun x : Ext W2 => HBv.out.ext x
 rcases hk with rfl | rfl
 all_goals
  by_cases h1 : c = 0
  case neg =>
   have e1 : ((c : Int) != 0) = true := by rw [bne_iff_ne]; omega
   have HF : Hid (R = false) := hid (by rw [HE.out, decide_eq_false h1]; rfl)
   clear HE h1
   go_wp2_with fail
   go_ret
   exact ⟨ret_bool HF.out.symm, HB.out _⟩
  subst h1
  by_cases h2 : vn = 0
  case neg =>
   have e1 : (vn != 0) = true := by rw [bne_iff_ne]; exact h2
   have HF : Hid (R = false) := hid (by rw [HE.out, decide_eq_false h2, Bool.false_and, Bool.and_false])
   clear HE h2
   go_wp2_with fail
   go_ret
   exact ⟨ret_bool HF.out.symm, HB.out _⟩
  subst h2
  by_cases h3 : a = 0
  case neg =>
   have e1 : ((a : Int) != 0) = true := by rw [bne_iff_ne]; omega
   have HF : Hid (R = false) := hid (by rw [HE.out, decide_eq_false h3, Bool.false_and, Bool.and_false, Bool.and_false])
   clear HE h3
   go_wp2_with fail
   go_ret
   exact ⟨ret_bool HF.out.symm, HB.out _⟩
  subst h3
  obtain ⟨nv, hnv⟩ : ∃ n, n = vps.length := ⟨_, rfl⟩
  have HNV := hid hnv
  rw [← hnv] at HVP HE hvl ⊢
  have v2' : ∀ x : Ext W2, x.1.cell? ⟨w.heap.size + 1, 2, none⟩ = some (.slice bp nv bcp) := fun x => by rw [HNV.out]; exact v2 x
  clear v2 hnv
  obtain ⟨np, hnp⟩ : ∃ n, n = ps.length := ⟨_, rfl⟩
  have HNP := hid hnp
  rw [← hnp] at HPS HE hpl ⊢
  have l4' : ∀ x : Ext W2, x.1.cell? ⟨w.heap.size, 4, none⟩ = some (.slice ap np cp) := fun x => by rw [HNP.out]; exact l4 x
  clear l4 hnp
  by_cases h4 : nv = np
  case neg =>
   have e1 : ((nv : Int) != (np : Int)) = true := by rw [bne_iff_ne]; omega
   have HF : Hid (R = false) := hid (by rw [HE.out, decide_eq_false h4, Bool.false_and, Bool.and_false, Bool.and_false, Bool.and_false])
   clear HE h4
   go_wp2_with fail
   go_ret
   exact ⟨ret_bool HF.out.symm, HB.out _⟩
  subst h4
  have HD : Hid (R = elemsB (ps.drop 0) (vps.drop 0)) := hid (by rw [HE.out]; simp)
  clear HE
  go_wp2_with fail
  go_loopw [7] (fun i wr => ∃ (j : Nat) (x : Ext W2), j ≤ nv ∧ i = .int .i64 j ∧ wr = x.1 ∧ Hid (R = elemsB (ps.drop j) (vps.drop j))) (fun i _ => nv - (intOf i).toNat)
  case atStart => exact ⟨0, _, Nat.zero_le _, rfl, rfl, HD⟩
  case round =>
   obtain ⟨j, x, hj, rfl, rfl, He⟩ := hrel
   by_cases hlt : j < nv
   · obtain ⟨q, qb, qo, qn, qdn, qp, qdp, qe, qde, _, _, hqd, _, rfl, hqr, hqc⟩ := valEl HVP.out j (by rw [← HNV.out]; exact hlt)
     have HQR := hid hqr
     have HQC := hid hqc
     obtain ⟨q0, q1, q2, q3⟩ := cx4 fun x : Ext W2 => HQC.out.below (HB.out x)
     obtain ⟨p, pb, po, pan, pcn, pap, pcp, par, pcr, _, hpm, hpd, _, rfl, hpr, hpc⟩ := latEl HPS.out j (by rw [← HNP.out]; exact hlt)
     have HPR := hid hpr
     have HPC := hid hpc
     have HPM := hid hpm
     obtain ⟨p0, p1, p2, p3, p4, p5⟩ := cx6 fun x : Ext W2 => HPC.out.below (HB.out x)
     have hi1 : (j : Int) < (nv : Int) := by omega
     have HJ : Hid (j + 1 ≤ nv) := hid hlt
     have HCE : Hid (∀ y : Ext W2, Calls Tryz.prog 38 #[.agg #[.int .i64 p.kind, .int .i64 p.lo, .int .i64 p.hi, .slice pan p.names.length pcn, .slice pap p.parts.length pcp, .slice par p.rules.length pcr], .agg #[.int .i64 q.n, .slice qn q.names.length qdn, .slice qp q.parts.length qdp, .slice qe q.entries.length qde]] y.1 fun e w' => e = .returned (.bool (elemB p q)) ∧ ∃ z : Ext W2, w' = z.1) := hid fun y => ext_call y (HEL.out p q _ _ y.1 HPM.out (HB.out y) (latRd.below (HB.out y) _ _ HPR.out) (valRd.below (HB.out y) _ _ HQR.out))
     have HS : Hid (R = (elemB p q && elemsB (ps.drop (j + 1)) (vps.drop (j + 1)))) := hid (by rw [He.out, hpd, hqd, elemsB])
     clear He hpd hqd hpr hqr hpc hqc hpm hlt hj
     generalize elemB p q = EL at HCE HS
     cases EL
     · have HF : Hid (R = false) := hid (by rw [HS.out]; rfl)
       clear HS
       go_wp2_with fail
       refine wp_region_at (by kernel_rfl) (by kernel_rfl) _ ?_
       repeat (go_big_quiet_step (with_reducible exact HCE.out _))
       refine wpQuiet_nil ?_
       rintro _ ⟨z, rfl⟩
       go_wp2_with fail
       go_ret
       exact ⟨ret_bool HF.out.symm, HB.out _⟩
     · have HF : Hid (R = elemsB (ps.drop (j + 1)) (vps.drop (j + 1))) := hid (by rw [HS.out]; rfl)
       clear HS
       go_wp2_with fail
       refine wp_region_at (by kernel_rfl) (by kernel_rfl) _ ?_
       repeat (go_big_quiet_step (with_reducible exact HCE.out _))
       refine wpQuiet_nil ?_
       rintro _ ⟨z, rfl⟩
       go_wp2_with fail
       go_roundw
       case rel => exact ⟨j + 1, z, HJ.out, by go_num, rfl, HF⟩
       case measure => have := HJ.out; simp [intOf]; omega
   · have hjj : j = nv := by omega
     subst hjj
     have HF : Hid (R = true) := hid (by rw [He.out, List.drop_eq_nil_of_le (Nat.le_of_eq HNP.out.symm), List.drop_eq_nil_of_le (Nat.le_of_eq HNV.out.symm), elemsB])
     clear hlt hj
     go_wp2_with fail
     go_ret
     exact ⟨ret_bool HF.out.symm, HB.out _⟩
theorem relem_5 (lo hi' : Int) (sn sr : Value) (vn : Int) (a c : Nat) (bn bp be : Option Addr) (bcn bcp bce : Nat) (w : World) (R : Bool) (vps : List Val) (ap : Option Addr) (cp : Nat) (ps : List Lat) (HVP : Hid (SlRd w 4 (valRd w) (.slice bp vps.length bcp) vps)) (HPS : Hid (SlRd w 6 (latRd w) (.slice ap ps.length cp) ps)) (p : Lat) (hps : ps = [p]) (M : Bool)
 (HM : Hid (∀ W, Below w.heap.size w W → Calls Tryz.prog 68 #[sn, .slice bn a bcn] W fun e w' => e = .returned (.bool M) ∧ Below W.heap.size W w'))
 (HEL : Hid (∀ (q : Val) (cl cq : List Value) (W : World), Below w.heap.size w W → latRd W p cl → valRd W q cq → Calls Tryz.prog 38 #[.agg cl.toArray, .agg cq.toArray] W fun e w' => e = .returned (.bool (elemB p q)) ∧ Below W.heap.size W w'))
 (HLE : Hid (∀ (cl : List Value) (W : World), Below w.heap.size w W → latRd W p cl → Calls Tryz.prog 62 #[.agg cl.toArray] W (ValPost W (botV p))))
 (HE : Hid (R = (decide (c = 0) && (decide (vn = 0) && (decide (a = vps.length) && (M && vps.all fun v => elemB p v && decide (valC v (botV p) ≠ 0))))))) :
 Calls Tryz.prog 38 #[.agg #[.int .i64 5, .int .i64 lo, .int .i64 hi', sn, .slice ap ps.length cp, sr], .agg #[.int .i64 vn, .slice bn a bcn, .slice bp vps.length bcp, .slice be c bce]] w fun e w' => e = .returned (.bool R) ∧ Below w.heap.size w w' := by
 have hvl : vps.length ≤ 9223372036854775807 := by obtain ⟨_, _, _, _, h⟩ := HVP.out.shape; omega
 have hpl : ps.length ≤ 9223372036854775807 := by obtain ⟨_, _, _, _, h⟩ := HPS.out.shape; omega
 have HPSE := hid hps
 clear hps
 obtain ⟨W2, hW, HB, HBl, HBv⟩ := two_box w #[.int .i64 5, .int .i64 lo, .int .i64 hi', sn, .slice ap ps.length cp, sr] #[.int .i64 vn, .slice bn a bcn, .slice bp vps.length bcp, .slice be c bce] 26 30
 go_enter Tryz.func38, Tryz.ntmps38
 go_upto_region 1 with fail
 rw [hW.out]
 clear hW
 obtain ⟨x0, hx⟩ := ext_self W2
 rw [hx]
 clear hx
 obtain ⟨l0, l1, l2, l3, l4, l5⟩ := bx6 fun x : Ext W2 => HBl.out.ext x
 obtain ⟨v0, v1, v2, v3⟩ := bx4 fun x : Ext W2 => HBv.out.ext x
 by_cases h1 : c = 0
 case neg =>
  have e1 : ((c : Int) != 0) = true := by rw [bne_iff_ne]; omega
  have HF : Hid (R = false) := hid (by rw [HE.out, decide_eq_false h1]; rfl)
  clear HE h1
  go_wp2_with fail
  go_ret
  exact ⟨ret_bool HF.out.symm, HB.out _⟩
 subst h1
 by_cases h2 : vn = 0
 case neg =>
  have e1 : (vn != 0) = true := by rw [bne_iff_ne]; exact h2
  have HF : Hid (R = false) := hid (by rw [HE.out, decide_eq_false h2, Bool.false_and, Bool.and_false])
  clear HE h2
  go_wp2_with fail
  go_ret
  exact ⟨ret_bool HF.out.symm, HB.out _⟩
 subst h2
 obtain ⟨nv, hnv⟩ : ∃ n, n = vps.length := ⟨_, rfl⟩
 have HNV := hid hnv
 rw [← hnv] at HVP HE hvl ⊢
 have v2' : ∀ x : Ext W2, x.1.cell? ⟨w.heap.size + 1, 2, none⟩ = some (.slice bp nv bcp) := fun x => by rw [HNV.out]; exact v2 x
 clear v2 hnv
 by_cases h3 : a = nv
 case neg =>
  have e1 : ((a : Int) != (nv : Int)) = true := by rw [bne_iff_ne]; omega
  have HF : Hid (R = false) := hid (by rw [HE.out, decide_eq_false h3, Bool.false_and, Bool.and_false, Bool.and_false])
  clear HE h3
  go_wp2_with fail
  go_ret
  exact ⟨ret_bool HF.out.symm, HB.out _⟩
 subst h3
 replace HM := hid (ext_of HB.out HM.out)
 cases M
 case false =>
  have HF : Hid (R = false) := hid (by rw [HE.out, Bool.false_and, Bool.and_false, Bool.and_false, Bool.and_false])
  clear HE 
  go_wp2_with (first | (go_at_call 68; refine (HM.out _).mono ?_; rintro e _ ⟨rfl, y, rfl⟩))
  go_ret
  exact ⟨ret_bool HF.out.symm, HB.out _⟩
 have HD : Hid (R = (vps.drop 0).all fun v => elemB p v && decide (valC v (botV p) ≠ 0)) := hid (by rw [HE.out]; simp)
 clear HE
 go_wp2_with (first | (go_at_call 68; refine (HM.out _).mono ?_; rintro e _ ⟨rfl, y, rfl⟩))
 go_loopw [6] (fun i wr => ∃ (j : Nat) (x : Ext W2), j ≤ a ∧ i = .int .i64 j ∧ wr = x.1 ∧ Hid (R = (vps.drop j).all fun v => elemB p v && decide (valC v (botV p) ≠ 0))) (fun i _ => a - (intOf i).toNat)
 case atStart => exact ⟨0, _, Nat.zero_le _, rfl, rfl, HD⟩
 case round =>
  obtain ⟨j, x, hj, rfl, rfl, He⟩ := hrel
  by_cases hlt : j < a
  · obtain ⟨q, qb, qo, qn, qdn, qp, qdp, qe, qde, _, _, hqd, _, rfl, hqr, hqc⟩ := valEl HVP.out j (by rw [← HNV.out]; exact hlt)
    have HQR := hid hqr
    have HQC := hid hqc
    obtain ⟨q0, q1, q2, q3⟩ := cx4 fun x : Ext W2 => HQC.out.below (HB.out x)
    obtain ⟨p', pb, po, pan, pcn, pap, pcp, par, pcr, hp0, _, _, _, rfl, hpr, hpc⟩ := latEl HPS.out 0 (by rw [HPSE.out]; exact Nat.one_pos)
    obtain rfl : p = p' := by rw [HPSE.out] at hp0; exact Option.some.inj hp0
    have HPR := hid hpr
    have hpc' : CellsAt w pb po [.int .i64 p.kind, .int .i64 p.lo, .int .i64 p.hi, .slice pan p.names.length pcn, .slice pap p.parts.length pcp, .slice par p.rules.length pcr] := by rw [Nat.zero_mul, Nat.add_zero] at hpc; exact hpc
    have HPC := hid hpc'
    have hpl1 : (0 : Int) < (ps.length : Int) := by rw [HPSE.out]; show (0 : Int) < ((1 : Nat) : Int); omega
    have hpl2 : 0 < ps.length := by rw [HPSE.out]; exact Nat.one_pos
    obtain ⟨p0, p1, p2, p3, p4, p5⟩ := cx6 fun x : Ext W2 => HPC.out.below (HB.out x)
    have hi1 : (j : Int) < (a : Int) := by omega
    have HJ : Hid (j + 1 ≤ a) := hid hlt
    have HCE : Hid (∀ y : Ext W2, Calls Tryz.prog 38 #[.agg #[.int .i64 p.kind, .int .i64 p.lo, .int .i64 p.hi, .slice pan p.names.length pcn, .slice pap p.parts.length pcp, .slice par p.rules.length pcr], .agg #[.int .i64 q.n, .slice qn q.names.length qdn, .slice qp q.parts.length qdp, .slice qe q.entries.length qde]] y.1 fun e w' => e = .returned (.bool (elemB p q)) ∧ ∃ z : Ext W2, w' = z.1) := hid fun y => ext_call y (HEL.out q _ _ y.1 (HB.out y) (latRd.below (HB.out y) _ _ HPR.out) (valRd.below (HB.out y) _ _ HQR.out))
    have HS : Hid (R = ((elemB p q && decide (valC q (botV p) ≠ 0)) && (vps.drop (j + 1)).all fun v => elemB p v && decide (valC v (botV p) ≠ 0))) := hid (by rw [He.out, hqd, List.all_cons])
    clear He hqd hpr hqr hpc hqc hlt hj hp0 hpc'
    cases hel : elemB p q
    · have HF : Hid (R = false) := hid (by rw [HS.out, hel]; rfl)
      rw [hel] at HCE
      clear HS hel
      go_wp2_with fail
      refine wp_region_at (by kernel_rfl) (by kernel_rfl) _ ?_
      repeat (go_big_quiet_step (with_reducible exact HCE.out _))
      refine wpQuiet_nil ?_
      rintro _ ⟨z, rfl⟩
      go_wp2_with fail
      go_ret
      exact ⟨ret_bool HF.out.symm, HB.out _⟩
    · have HEL3 : Hid (∀ W, Below w.heap.size w W → Calls Tryz.prog 38 #[.agg #[.int .i64 p.kind, .int .i64 p.lo, .int .i64 p.hi, .slice pan p.names.length pcn, .slice pap p.parts.length pcp, .slice par p.rules.length pcr], .agg #[.int .i64 q.n, .slice qn q.names.length qdn, .slice qp q.parts.length qdp, .slice qe q.entries.length qde]] W fun e w' => e = .returned (.bool true) ∧ Below W.heap.size W w') := hid fun W h => by
        have := HEL.out q _ _ W h (latRd.below h _ _ HPR.out) (valRd.below h _ _ HQR.out)
        rw [hel] at this; exact this
      have HBOT : Hid (∀ W, Below w.heap.size w W → Calls Tryz.prog 62 #[.agg #[.int .i64 p.kind, .int .i64 p.lo, .int .i64 p.hi, .slice pan p.names.length pcn, .slice pap p.parts.length pcp, .slice par p.rules.length pcr]] W (ValPost W (botV p))) := hid fun W h => HLE.out _ W h (latRd.below h _ _ HPR.out)
      have HS0 : Hid (∀ y : Ext W2, y.1.cell? ⟨w.heap.size, 4, none⟩ = some (.slice (some ⟨pb, po, none⟩) ps.length cp) ∧ y.1.cell? ⟨w.heap.size + 1, 2, none⟩ = some (.slice (some ⟨qb, qo, none⟩) a bcp) ∧ y.1.cell? ⟨pb, po, none⟩ = some (.int .i64 p.kind) ∧ y.1.cell? ⟨pb, po + 1, none⟩ = some (.int .i64 p.lo) ∧ y.1.cell? ⟨pb, po + 2, none⟩ = some (.int .i64 p.hi) ∧ y.1.cell? ⟨pb, po + 3, none⟩ = some (.slice pan p.names.length pcn) ∧ y.1.cell? ⟨pb, po + 4, none⟩ = some (.slice pap p.parts.length pcp) ∧ y.1.cell? ⟨pb, po + 5, none⟩ = some (.slice par p.rules.length pcr) ∧ y.1.cell? ⟨qb, qo + j * 4, none⟩ = some (.int .i64 q.n) ∧ y.1.cell? ⟨qb, qo + j * 4 + 1, none⟩ = some (.slice qn q.names.length qdn) ∧ y.1.cell? ⟨qb, qo + j * 4 + 2, none⟩ = some (.slice qp q.parts.length qdp) ∧ y.1.cell? ⟨qb, qo + j * 4 + 3, none⟩ = some (.slice qe q.entries.length qde)) := hid fun y => ⟨l4 y, v2' y, p0 y, p1 y, p2 y, p3 y, p4 y, p5 y, q0 y, q1 y, q2 y, q3 y⟩
      have HXB : Hid (∀ W, Below x.1.heap.size x.1 W → Below w.heap.size w W ∧ ∃ y : Ext W2, W = y.1) := hid fun W h => ⟨(HB.out x).trans (h.mono (HB.out x).size), ⟨W, x.2.trans (h.mono x.2.size)⟩, rfl⟩
      have HSX : Hid (∀ w', Below x.1.heap.size x.1 w' → w'.cell? ⟨w.heap.size, 4, none⟩ = some (.slice (some ⟨pb, po, none⟩) ps.length cp) ∧ w'.cell? ⟨w.heap.size + 1, 2, none⟩ = some (.slice (some ⟨qb, qo, none⟩) a bcp) ∧ w'.cell? ⟨pb, po, none⟩ = some (.int .i64 p.kind) ∧ w'.cell? ⟨pb, po + 1, none⟩ = some (.int .i64 p.lo) ∧ w'.cell? ⟨pb, po + 2, none⟩ = some (.int .i64 p.hi) ∧ w'.cell? ⟨pb, po + 3, none⟩ = some (.slice pan p.names.length pcn) ∧ w'.cell? ⟨pb, po + 4, none⟩ = some (.slice pap p.parts.length pcp) ∧ w'.cell? ⟨pb, po + 5, none⟩ = some (.slice par p.rules.length pcr) ∧ w'.cell? ⟨qb, qo + j * 4, none⟩ = some (.int .i64 q.n) ∧ w'.cell? ⟨qb, qo + j * 4 + 1, none⟩ = some (.slice qn q.names.length qdn) ∧ w'.cell? ⟨qb, qo + j * 4 + 2, none⟩ = some (.slice qp q.parts.length qdp) ∧ w'.cell? ⟨qb, qo + j * 4 + 3, none⟩ = some (.slice qe q.entries.length qde)) := hid fun w' h => by obtain ⟨y, rfl⟩ := (HXB.out w' h).2; exact HS0.out y
      by_cases hq : valC q (botV p) = 0
      · have HF : Hid (R = false) := hid (by rw [HS.out, hel, decide_eq_false (show ¬ (valC q (botV p) ≠ 0) from fun h => h hq)]; rfl)
        have HEQ : Hid (∀ (W : World) (cs : List Value), Below w.heap.size w W → valRd W (botV p) cs → Calls Tryz.prog 19 #[.agg #[.int .i64 q.n, .slice qn q.names.length qdn, .slice qp q.parts.length qdp, .slice qe q.entries.length qde], .agg cs.toArray] W fun e w' => e = .returned (.bool true) ∧ Below W.heap.size W w') := hid fun W cs h hc => by
          have := rEqual_any q (botV p) _ cs W (valRd.below h _ _ HQR.out) hc
          rw [decide_eq_true hq] at this; exact this
        clear HS hel hq HCE
        go_wp2_with fail
        clear l4 v2' p0 p1 p2 p3 p4 p5 q0 q1 q2 q3 l0 l1 l2 l3 l5 v0 v1 v3 HS0
        go_region_held3 (fun w' => w'.cell? ⟨w.heap.size, 4, none⟩ = some (.slice (some ⟨pb, po, none⟩) ps.length cp) ∧ w'.cell? ⟨w.heap.size + 1, 2, none⟩ = some (.slice (some ⟨qb, qo, none⟩) a bcp) ∧ w'.cell? ⟨pb, po, none⟩ = some (.int .i64 p.kind) ∧ w'.cell? ⟨pb, po + 1, none⟩ = some (.int .i64 p.lo) ∧ w'.cell? ⟨pb, po + 2, none⟩ = some (.int .i64 p.hi) ∧ w'.cell? ⟨pb, po + 3, none⟩ = some (.slice pan p.names.length pcn) ∧ w'.cell? ⟨pb, po + 4, none⟩ = some (.slice pap p.parts.length pcp) ∧ w'.cell? ⟨pb, po + 5, none⟩ = some (.slice par p.rules.length pcr) ∧ w'.cell? ⟨qb, qo + j * 4, none⟩ = some (.int .i64 q.n) ∧ w'.cell? ⟨qb, qo + j * 4 + 1, none⟩ = some (.slice qn q.names.length qdn) ∧ w'.cell? ⟨qb, qo + j * 4 + 2, none⟩ = some (.slice qp q.parts.length qdp) ∧ w'.cell? ⟨qb, qo + j * 4 + 3, none⟩ = some (.slice qe q.entries.length qde))
          (first
            | exact HSX.out _ (Below.refl _ _)
            | exact HSX.out _ (Below.refl _ _).drew
            | exact HSX.out _ HB7.out
            | exact HSX.out _ HB6.out
            | exact HSX.out _ HB5.out
            | skip)
          (first
            | (go_at_call 38
               refine (HEL3.out _ (HXB.out _ (Below.refl _ _).drew).1).mono ?_
               rintro e w5 ⟨rfl, hb5⟩
               have HB5 : Hid (Below x.1.heap.size x.1 w5) := hid ((Below.refl _ _).drew.trans hb5)
               clear hb5)
            | (go_at_call 62
               refine (HBOT.out _ (HXB.out _ HB5.out).1).mono ?_
               rintro e w6 ⟨cs6, rfl, hv6, hb6⟩
               have HV6 := hid (valRd_mono' (only_sub _ _) hv6)
               have HB6 : Hid (Below x.1.heap.size x.1 w6) := hid (HB5.out.trans (hb6.mono HB5.out.size))
               clear hb6 hv6)
            | (go_at_call 19
               refine (HEQ.out _ _ (HXB.out _ HB6.out).1 HV6.out).mono ?_
               rintro e w7 ⟨rfl, hb7⟩
               have HB7 : Hid (Below x.1.heap.size x.1 w7) := hid (HB6.out.trans (hb7.mono HB6.out.size))
               clear hb7))
        all_goals
         obtain ⟨z, hz⟩ := (HXB.out _ HB7.out).2
         rw [hz]
         go_wp2_with fail
         go_ret
         exact ⟨ret_bool HF.out.symm, HB.out _⟩
      · have HF : Hid (R = (vps.drop (j + 1)).all fun v => elemB p v && decide (valC v (botV p) ≠ 0)) := hid (by rw [HS.out, hel, decide_eq_true (show valC q (botV p) ≠ 0 from hq)]; rfl)
        have HEQ : Hid (∀ (W : World) (cs : List Value), Below w.heap.size w W → valRd W (botV p) cs → Calls Tryz.prog 19 #[.agg #[.int .i64 q.n, .slice qn q.names.length qdn, .slice qp q.parts.length qdp, .slice qe q.entries.length qde], .agg cs.toArray] W fun e w' => e = .returned (.bool false) ∧ Below W.heap.size W w') := hid fun W cs h hc => by
          have := rEqual_any q (botV p) _ cs W (valRd.below h _ _ HQR.out) hc
          rw [decide_eq_false hq] at this; exact this
        clear HS hel hq HCE
        go_wp2_with fail
        clear l4 v2' p0 p1 p2 p3 p4 p5 q0 q1 q2 q3 l0 l1 l2 l3 l5 v0 v1 v3 HS0
        go_region_held3 (fun w' => w'.cell? ⟨w.heap.size, 4, none⟩ = some (.slice (some ⟨pb, po, none⟩) ps.length cp) ∧ w'.cell? ⟨w.heap.size + 1, 2, none⟩ = some (.slice (some ⟨qb, qo, none⟩) a bcp) ∧ w'.cell? ⟨pb, po, none⟩ = some (.int .i64 p.kind) ∧ w'.cell? ⟨pb, po + 1, none⟩ = some (.int .i64 p.lo) ∧ w'.cell? ⟨pb, po + 2, none⟩ = some (.int .i64 p.hi) ∧ w'.cell? ⟨pb, po + 3, none⟩ = some (.slice pan p.names.length pcn) ∧ w'.cell? ⟨pb, po + 4, none⟩ = some (.slice pap p.parts.length pcp) ∧ w'.cell? ⟨pb, po + 5, none⟩ = some (.slice par p.rules.length pcr) ∧ w'.cell? ⟨qb, qo + j * 4, none⟩ = some (.int .i64 q.n) ∧ w'.cell? ⟨qb, qo + j * 4 + 1, none⟩ = some (.slice qn q.names.length qdn) ∧ w'.cell? ⟨qb, qo + j * 4 + 2, none⟩ = some (.slice qp q.parts.length qdp) ∧ w'.cell? ⟨qb, qo + j * 4 + 3, none⟩ = some (.slice qe q.entries.length qde))
          (first
            | exact HSX.out _ (Below.refl _ _)
            | exact HSX.out _ (Below.refl _ _).drew
            | exact HSX.out _ HB7.out
            | exact HSX.out _ HB6.out
            | exact HSX.out _ HB5.out
            | skip)
          (first
            | (go_at_call 38
               refine (HEL3.out _ (HXB.out _ (Below.refl _ _).drew).1).mono ?_
               rintro e w5 ⟨rfl, hb5⟩
               have HB5 : Hid (Below x.1.heap.size x.1 w5) := hid ((Below.refl _ _).drew.trans hb5)
               clear hb5)
            | (go_at_call 62
               refine (HBOT.out _ (HXB.out _ HB5.out).1).mono ?_
               rintro e w6 ⟨cs6, rfl, hv6, hb6⟩
               have HV6 := hid (valRd_mono' (only_sub _ _) hv6)
               have HB6 : Hid (Below x.1.heap.size x.1 w6) := hid (HB5.out.trans (hb6.mono HB5.out.size))
               clear hb6 hv6)
            | (go_at_call 19
               refine (HEQ.out _ _ (HXB.out _ HB6.out).1 HV6.out).mono ?_
               rintro e w7 ⟨rfl, hb7⟩
               have HB7 : Hid (Below x.1.heap.size x.1 w7) := hid (HB6.out.trans (hb7.mono HB6.out.size))
               clear hb7))
        all_goals
         obtain ⟨z, hz⟩ := (HXB.out _ HB7.out).2
         rw [hz]
         go_wp2_with fail
         go_roundw
         case rel => exact ⟨j + 1, z, HJ.out, by go_num, rfl, HF⟩
         case measure => have := HJ.out; simp [intOf]; omega
  · have hjj : j = a := by omega
    subst hjj
    have HF : Hid (R = true) := hid (by rw [He.out, List.drop_eq_nil_of_le (Nat.le_of_eq HNV.out.symm)]; rfl)
    clear hlt hj
    go_wp2_with fail
    go_ret
    exact ⟨ret_bool HF.out.symm, HB.out _⟩
theorem rNode_any (l : Lat) (cs : List Value) (d : Int) (n : Nat) (w : World) (hl : latRd w l cs) (hd : 0 ≤ d ∧ d ≤ 7) (hn : n ≤ 64) :
 Calls Tryz.prog 106 #[.agg cs.toArray, .int .i64 d, .int .i64 n] w fun e w' => e = .returned (.int .i64 (nodeR l d n)) ∧ Below w.heap.size w w' := by
 obtain ⟨vn, vp, vr, rfl, hi, hns, hps, hrs⟩ := (latRd_iff _ _ _).1 hl
 have HL := hid hl
 obtain ⟨an, cn, rfl, hln, hmn⟩ := hns.shape
 obtain ⟨ap, cp, rfl, hlp, hmp⟩ := hps.shape
 obtain ⟨ar, cr, rfl, hlr, hmr⟩ := hrs.shape
 have HSH : Hid (∀ W, Below w.heap.size w W → Calls Tryz.prog 146 #[.agg #[.int .i64 l.kind, .int .i64 l.lo, .int .i64 l.hi, .slice an l.names.length cn, .slice ap l.parts.length cp, .slice ar l.rules.length cr]] W fun e w' => e = .returned (.bool (!shapeB l)) ∧ Below W.heap.size W w') := hid fun W h => rShape_any l _ W (latRd.below h _ _ HL.out)
 have HNA : Hid (∀ W, Below w.heap.size w W → Calls Tryz.prog 147 #[.agg #[.int .i64 l.kind, .int .i64 l.lo, .int .i64 l.hi, .slice an l.names.length cn, .slice ap l.parts.length cp, .slice ar l.rules.length cr]] W fun e w' => e = .returned (.bool (namedR l.kind l.names l.rules)) ∧ Below W.heap.size W w') := hid fun W h => rNamed_any l _ W (latRd.below h _ _ HL.out)
 have HR : Hid (nodeR l d n = if 6 < d ∨ 64 ≤ n then 6 else if shapeB l then 1 else if limitsB l then 6 else if namedR l.kind l.names l.rules = false then 3 else if l.hi < l.lo ∨ l.lo < -1000000000 ∨ 1000000000 < l.hi then 5 else if chainsB l then 4 else 0) := hid rfl
 have HP : Hid (shapeB l = false → l.kind = 7 → ∃ b o p q n0 p0 r0, ap = some ⟨b, o, none⟩ ∧ l.parts.length = 2 ∧ chainsB l = !(chainB p) ∧ latRd w p [.int .i64 p.kind, .int .i64 p.lo, .int .i64 p.hi, n0, p0, r0] ∧ CellsAt w b o [.int .i64 p.kind, .int .i64 p.lo, .int .i64 p.hi, n0, p0, r0]) := hid fun hs h7 => by
   have h2 := shapeB_lex l hs h7
   obtain ⟨p, q, hpq⟩ : ∃ p q, l.parts = [p, q] := by
    match l.parts, h2 with
    | [p, q], _ => exact ⟨p, q, rfl⟩
   obtain ⟨a', cp', heq, _, _, hcell⟩ := hps
   cases heq
   obtain ⟨b, o, cs0, hab, hl0, hc0, hr0⟩ := hcell 0 (by omega)
   have hp0 : l.parts[0]'(by omega) = p := by simp [hpq]
   rw [hp0] at hr0
   obtain ⟨n0, p0, r0, rfl, _⟩ := (latRd_iff _ _ _).1 hr0
   refine ⟨b, o, p, q, n0, p0, r0, hab, h2, ?_, hr0, by simpa using hc0⟩
   unfold chainsB
   rw [hpq, decide_eq_true h7]; rfl
 have H7 : Hid (l.kind ≠ 7 → chainsB l = false) := hid fun h => by unfold chainsB; rw [decide_eq_false h]; rfl
 have HLM : Hid (limitsB l = true ↔ mostN l.kind < l.names.length ∨ 32 < l.rules.length) := hid (by unfold limitsB; exact decide_eq_true_iff)
 generalize nodeR l d n = R at HR ⊢
 generalize shapeB l = S at HSH HR HP
 generalize limitsB l = LM at HR HLM
 generalize namedR l.kind l.names l.rules = NM at HNA HR
 generalize hch : chainsB l = CH at HR HP H7
 clear hch
 have hnn : l.names.length ≤ 9223372036854775807 := by omega
 have hnr : l.rules.length ≤ 9223372036854775807 := by omega
 have hnp : l.parts.length ≤ 9223372036854775807 := by omega
 clear hi hns hps hrs hl hln hlr hlp hmn hmr hmp HL
 generalize l.kind = k at HSH HNA HR HP H7 HLM ⊢
 generalize l.lo = lo at HSH HNA HR ⊢
 generalize l.hi = hi' at HSH HNA HR ⊢
 generalize l.names.length = nn at HSH HNA HLM hnn ⊢
 generalize l.rules.length = nr at HSH HNA HLM hnr ⊢
 generalize l.parts.length = np at HSH HNA HP hnp ⊢
 obtain ⟨hd0, hd7⟩ := hd
 have HB : Hid (∀ x : Ext (w.alloc (.cells #[.int .i64 k, .int .i64 lo, .int .i64 hi', .slice an nn cn, .slice ap np cp, .slice ar nr cr] 26)), Below w.heap.size w x.1) := hid fun x => ((Below.refl _ _).alloc (Nat.le_refl _) _).trans (x.2.mono (by simp))
 have HX : Hid (∀ (x : Ext (w.alloc (.cells #[.int .i64 k, .int .i64 lo, .int .i64 hi', .slice an nn cn, .slice ap np cp, .slice ar nr cr] 26))) (i : Nat) q, #[Value.int .i64 k, .int .i64 lo, .int .i64 hi', .slice an nn cn, .slice ap np cp, .slice ar nr cr][i]? = some q → x.1.cell? ⟨w.heap.size, i, none⟩ = some q) := hid fun x i q hq => x.cell (by rw [World.cell?_alloc_at _ _ _ _ rfl]; exact hq)
 have HBA : Hid (∀ O, Below w.heap.size w (w.alloc O)) := hid fun O => (Below.refl _ _).alloc (Nat.le_refl _) O
 by_cases k6 : k = 6
 · subst k6
   by_cases h6 : 6 < d
   · have HF : Hid (R = 6) := hid (by rw [HR.out, if_pos (.inl h6)])
     clear HX HB
     go_enter Tryz.func106, Tryz.ntmps106
     go_wp2_with fail
     go_ret
     exact ⟨ret_int HF.out.symm, HBA.out _⟩
   have h6' : d ≤ 6 := by omega
   by_cases h64 : 64 ≤ n
   · have HF : Hid (R = 6) := hid (by rw [HR.out, if_pos (.inr h64)])
     have h64' : (64 : Int) ≤ (n : Int) := by omega
     clear HX HB h6
     go_enter Tryz.func106, Tryz.ntmps106
     go_wp2_with fail
     go_ret
     exact ⟨ret_int HF.out.symm, HBA.out _⟩
   have h64' : (n : Int) < 64 := by omega
   replace HR : Hid (R = if S then 1 else if LM then 6 else if NM = false then 3 else if hi' < lo ∨ lo < -1000000000 ∨ 1000000000 < hi' then 5 else if CH then 4 else 0) := hid (by rw [HR.out, if_neg (by omega)])
   have g1 : decide (6 < d) = false := decide_eq_false h6
   have g2 : decide ((64 : Int) ≤ (n : Int)) = false := decide_eq_false (by omega)
   clear h6 h64
   go_enter Tryz.func106, Tryz.ntmps106
   go_wp2_with fail
   generalize w.alloc (.cells #[.int .i64 6, .int .i64 lo, .int .i64 hi', .slice an nn cn, .slice ap np cp, .slice ar nr cr] 26) = W1 at HB HX ⊢
   obtain ⟨x0, hx⟩ := ext_self W1
   rw [hx]
   clear hx
   obtain ⟨l0, l1, l2, l3, l4, l5⟩ := bx6 fun x : Ext W1 => HX.out x
   replace HSH := hid (ext_of HB.out HSH.out)
   replace HNA := hid (ext_of HB.out HNA.out)
   go_wp2_with fail
   refine (HSH.out _).mono ?_
   rintro e _ ⟨rfl, x1, rfl⟩
   clear x0
   cases S
   case true =>
    have HF : Hid (R = 1) := hid (by rw [HR.out, if_pos rfl])
    go_wp2_with fail
    go_ret
    exact ⟨ret_int HF.out.symm, HB.out _⟩
   replace HR : Hid (R = if LM then 6 else if NM = false then 3 else if hi' < lo ∨ lo < -1000000000 ∨ 1000000000 < hi' then 5 else if CH then 4 else 0) := hid (by rw [HR.out, if_neg Bool.false_ne_true])
   by_cases hm : 8 < nn
   · have HF : Hid (R = 6) := hid (by rw [HR.out, if_pos (HLM.out.2 (by first | exact .inl hm | (left; unfold mostN; split <;> (try split) <;> omega)))])
     have hm' : decide ((8 : Int) < (nn : Int)) = true := decide_eq_true (by omega)
     go_wp2_with fail
     go_ret
     exact ⟨ret_int HF.out.symm, HB.out _⟩
   have hm' : decide ((8 : Int) < (nn : Int)) = false := decide_eq_false (by omega)
   by_cases hr : 32 < nr
   · have HF : Hid (R = 6) := hid (by rw [HR.out, if_pos (HLM.out.2 (.inr hr))])
     have hr' : decide ((32 : Int) < (nr : Int)) = true := decide_eq_true (by omega)
     go_wp2_with fail
     go_ret
     exact ⟨ret_int HF.out.symm, HB.out _⟩
   have hr' : decide ((32 : Int) < (nr : Int)) = false := decide_eq_false (by omega)
   replace HR : Hid (R = if NM = false then 3 else if hi' < lo ∨ lo < -1000000000 ∨ 1000000000 < hi' then 5 else if CH then 4 else 0) := hid (by rw [HR.out, if_neg (fun h => by have := HLM.out.1 h; unfold mostN at this; revert this; first | omega | (split <;> (try split) <;> omega))])
   clear HLM hm hr
   go_wp2_with fail
   refine (HNA.out _).mono ?_
   rintro e _ ⟨rfl, x2, rfl⟩
   clear x1
   cases NM
   case false =>
    have HF : Hid (R = 3) := hid (by rw [HR.out, if_pos rfl])
    go_wp2_with fail
    go_ret
    exact ⟨ret_int HF.out.symm, HB.out _⟩
   replace HR : Hid (R = if hi' < lo ∨ lo < -1000000000 ∨ 1000000000 < hi' then 5 else if CH then 4 else 0) := hid (by rw [HR.out, if_neg (fun h => Bool.noConfusion h)])
   by_cases p1 : hi' < lo
   · have HF : Hid (R = 5) := hid (by rw [HR.out, if_pos (by omega)])
     have dp1 : decide (hi' < lo) = true := decide_eq_true p1
     clear p1
     go_wp2_with fail
     go_ret
     exact ⟨ret_int HF.out.symm, HB.out _⟩
   have dp1 : decide (hi' < lo) = false := decide_eq_false p1
   by_cases p2 : lo < -1000000000
   · have HF : Hid (R = 5) := hid (by rw [HR.out, if_pos (by omega)])
     have dp2 : decide (lo < -1000000000) = true := decide_eq_true p2
     clear p2
     go_wp2_with fail
     go_ret
     exact ⟨ret_int HF.out.symm, HB.out _⟩
   have dp2 : decide (lo < -1000000000) = false := decide_eq_false p2
   by_cases p3 : 1000000000 < hi'
   · have HF : Hid (R = 5) := hid (by rw [HR.out, if_pos (by omega)])
     have dp3 : decide (1000000000 < hi') = true := decide_eq_true p3
     clear p3
     go_wp2_with fail
     go_ret
     exact ⟨ret_int HF.out.symm, HB.out _⟩
   have dp3 : decide (1000000000 < hi') = false := decide_eq_false p3
   replace HR : Hid (R = if CH then 4 else 0) := hid (by rw [HR.out, if_neg (by omega)])
   clear p1 p2 p3
   have HF : Hid (R = 0) := hid (by rw [HR.out, H7.out (by decide)]; rfl)
   clear HP
   go_wp2_with fail
   go_ret
   exact ⟨ret_int HF.out.symm, HB.out _⟩
 by_cases k10 : k = 10
 · subst k10
   by_cases h6 : 6 < d
   · have HF : Hid (R = 6) := hid (by rw [HR.out, if_pos (.inl h6)])
     clear HX HB
     go_enter Tryz.func106, Tryz.ntmps106
     go_wp2_with fail
     go_ret
     exact ⟨ret_int HF.out.symm, HBA.out _⟩
   have h6' : d ≤ 6 := by omega
   by_cases h64 : 64 ≤ n
   · have HF : Hid (R = 6) := hid (by rw [HR.out, if_pos (.inr h64)])
     have h64' : (64 : Int) ≤ (n : Int) := by omega
     clear HX HB h6
     go_enter Tryz.func106, Tryz.ntmps106
     go_wp2_with fail
     go_ret
     exact ⟨ret_int HF.out.symm, HBA.out _⟩
   have h64' : (n : Int) < 64 := by omega
   replace HR : Hid (R = if S then 1 else if LM then 6 else if NM = false then 3 else if hi' < lo ∨ lo < -1000000000 ∨ 1000000000 < hi' then 5 else if CH then 4 else 0) := hid (by rw [HR.out, if_neg (by omega)])
   have g1 : decide (6 < d) = false := decide_eq_false h6
   have g2 : decide ((64 : Int) ≤ (n : Int)) = false := decide_eq_false (by omega)
   clear h6 h64
   go_enter Tryz.func106, Tryz.ntmps106
   go_wp2_with fail
   generalize w.alloc (.cells #[.int .i64 10, .int .i64 lo, .int .i64 hi', .slice an nn cn, .slice ap np cp, .slice ar nr cr] 26) = W1 at HB HX ⊢
   obtain ⟨x0, hx⟩ := ext_self W1
   rw [hx]
   clear hx
   obtain ⟨l0, l1, l2, l3, l4, l5⟩ := bx6 fun x : Ext W1 => HX.out x
   replace HSH := hid (ext_of HB.out HSH.out)
   replace HNA := hid (ext_of HB.out HNA.out)
   go_wp2_with fail
   refine (HSH.out _).mono ?_
   rintro e _ ⟨rfl, x1, rfl⟩
   clear x0
   cases S
   case true =>
    have HF : Hid (R = 1) := hid (by rw [HR.out, if_pos rfl])
    go_wp2_with fail
    go_ret
    exact ⟨ret_int HF.out.symm, HB.out _⟩
   replace HR : Hid (R = if LM then 6 else if NM = false then 3 else if hi' < lo ∨ lo < -1000000000 ∨ 1000000000 < hi' then 5 else if CH then 4 else 0) := hid (by rw [HR.out, if_neg Bool.false_ne_true])
   by_cases hm : 12 < nn
   · have HF : Hid (R = 6) := hid (by rw [HR.out, if_pos (HLM.out.2 (by first | exact .inl hm | (left; unfold mostN; split <;> (try split) <;> omega)))])
     have hm' : decide ((12 : Int) < (nn : Int)) = true := decide_eq_true (by omega)
     go_wp2_with fail
     go_ret
     exact ⟨ret_int HF.out.symm, HB.out _⟩
   have hm' : decide ((12 : Int) < (nn : Int)) = false := decide_eq_false (by omega)
   by_cases hr : 32 < nr
   · have HF : Hid (R = 6) := hid (by rw [HR.out, if_pos (HLM.out.2 (.inr hr))])
     have hr' : decide ((32 : Int) < (nr : Int)) = true := decide_eq_true (by omega)
     go_wp2_with fail
     go_ret
     exact ⟨ret_int HF.out.symm, HB.out _⟩
   have hr' : decide ((32 : Int) < (nr : Int)) = false := decide_eq_false (by omega)
   replace HR : Hid (R = if NM = false then 3 else if hi' < lo ∨ lo < -1000000000 ∨ 1000000000 < hi' then 5 else if CH then 4 else 0) := hid (by rw [HR.out, if_neg (fun h => by have := HLM.out.1 h; unfold mostN at this; revert this; first | omega | (split <;> (try split) <;> omega))])
   clear HLM hm hr
   go_wp2_with fail
   refine (HNA.out _).mono ?_
   rintro e _ ⟨rfl, x2, rfl⟩
   clear x1
   cases NM
   case false =>
    have HF : Hid (R = 3) := hid (by rw [HR.out, if_pos rfl])
    go_wp2_with fail
    go_ret
    exact ⟨ret_int HF.out.symm, HB.out _⟩
   replace HR : Hid (R = if hi' < lo ∨ lo < -1000000000 ∨ 1000000000 < hi' then 5 else if CH then 4 else 0) := hid (by rw [HR.out, if_neg (fun h => Bool.noConfusion h)])
   by_cases p1 : hi' < lo
   · have HF : Hid (R = 5) := hid (by rw [HR.out, if_pos (by omega)])
     have dp1 : decide (hi' < lo) = true := decide_eq_true p1
     clear p1
     go_wp2_with fail
     go_ret
     exact ⟨ret_int HF.out.symm, HB.out _⟩
   have dp1 : decide (hi' < lo) = false := decide_eq_false p1
   by_cases p2 : lo < -1000000000
   · have HF : Hid (R = 5) := hid (by rw [HR.out, if_pos (by omega)])
     have dp2 : decide (lo < -1000000000) = true := decide_eq_true p2
     clear p2
     go_wp2_with fail
     go_ret
     exact ⟨ret_int HF.out.symm, HB.out _⟩
   have dp2 : decide (lo < -1000000000) = false := decide_eq_false p2
   by_cases p3 : 1000000000 < hi'
   · have HF : Hid (R = 5) := hid (by rw [HR.out, if_pos (by omega)])
     have dp3 : decide (1000000000 < hi') = true := decide_eq_true p3
     clear p3
     go_wp2_with fail
     go_ret
     exact ⟨ret_int HF.out.symm, HB.out _⟩
   have dp3 : decide (1000000000 < hi') = false := decide_eq_false p3
   replace HR : Hid (R = if CH then 4 else 0) := hid (by rw [HR.out, if_neg (by omega)])
   clear p1 p2 p3
   have HF : Hid (R = 0) := hid (by rw [HR.out, H7.out (by decide)]; rfl)
   clear HP
   go_wp2_with fail
   go_ret
   exact ⟨ret_int HF.out.symm, HB.out _⟩
 have e6 : (k == 6) = false := by rw [beq_eq_false_iff_ne]; exact k6
 have e10 : (k == 10) = false := by rw [beq_eq_false_iff_ne]; exact k10
 by_cases h6 : 6 < d
 · have HF : Hid (R = 6) := hid (by rw [HR.out, if_pos (.inl h6)])
   clear HX HB
   go_enter Tryz.func106, Tryz.ntmps106
   go_wp2_with fail
   go_ret
   exact ⟨ret_int HF.out.symm, HBA.out _⟩
 have h6' : d ≤ 6 := by omega
 by_cases h64 : 64 ≤ n
 · have HF : Hid (R = 6) := hid (by rw [HR.out, if_pos (.inr h64)])
   have h64' : (64 : Int) ≤ (n : Int) := by omega
   clear HX HB h6
   go_enter Tryz.func106, Tryz.ntmps106
   go_wp2_with fail
   go_ret
   exact ⟨ret_int HF.out.symm, HBA.out _⟩
 have h64' : (n : Int) < 64 := by omega
 replace HR : Hid (R = if S then 1 else if LM then 6 else if NM = false then 3 else if hi' < lo ∨ lo < -1000000000 ∨ 1000000000 < hi' then 5 else if CH then 4 else 0) := hid (by rw [HR.out, if_neg (by omega)])
 have g1 : decide (6 < d) = false := decide_eq_false h6
 have g2 : decide ((64 : Int) ≤ (n : Int)) = false := decide_eq_false (by omega)
 clear h6 h64
 go_enter Tryz.func106, Tryz.ntmps106
 go_wp2_with fail
 generalize w.alloc (.cells #[.int .i64 k, .int .i64 lo, .int .i64 hi', .slice an nn cn, .slice ap np cp, .slice ar nr cr] 26) = W1 at HB HX ⊢
 obtain ⟨x0, hx⟩ := ext_self W1
 rw [hx]
 clear hx
 obtain ⟨l0, l1, l2, l3, l4, l5⟩ := bx6 fun x : Ext W1 => HX.out x
 replace HSH := hid (ext_of HB.out HSH.out)
 replace HNA := hid (ext_of HB.out HNA.out)
 go_wp2_with fail
 refine (HSH.out _).mono ?_
 rintro e _ ⟨rfl, x1, rfl⟩
 clear x0
 cases S
 case true =>
  have HF : Hid (R = 1) := hid (by rw [HR.out, if_pos rfl])
  go_wp2_with fail
  go_ret
  exact ⟨ret_int HF.out.symm, HB.out _⟩
 replace HR : Hid (R = if LM then 6 else if NM = false then 3 else if hi' < lo ∨ lo < -1000000000 ∨ 1000000000 < hi' then 5 else if CH then 4 else 0) := hid (by rw [HR.out, if_neg Bool.false_ne_true])
 by_cases hm : 32 < nn
 · have HF : Hid (R = 6) := hid (by rw [HR.out, if_pos (HLM.out.2 (by first | exact .inl hm | (left; unfold mostN; split <;> (try split) <;> omega)))])
   have hm' : decide ((32 : Int) < (nn : Int)) = true := decide_eq_true (by omega)
   go_wp2_with fail
   go_ret
   exact ⟨ret_int HF.out.symm, HB.out _⟩
 have hm' : decide ((32 : Int) < (nn : Int)) = false := decide_eq_false (by omega)
 by_cases hr : 32 < nr
 · have HF : Hid (R = 6) := hid (by rw [HR.out, if_pos (HLM.out.2 (.inr hr))])
   have hr' : decide ((32 : Int) < (nr : Int)) = true := decide_eq_true (by omega)
   go_wp2_with fail
   go_ret
   exact ⟨ret_int HF.out.symm, HB.out _⟩
 have hr' : decide ((32 : Int) < (nr : Int)) = false := decide_eq_false (by omega)
 replace HR : Hid (R = if NM = false then 3 else if hi' < lo ∨ lo < -1000000000 ∨ 1000000000 < hi' then 5 else if CH then 4 else 0) := hid (by rw [HR.out, if_neg (fun h => by have := HLM.out.1 h; unfold mostN at this; revert this; first | omega | (split <;> (try split) <;> omega))])
 clear HLM hm hr
 go_wp2_with fail
 refine (HNA.out _).mono ?_
 rintro e _ ⟨rfl, x2, rfl⟩
 clear x1
 cases NM
 case false =>
  have HF : Hid (R = 3) := hid (by rw [HR.out, if_pos rfl])
  go_wp2_with fail
  go_ret
  exact ⟨ret_int HF.out.symm, HB.out _⟩
 replace HR : Hid (R = if hi' < lo ∨ lo < -1000000000 ∨ 1000000000 < hi' then 5 else if CH then 4 else 0) := hid (by rw [HR.out, if_neg (fun h => Bool.noConfusion h)])
 by_cases p1 : hi' < lo
 · have HF : Hid (R = 5) := hid (by rw [HR.out, if_pos (by omega)])
   have dp1 : decide (hi' < lo) = true := decide_eq_true p1
   clear p1
   go_wp2_with fail
   go_ret
   exact ⟨ret_int HF.out.symm, HB.out _⟩
 have dp1 : decide (hi' < lo) = false := decide_eq_false p1
 by_cases p2 : lo < -1000000000
 · have HF : Hid (R = 5) := hid (by rw [HR.out, if_pos (by omega)])
   have dp2 : decide (lo < -1000000000) = true := decide_eq_true p2
   clear p2
   go_wp2_with fail
   go_ret
   exact ⟨ret_int HF.out.symm, HB.out _⟩
 have dp2 : decide (lo < -1000000000) = false := decide_eq_false p2
 by_cases p3 : 1000000000 < hi'
 · have HF : Hid (R = 5) := hid (by rw [HR.out, if_pos (by omega)])
   have dp3 : decide (1000000000 < hi') = true := decide_eq_true p3
   clear p3
   go_wp2_with fail
   go_ret
   exact ⟨ret_int HF.out.symm, HB.out _⟩
 have dp3 : decide (1000000000 < hi') = false := decide_eq_false p3
 replace HR : Hid (R = if CH then 4 else 0) := hid (by rw [HR.out, if_neg (by omega)])
 clear p1 p2 p3
 by_cases h7 : k = 7
 · obtain ⟨b, oo, p, q, n0, p0, r0, rfl, h2, hch, hpr, hpc⟩ := HP.out (by trivial) h7
   subst h7
   subst h2
   have HC := hid hpc
   have HR2 : Hid (R = if (!chainB p) then 4 else 0) := hid (by rw [HR.out, hch])
   have HCC : Hid (∀ x : Ext W1, Calls Tryz.prog 148 #[.agg #[.int .i64 p.kind, .int .i64 p.lo, .int .i64 p.hi, n0, p0, r0]] x.1 fun e w' => e = .returned (.bool (chainB p)) ∧ ∃ y : Ext W1, w' = y.1) := hid (ext_of HB.out fun W h => rChain_any _ p _ W (Nat.le_refl _) (latRd.below h _ _ hpr))
   have g0 : ∀ x : Ext W1, x.1.cell? ⟨b, oo, none⟩ = some (.int .i64 p.kind) := fun x => ((HC.out.below (HB.out x)) 0 (by simp))
   have g1 : ∀ x : Ext W1, x.1.cell? ⟨b, oo + 1, none⟩ = some (.int .i64 p.lo) := fun x => ((HC.out.below (HB.out x)) 1 (by simp))
   have g2 : ∀ x : Ext W1, x.1.cell? ⟨b, oo + 2, none⟩ = some (.int .i64 p.hi) := fun x => ((HC.out.below (HB.out x)) 2 (by simp))
   have g3 : ∀ x : Ext W1, x.1.cell? ⟨b, oo + 3, none⟩ = some (n0) := fun x => ((HC.out.below (HB.out x)) 3 (by simp))
   have g4 : ∀ x : Ext W1, x.1.cell? ⟨b, oo + 4, none⟩ = some (p0) := fun x => ((HC.out.below (HB.out x)) 4 (by simp))
   have g5 : ∀ x : Ext W1, x.1.cell? ⟨b, oo + 5, none⟩ = some (r0) := fun x => ((HC.out.below (HB.out x)) 5 (by simp))
   clear hpc hpr hch HP H7 HSH HNA e6 e10
   go_wp2_with fail
   refine (HCC.out _).mono ?_
   rintro e _ ⟨rfl, x3, rfl⟩
   cases hc : chainB p
   · have HF : Hid (R = 4) := hid (by rw [HR2.out, hc]; rfl)
     clear hc
     go_wp2_with fail
     go_ret
     exact ⟨ret_int HF.out.symm, HB.out _⟩
   · have HF : Hid (R = 0) := hid (by rw [HR2.out, hc]; rfl)
     clear hc
     go_wp2_with fail
     go_ret
     exact ⟨ret_int HF.out.symm, HB.out _⟩
 · have HF : Hid (R = 0) := hid (by rw [HR.out, H7.out h7]; rfl)
   have e7 : (k == 7) = false := by rw [beq_eq_false_iff_ne]; exact h7
   clear HP H7 h7
   go_wp2_with fail
   go_ret
   exact ⟨ret_int HF.out.symm, HB.out _⟩
def WalkPost (w : World) (x : Int × Nat) (e : Ending) (w' : World) : Prop := ∃ m : Nat, e = .returned (.tuple #[.int .i64 m, .int .i64 x.1]) ∧ (x.1 = 0 → m = x.2) ∧ Below w.heap.size w w'
theorem latElS {w : World} {a : Option Addr} {n cap : Nat} {l : List Lat} (h : SlRd w 6 (latRd w) (.slice a n cap) l) (i : Nat) (hi : i < l.length) :
 ∃ p b o n0 p0 r0, p ∈ l ∧ l.drop i = p :: l.drop (i + 1) ∧ a = some ⟨b, o, none⟩ ∧ latRd w p [.int .i64 p.kind, .int .i64 p.lo, .int .i64 p.hi, n0, p0, r0] ∧ CellsAt w b (o + i * 6) [.int .i64 p.kind, .int .i64 p.lo, .int .i64 p.hi, n0, p0, r0] := by
 obtain ⟨b, o, cs, h1, _, hc, hr⟩ := h.at i hi
 have hr' := hr
 obtain ⟨n0, p0, r0, rfl, _⟩ := (latRd_iff _ _ _).1 hr
 exact ⟨l[i], b, o, n0, p0, r0, List.getElem_mem hi, drop_consS l i hi, h1, hr', hc⟩
theorem rWalk_any (f : Nat) : ∀ (d : Int) (l : Lat) (cs : List Value) (n : Nat) (w : World), f ≤ 6 → d = 7 - f → n ≤ 64 → latRd w l cs →
 Calls Tryz.prog 60 #[.agg cs.toArray, .int .i64 d, .int .i64 n] w (WalkPost w (visitF f l n)) := by
 induction f with
 | zero =>
   intro d l cs n w _ hd hn hl
   have HV := hid (node_visit 0 l n d hd (by omega))
   have HNO : Hid (∀ W, Below w.heap.size w W → Calls Tryz.prog 106 #[.agg cs.toArray, .int .i64 d, .int .i64 n] W fun e w' => e = .returned (.int .i64 (nodeR l d n)) ∧ Below W.heap.size W w') := hid fun W h => rNode_any l cs d n W (latRd.below h _ _ hl) (by omega) hn
   obtain ⟨vn, vp, vr, rfl, hx⟩ := (latRd_iff _ _ _).1 hl
   clear hl hx
   generalize hE : nodeR l d n = E at HV HNO
   clear hE
   generalize visitF 0 l n = vv at HV ⊢
   have hne : E ≠ 0 ∧ vv.1 = E := by
    rcases HV.out with h | ⟨_, g, h, _⟩
    · exact h
    · omega
   have hE : (E != 0) = true := by rw [bne_iff_ne]; exact hne.1
   have HE := hid hne
   have HBA : Hid (∀ O, Below w.heap.size w (w.alloc O)) := hid fun O => (Below.refl _ _).alloc (Nat.le_refl _) O
   have hn64 : (n : Int) ≤ 64 := by omega
   clear hne hd
   go_enter Tryz.func60, Tryz.ntmps60
   go_wp2_with fail
   refine (HNO.out _ (HBA.out _)).mono ?_
   rintro e w1 ⟨rfl, hb⟩
   have HB1 := hid ((HBA.out _).trans (hb.mono (by simp)))
   clear hb
   go_wp2_with fail
   go_ret2
   exact ⟨n, by rw [HE.out.2]; rfl, fun h => absurd (HE.out.2.symm.trans h) HE.out.1, HB1.out⟩
 | succ f ih =>
   intro d l cs n w hf hd hn hl
   have IH := hid ih
   have HV := hid (node_visit (f + 1) l n d hd hf)
   have HLE := hid (fun p m h => visit_le f p m h)
   have HNO : Hid (∀ W, Below w.heap.size w W → Calls Tryz.prog 106 #[.agg cs.toArray, .int .i64 d, .int .i64 n] W fun e w' => e = .returned (.int .i64 (nodeR l d n)) ∧ Below W.heap.size W w') := hid fun W h => rNode_any l cs d n W (latRd.below h _ _ hl) (by omega) hn
   have hn1 : nodeR l d n = 0 → n < 64 := fun h => by
     unfold nodeR at h
     by_cases h6 : 6 < d ∨ 64 ≤ n
     · rw [if_pos h6] at h; exact absurd h (by decide)
     · omega
   have HN1 := hid hn1
   clear hn1
   obtain ⟨vn, vp, vr, rfl, hi, hns, hps, hrs⟩ := (latRd_iff _ _ _).1 hl
   obtain ⟨k, lo, hi', ns, ps, rs⟩ := l
   simp only [Lat.kind, Lat.lo, Lat.hi, Lat.names, Lat.parts, Lat.rules] at hi hns hps hrs HV HNO ⊢
   obtain ⟨ap, cp, rfl, hlp, hmp⟩ := hps.shape
   have HPS := hid hps
   clear hl hi hns hps hrs ih
   generalize hE : nodeR (.mk k lo hi' ns ps rs) d n = E at HV HNO HN1
   clear hE
   generalize visitF (f + 1) (.mk k lo hi' ns ps rs) n = vv at HV ⊢
   have HB : Hid (∀ x : Ext (w.alloc (.cells #[.int .i64 k, .int .i64 lo, .int .i64 hi', vn, .slice ap ps.length cp, vr] 26)), Below w.heap.size w x.1) := hid fun x => ((Below.refl _ _).alloc (Nat.le_refl _) _).trans (x.2.mono (by simp))
   have HX : Hid (∀ (x : Ext (w.alloc (.cells #[.int .i64 k, .int .i64 lo, .int .i64 hi', vn, .slice ap ps.length cp, vr] 26))) (i : Nat) q, #[Value.int .i64 k, .int .i64 lo, .int .i64 hi', vn, .slice ap ps.length cp, vr][i]? = some q → x.1.cell? ⟨w.heap.size, i, none⟩ = some q) := hid fun x i q hq => x.cell (by rw [World.cell?_alloc_at _ _ _ _ rfl]; exact hq)
   have hn64 : (n : Int) ≤ 64 := by omega
   have hd1 : 1 ≤ d ∧ d ≤ 6 := by omega
   obtain ⟨hd1, hd6⟩ := hd1
   have HD := hid hd
   have HF := hid hf
   clear hd hf
   go_enter Tryz.func60, Tryz.ntmps60
   go_wp2_with fail
   generalize w.alloc (.cells #[.int .i64 k, .int .i64 lo, .int .i64 hi', vn, .slice ap ps.length cp, vr] 26) = W1 at HB HX ⊢
   obtain ⟨x0, hx⟩ := ext_self W1
   rw [hx]
   clear hx
   obtain ⟨l0, l1, l2, l3, l4, l5⟩ := bx6 fun x : Ext W1 => HX.out x
   replace HNO := hid (ext_of HB.out HNO.out)
   go_wp2_with fail
   refine (HNO.out _).mono ?_
   rintro e _ ⟨rfl, x1, rfl⟩
   clear x0
   by_cases h0 : E = 0
   · have HN := hid (HN1.out h0)
     subst h0
     have HG : Hid (vv = goL (visitF f) (ps.drop 0) (n + 1)) := hid (by
      rcases HV.out with ⟨h, _⟩ | ⟨_, g, hg, hv⟩
      · exact absurd rfl h
      · obtain rfl : f = g := by omega
        exact hv)
     clear HV HNO l0 l1 l2 l3 l5
     have hn63 : (n : Int) < 64 := by have := HN.out; omega
     go_wp2_with fail
     go_loopw [9, 10, 11, 12] (fun c i _ _ wr => ∃ (j m : Nat) (x : Ext W1), j ≤ ps.length ∧ m ≤ 64 ∧ i = .int .i64 j ∧ c = .int .i64 m ∧ wr = x.1 ∧ Hid (vv = goL (visitF f) (ps.drop j) m)) (fun _ i _ _ _ => ps.length - (intOf i).toNat)
     case atStart => exact ⟨0, n + 1, x1, Nat.zero_le _, HN.out, rfl, rfl, rfl, HG⟩
     case round =>
      obtain ⟨j, m, x, hj, hm, rfl, rfl, rfl, He⟩ := hrel
      by_cases hlt : j < ps.length
      · obtain ⟨p, b, o, n0, p0, r0, _, hpd, rfl, hpr, hpc⟩ := latElS HPS.out j hlt
        have HPR := hid hpr
        have HC := hid hpc
        have HS : Hid (vv = if (visitF f p m).1 ≠ 0 then visitF f p m else goL (visitF f) (ps.drop (j + 1)) (visitF f p m).2) := hid (by rw [He.out, hpd, goL])
        have g0 : ∀ x : Ext W1, x.1.cell? ⟨b, o + j * 6, none⟩ = some (.int .i64 p.kind) := fun x => ((HC.out.below (HB.out x)) 0 (by simp))
        have g1 : ∀ x : Ext W1, x.1.cell? ⟨b, o + j * 6 + 1, none⟩ = some (.int .i64 p.lo) := fun x => ((HC.out.below (HB.out x)) 1 (by simp))
        have g2 : ∀ x : Ext W1, x.1.cell? ⟨b, o + j * 6 + 2, none⟩ = some (.int .i64 p.hi) := fun x => ((HC.out.below (HB.out x)) 2 (by simp))
        have g3 : ∀ x : Ext W1, x.1.cell? ⟨b, o + j * 6 + 3, none⟩ = some n0 := fun x => ((HC.out.below (HB.out x)) 3 (by simp))
        have g4 : ∀ x : Ext W1, x.1.cell? ⟨b, o + j * 6 + 4, none⟩ = some p0 := fun x => ((HC.out.below (HB.out x)) 4 (by simp))
        have g5 : ∀ x : Ext W1, x.1.cell? ⟨b, o + j * 6 + 5, none⟩ = some r0 := fun x => ((HC.out.below (HB.out x)) 5 (by simp))
        have HJ : Hid (j + 1 ≤ ps.length) := hid hlt
        have hi1 : (j : Int) < (ps.length : Int) := by omega
        have HL64 := hid (HLE.out p m hm)
        have HCALL : Hid (∀ y : Ext W1, Calls Tryz.prog 60 #[.agg #[.int .i64 p.kind, .int .i64 p.lo, .int .i64 p.hi, n0, p0, r0], .int .i64 (d + 1), .int .i64 m] y.1 (WalkPost y.1 (visitF f p m))) := hid fun y => IH.out (d + 1) p _ m y.1 (by have := HF.out; omega) (by have := HD.out; omega) hm (latRd.below (HB.out y) _ _ HPR.out)
        clear He hpr hpc hpd
        generalize visitF f p m = q at HS HCALL HL64
        obtain ⟨qe, qm⟩ := q
        simp only at HS HL64
        go_wp2_with fail
        refine (HCALL.out _).mono ?_
        rintro e w2 ⟨m', rfl, hm', hb⟩
        have HM := hid hm'
        simp only at HM
        obtain ⟨x2, hx2⟩ : ∃ y : Ext W1, w2 = y.1 := ⟨⟨w2, x.2.trans (hb.mono x.2.size)⟩, rfl⟩
        subst hx2
        clear hb hm'
        by_cases hq : qe = 0
        · have HM2 : Hid (m' = qm) := hid (HM.out hq)
          subst hq
          have HS2 : Hid (vv = goL (visitF f) (ps.drop (j + 1)) qm) := hid (by rw [HS.out, if_neg (fun h => h rfl)])
          clear HS HM
          go_wp2_with fail
          go_roundw
          case rel => exact ⟨j + 1, m', x2, HJ.out, by rw [HM2.out]; exact HL64.out, by go_num, rfl, rfl, hid (by rw [HM2.out]; exact HS2.out)⟩
          case measure => have := HJ.out; simp [intOf]; omega
        · have HQ := hid hq
          have HS2 : Hid (vv = (qe, qm)) := hid (by rw [HS.out, if_pos hq])
          have hqe : (qe != 0) = true := by rw [bne_iff_ne]; exact hq
          clear HS HM hq
          go_wp2_with fail
          go_ret2
          rw [HS2.out]
          exact ⟨m, rfl, fun h => absurd h HQ.out, HB.out _⟩
      · have hjj : j = ps.length := by omega
        subst hjj
        have HF : Hid (vv = (0, m)) := hid (by rw [He.out, List.drop_eq_nil_of_le (Nat.le_refl _)]; rfl)
        clear hlt hj
        go_wp2_with fail
        go_ret2
        rw [HF.out]
        exact ⟨m, rfl, fun _ => rfl, HB.out _⟩
   · have hE : (E != 0) = true := by rw [bne_iff_ne]; exact h0
     have HE : Hid (E ≠ 0 ∧ vv.1 = E) := hid (by
      rcases HV.out with h | ⟨h, _⟩
      · exact h
      · exact absurd h h0)
     clear HV h0
     go_wp2_with fail
     go_ret2
     exact ⟨n, by rw [HE.out.2]; rfl, fun h => absurd (HE.out.2.symm.trans h) HE.out.1, HB.out _⟩
theorem rCheck_any (l : Lat) (cs : List Value) (w : World) (hl : latRd w l cs) :
 Calls Tryz.prog 31 #[.agg cs.toArray] w fun e w' => e = .returned (.int .i64 (chkE l)) ∧ Below w.heap.size w w' := by
 have HW : Hid (∀ W, Below w.heap.size w W → Calls Tryz.prog 60 #[.agg cs.toArray, .int .i64 1, .int .i64 0] W (WalkPost W (visitF 6 l 0))) := hid fun W h => rWalk_any 6 1 l cs 0 W (Nat.le_refl _) (by omega) (by omega) (latRd.below h _ _ hl)
 have HBA : Hid (∀ O, Below w.heap.size w (w.alloc O)) := hid fun O => (Below.refl _ _).alloc (Nat.le_refl _) O
 have HC : Hid ((visitF 6 l 0).1 = chkE l) := hid rfl
 obtain ⟨vn, vp, vr, rfl, hx⟩ := (latRd_iff _ _ _).1 hl
 clear hl hx
 generalize visitF 6 l 0 = q at HW HC
 generalize chkE l = E at HC ⊢
 obtain ⟨qe, qm⟩ := q
 simp only at HC
 go_enter Tryz.func31, Tryz.ntmps31
 go_wp2_with fail
 refine (HW.out _ (HBA.out _)).mono ?_
 rintro e w1 ⟨m, rfl, _, hb⟩
 have HB1 := hid ((HBA.out _).trans (hb.mono (by simp)))
 clear hb
 go_wp2_with fail
 go_ret
 exact ⟨ret_int HC.out, HB1.out⟩
theorem WfL.rules {l : Lat} (h : WfL l) : RulesOk l.rules := by
 have h1 := h.spell
 have h2 := h.kinds.2.2.2.2.2.2.2.1
 unfold spellB at h1
 rw [Bool.not_eq_false', Bool.and_eq_true] at h1
 intro r hr
 have h3 := List.all_eq_true.1 h1.2 r hr
 unfold ruleB at h3
 simp only [Bool.and_eq_true] at h3
 have hs := sorted_ris h3.1.1.2
 refine ⟨hs, ?_⟩
 have hsub : r.cond ⊆ l.names := fun x hx => (hasS_iff _ _).1 (List.all_eq_true.1 h3.1.2 x hx)
 have := List.Nodup.length_le_of_subset hs.nodup hsub
 omega
theorem usedB_iff (v : Val) (n list parts entries : Bool) : usedB v n list parts entries = true ↔ ((n = true ∨ v.n = 0) ∧ (list = true ∨ v.names.length = 0) ∧ (parts = true ∨ v.parts.length = 0) ∧ (entries = true ∨ v.entries.length = 0)) := by
 unfold usedB
 simp only [Bool.and_eq_true, Bool.or_eq_true, decide_eq_true_eq, and_assoc]
theorem elem_iff_1 {l : Lat} {v : Val} (h : l.kind = 1) : elemB l v = true ↔ v.entries.length = 0 ∧ (v.n = 0 ∨ v.n = 1) ∧ v.names.length = 0 ∧ v.parts.length = 0 := by
 rw [elemB_eq, if_pos h, Bool.and_eq_true, usedB_iff, decide_eq_true_eq]
 grind
theorem elem_iff_23 {l : Lat} {v : Val} (h : l.kind = 2 ∨ l.kind = 3) : elemB l v = true ↔ v.entries.length = 0 ∧ (l.lo ≤ v.n ∧ v.n ≤ l.hi) ∧ v.names.length = 0 ∧ v.parts.length = 0 := by
 rw [elemB_eq, if_neg (by omega), if_pos h, Bool.and_eq_true, usedB_iff, decide_eq_true_eq]
 grind
theorem elem_iff_4 {l : Lat} {v : Val} (h : l.kind = 4) : elemB l v = true ↔ v.entries.length = 0 ∧ v.n = 0 ∧ v.parts.length = 0 ∧ allowedB l.names v.names = true := by
 rw [elemB_eq, if_neg (by omega), if_neg (by omega), if_pos h, Bool.and_eq_true, usedB_iff]
 grind
theorem elem_iff_10 {l : Lat} {v : Val} (h : l.kind = 10) : elemB l v = true ↔ v.entries.length = 0 ∧ v.n = 0 ∧ v.parts.length = 0 ∧ allowedB l.names v.names = true ∧ closedB l.rules v.names = true := by
 rw [elemB_eq, if_neg (by omega), if_neg (by omega), if_neg (by omega), if_pos h, Bool.and_eq_true, Bool.and_eq_true, usedB_iff]
 grind
theorem elem_iff_8 {l : Lat} {v : Val} (h : l.kind = 8) : elemB l v = true ↔ v.entries.length = 0 ∧ v.parts.length = 0 ∧ ((v.n = 0 ∨ v.n = 2) ∧ v.names.length = 0 ∨ v.n = 1 ∧ v.names.length = 1 ∧ allowedB l.names v.names = true) := by
 rw [elemB_eq, if_neg (by omega), if_neg (by omega), if_neg (by omega), if_neg (by omega), if_pos h]
 by_cases h1 : v.n = 0 ∨ v.n = 2
 · rw [if_pos h1, usedB_iff]
   grind
 · rw [if_neg h1]
   by_cases h2 : v.n = 1
   · rw [if_pos h2, Bool.and_eq_true, Bool.and_eq_true, usedB_iff, decide_eq_true_eq]
     grind
   · rw [if_neg h2]
     grind
theorem elem_iff_9 {l : Lat} {v : Val} (h : l.kind = 9) : elemB l v = true ↔ v.n = 0 ∧ v.names.length = 0 ∧ v.parts.length = 0 ∧ regB v.entries = true := by
 rw [elemB_eq, if_neg (by omega), if_neg (by omega), if_neg (by omega), if_neg (by omega), if_neg (by omega), if_pos h, Bool.and_eq_true, usedB_iff]
 grind
theorem elem_iff_5 {l : Lat} {v : Val} {p : Lat} (h : l.kind = 5) (hp : l.parts = [p]) : elemB l v = (decide (v.entries.length = 0) && (decide (v.n = 0) && (decide (v.names.length = v.parts.length) && (allowedB l.names v.names && v.parts.all fun v => elemB p v && decide (valC v (botV p) ≠ 0))))) := by
  rw [elemB_eq, if_neg (by omega), if_neg (by omega), if_neg (by omega), if_neg (by omega), if_neg (by omega), if_neg (by omega), if_pos h, hp, mapB, Bool.eq_iff_iff]
  simp only [Bool.and_eq_true, usedB_iff, decide_eq_true_eq]
  grind
theorem elem_iff_67 {l : Lat} {v : Val} (h : l.kind = 6 ∨ l.kind = 7) : elemB l v = (decide (v.entries.length = 0) && (decide (v.n = 0) && (decide (v.names.length = 0) && (decide (v.parts.length = l.parts.length) && elemsB l.parts v.parts)))) := by
 rw [elemB_eq, if_neg (by omega), if_neg (by omega), if_neg (by omega), if_neg (by omega), if_neg (by omega), if_neg (by omega), if_neg (by omega), Bool.eq_iff_iff]
 simp only [Bool.and_eq_true, usedB_iff, decide_eq_true_eq]
 grind
theorem rElement_any (f : Nat) : ∀ (l : Lat) (v : Val) (cl cv : List Value) (w : World), SizeOf.sizeOf l ≤ f → latRd w l cl → valRd w v cv → WfL l →
 Calls Tryz.prog 38 #[.agg cl.toArray, .agg cv.toArray] w fun e w' => e = .returned (.bool (elemB l v)) ∧ Below w.heap.size w w' := by
 induction f with
 | zero => intro l v cl cv w hn; cases l; simp at hn
 | succ f ih =>
   intro l v cl cv w hn hl hv hwf
   obtain ⟨vn, vp, vr, rfl, hi, hns, hps, hrs⟩ := (latRd_iff _ _ _).1 hl
   obtain ⟨un, up, ue, rfl, gi, gn, gp, ge⟩ := (valRd_iff _ _ _).1 hv
   have hkind := hwf.kinds
   have hrules := hwf.rules
   have hpart : ∀ p ∈ l.parts, WfL p ∧ SizeOf.sizeOf p ≤ f := fun p hp => ⟨hwf.part hp, by have := sizeOf_part (l := l) (p := p) hp; omega⟩
   obtain ⟨k, lo, hi', ns, ps, rs⟩ := l
   obtain ⟨n, vns, vps, ves⟩ := v
   simp only [Lat.kind, Lat.lo, Lat.hi, Lat.names, Lat.parts, Lat.rules, Val.n, Val.names, Val.parts, Val.entries] at *
   obtain ⟨ap, cp, rfl, _, _⟩ := hps.shape
   obtain ⟨bn, bcn, rfl, _, _⟩ := gn.shape
   obtain ⟨bp, bcp, rfl, _, _⟩ := gp.shape
   obtain ⟨be, bce, rfl, _, _⟩ := ge.shape
   have HM : Hid (∀ W, Below w.heap.size w W → Calls Tryz.prog 68 #[vn, .slice bn vns.length bcn] W fun e w' => e = .returned (.bool (allowedB ns vns)) ∧ Below W.heap.size W w') := hid fun W h => rMembers_any _ _ _ _ W (hns.below h) (gn.below h)
   have HEN : Hid (∀ W, Below w.heap.size w W → Calls Tryz.prog 69 #[.slice be ves.length bce] W fun e w' => e = .returned (.bool (regB ves)) ∧ Below W.heap.size W w') := hid fun W h => by
     rw [← rents_reg]
     exact rEnts_any _ _ W (SlRd.below ge h fun _ _ _ k => k.below h)
   have HCL : Hid (∀ W, Below w.heap.size w W → Calls Tryz.prog 70 #[vr, .slice bn vns.length bcn] W fun e w' => e = .returned (.bool (closedB rs vns)) ∧ Below W.heap.size W w') := hid fun W h => rClosed_any _ _ _ _ W (SlRd.below hrs h fun _ _ _ k => k.below h) (gn.below h) hrules
   have HIH : Hid (∀ (p : Lat) (q : Val) (cl cq : List Value) (W : World), p ∈ ps → Below w.heap.size w W → latRd W p cl → valRd W q cq → Calls Tryz.prog 38 #[.agg cl.toArray, .agg cq.toArray] W fun e w' => e = .returned (.bool (elemB p q)) ∧ Below W.heap.size W w') := hid fun p q c1 c2 W hp _ h1 h2 => ih p q c1 c2 W (hpart p hp).2 h1 h2 (hpart p hp).1
   have hk : k = 1 ∨ k = 2 ∨ k = 3 ∨ k = 4 ∨ k = 5 ∨ k = 6 ∨ k = 7 ∨ k = 8 ∨ k = 9 ∨ k = 10 := by omega
   have hm5 : k = 5 → ps.length = 1 := hkind.2.1
   clear hkind ih hn hwf
   rcases hk with rfl | rfl | rfl | rfl | rfl | rfl | rfl | rfl | rfl | rfl
   · exact relem_1 lo hi' vn _ vr n vns.length vps.length ves.length bn bp be bcn bcp bce w _ (hid (elem_iff_1 rfl))
   · exact relem_23 2 (.inl rfl) lo hi' vn _ vr n vns.length vps.length ves.length bn bp be bcn bcp bce w _ (hid (elem_iff_23 (.inl rfl)))
   · exact relem_23 3 (.inr rfl) lo hi' vn _ vr n vns.length vps.length ves.length bn bp be bcn bcp bce w _ (hid (elem_iff_23 (.inr rfl)))
   · exact relem_4 lo hi' vn _ vr n vns.length vps.length ves.length bn bp be bcn bcp bce w _ (allowedB ns vns) HM (hid (elem_iff_4 rfl))
   · obtain ⟨p, rfl⟩ : ∃ p, ps = [p] := by
      match ps, hm5 rfl with
      | [p], _ => exact ⟨p, rfl⟩
     exact relem_5 lo hi' vn vr n vns.length ves.length bn bp be bcn bcp bce w _ vps ap cp [p] (hid gp) (hid hps) p rfl (allowedB ns vns) HM (hid fun q c1 c2 W h h1 h2 => HIH.out p q c1 c2 W (by simp) h h1 h2) (hid fun c1 W h h1 => least_any _ p c1 W (Nat.le_refl _) h1 (hpart p (by simp)).1) (hid (elem_iff_5 rfl rfl))
   · exact relem_67 6 (.inl rfl) lo hi' vn vr n vns.length ves.length bn bp be bcn bcp bce w _ vps ap cp ps (hid gp) (hid hps) HIH (hid (elem_iff_67 (.inl rfl)))
   · exact relem_67 7 (.inr rfl) lo hi' vn vr n vns.length ves.length bn bp be bcn bcp bce w _ vps ap cp ps (hid gp) (hid hps) HIH (hid (elem_iff_67 (.inr rfl)))
   · exact relem_8 lo hi' vn _ vr n vns.length vps.length ves.length bn bp be bcn bcp bce w _ (allowedB ns vns) HM (hid (elem_iff_8 rfl))
   · exact relem_9 lo hi' vn _ vr n vns.length vps.length ves.length bn bp be bcn bcp bce w _ (regB ves) HEN (hid (elem_iff_9 rfl))
   · exact relem_10 lo hi' vn _ vr n vns.length vps.length ves.length bn bp be bcn bcp bce w _ (allowedB ns vns) HM (closedB rs vns) HCL (hid (elem_iff_10 rfl))
theorem show_7 (l : Lat) (v : Val) (hk : l.kind = 7) (hwf : WfL l) (hel : elemB l v = true) (ih : ∀ p ∈ l.parts, ∀ v, elemB p v = true → RShowOk p v) : RShowOk l v := by
 intro cl cv w hl hv ht hsz
 obtain ⟨aln, cln, alp, clp, alr, clr, rfl, hli, hln, hlp, hlr, ⟨_, mln⟩, ⟨_, mlp⟩, _, mlr⟩ := latRd.lay hl
 obtain ⟨bvn, dvn, bvp, dvp, bve, dve, rfl, gvi, gvn, gvp, gve, ⟨_, nvn⟩, ⟨_, nvp⟩, _, nve⟩ := valRd.lay hv
 have HKD := hid hwf.kinds
 obtain ⟨k, lo, hi, ns, ps, rs⟩ := l
 obtain ⟨vn, vns, vps, ves⟩ := v
 simp only [Lat.kind, Lat.lo, Lat.hi, Lat.names, Lat.parts, Lat.rules, Val.n, Val.names, Val.parts, Val.entries] at *
 have HTB := hid ht
 have HSZ := hid hsz
 have HI := hid gvi
 have HVN := hid gvn
 have HVP := hid gvp
 have HVE := hid gve
 have HLN := hid hln
 have HLP := hid hlp
 subst hk
 have hF := (isE_67 (by omega)).1 hel
 simp only [Val.n, Val.names, Val.parts, Val.entries] at hF
 have hp2 : ps.length = 2 := HKD.out.2.2.1 rfl
 have hv2 : vps.length = 2 := by omega
 obtain ⟨p0, p1, rfl⟩ := list_two hp2
 obtain ⟨x0, x1, rfl⟩ := list_two hv2
 have HT : Hid (textV (.mk 7 lo hi ns [p0, p1] rs) (.mk vn vns [x0, x1] ves) = 60 :: ((textV p0 x0 ++ (44 :: 32 :: textV p1 x1)) ++ [62])) := hid (by rw [textV]; simp only [textParts, Val.parts]; rw [Lib.join_cons]; simp [Lib.joinTail])
 generalize textV (.mk 7 lo hi ns [p0, p1] rs) (.mk vn vns [x0, x1] ves) = R at HT HSZ ⊢
 have hes := hF.2.2
 rw [elemsB, elemsB, elemsB, Bool.and_true, Bool.and_eq_true] at hes
 have HT0 := hid (ih p0 (by simp) x0 hes.1)
 have HT1 := hid (ih p1 (by simp) x1 hes.2)
 have HSS : Hid ((textV p0 x0).length + (textV p1 x1).length + 4 ≤ 900000) := hid (by
  have := HSZ.out
  rw [HT.out] at this
  simp only [List.length_cons, List.length_append, List.length_nil] at this
  omega)
 obtain ⟨p0', lb, lo2, san, scn, sap, scp, sar, scr, h1, _, _, _, rfl, hyr0, hyc0⟩ := latEl HLP.out 0 (by simp)
 obtain ⟨p1', lb', lo2', tan, tcn, tap, tcp, tar, tcr, h2, _, _, _, e2, hyr1, hyc1⟩ := latEl HLP.out 1 (by simp)
 obtain ⟨x0', vb, vo2, sbn, sdn, sbp, sdp, sbe, sde, h3, _, _, _, rfl, hxr0, hxc0⟩ := valEl HVP.out 0 (by simp)
 obtain ⟨x1', vb', vo2', tbn, tdn, tbp, tdp, tbe, tde, h4, _, _, _, e4, hxr1, hxc1⟩ := valEl HVP.out 1 (by simp)
 cases e2
 cases e4
 have h1 : p0 = p0' := by simpa using h1
 have h2 : p1 = p1' := by simpa using h2
 have h3 : x0 = x0' := by simpa using h3
 have h4 : x1 = x1' := by simpa using h4
 subst h1 h2 h3 h4
 simp only [Nat.zero_mul, Nat.one_mul, Nat.add_zero] at hyc0 hyc1 hxc0 hxc1
 have HYR0 := hid hyr0
 have HYR1 := hid hyr1
 have HXR0 := hid hxr0
 have HXR1 := hid hxr1
 have HYC0 := hid hyc0
 have HYC1 := hid hyc1
 have HXC0 := hid hxc0
 have HXC1 := hid hxc1
 clear hes hF hp2 hv2 ih hyr0 hyr1 hxr0 hxr1 hyc0 hyc1 hxc0 hxc1
 simp only [List.length_cons, List.length_nil, Nat.zero_add, Nat.reduceAdd] at *
 have HC0 : Hid (∀ u, Below w.heap.size w u → Calls Tryz.prog 59 #[.agg #[.int .i64 p0.kind, .int .i64 p0.lo, .int .i64 p0.hi, .slice san p0.names.length scn, .slice sap p0.parts.length scp, .slice sar p0.rules.length scr], .agg #[.int .i64 x0.n, .slice sbn x0.names.length sdn, .slice sbp x0.parts.length sdp, .slice sbe x0.entries.length sde]] u fun e w' => e = .returned (.string (strOf (textV p0 x0))) ∧ Below u.heap.size u w') := hid fun u hu => HT0.out [.int .i64 p0.kind, .int .i64 p0.lo, .int .i64 p0.hi, .slice san p0.names.length scn, .slice sap p0.parts.length scp, .slice sar p0.rules.length scr] [.int .i64 x0.n, .slice sbn x0.names.length sdn, .slice sbp x0.parts.length sdp, .slice sbe x0.entries.length sde] u (latRd.below hu _ _ HYR0.out) (valRd.below hu _ _ HXR0.out) (HTB.out.below hu) (by have := HSS.out; omega)
 have HC1 : Hid (∀ u, Below w.heap.size w u → Calls Tryz.prog 59 #[.agg #[.int .i64 p1.kind, .int .i64 p1.lo, .int .i64 p1.hi, .slice tan p1.names.length tcn, .slice tap p1.parts.length tcp, .slice tar p1.rules.length tcr], .agg #[.int .i64 x1.n, .slice tbn x1.names.length tdn, .slice tbp x1.parts.length tdp, .slice tbe x1.entries.length tde]] u fun e w' => e = .returned (.string (strOf (textV p1 x1))) ∧ Below u.heap.size u w') := hid fun u hu => HT1.out [.int .i64 p1.kind, .int .i64 p1.lo, .int .i64 p1.hi, .slice tan p1.names.length tcn, .slice tap p1.parts.length tcp, .slice tar p1.rules.length tcr] [.int .i64 x1.n, .slice tbn x1.names.length tdn, .slice tbp x1.parts.length tdp, .slice tbe x1.entries.length tde] u (latRd.below hu _ _ HYR1.out) (valRd.below hu _ _ HXR1.out) (HTB.out.below hu) (by have := HSS.out; omega)
 have HSE : Hid ((((⟨#[60]⟩ ++ strOf (textV p0 x0)) ++ ⟨#[44, 32]⟩) ++ strOf (textV p1 x1)) ++ ⟨#[62]⟩ = strOf R) := hid (by
  have e1 : (⟨#[60]⟩ : ByteArray) = strOf [60] := rfl
  have e2 : (⟨#[44, 32]⟩ : ByteArray) = strOf [44, 32] := rfl
  have e3 : (⟨#[62]⟩ : ByteArray) = strOf [62] := rfl
  rw [e1, e2, e3, strOf_append, strOf_append, strOf_append, strOf_append, HT.out]
  congr 1
  simp)
 have HSL : Hid ((strOf (textV p0 x0)).size + (strOf (textV p1 x1)).size + 4 ≤ 900000) := HSS
 generalize strOf (textV p0 x0) = T0 at HC0 HSE HSL
 generalize strOf (textV p1 x1) = T1 at HC1 HSE HSL
 have hz1 : ¬ (9223372036854775807 < 1 + T0.size) := by have := HSL.out; omega
 have hz2 : ¬ (9223372036854775807 < 1 + T0.size + 2) := by have := HSL.out; omega
 have hz3 : ¬ (9223372036854775807 < 1 + T0.size + 2 + T1.size) := by have := HSL.out; omega
 have hz4 : ¬ (9223372036854775807 < 1 + T0.size + 2 + T1.size + 1) := by have := HSL.out; omega
 obtain ⟨W2, hW, HB, HBl, HBv⟩ := two_box w #[.int .i64 7, .int .i64 lo, .int .i64 hi, .slice aln ns.length cln, .slice (some ⟨lb, lo2, none⟩) 2 clp, .slice alr rs.length clr] #[.int .i64 vn, .slice bvn vns.length dvn, .slice (some ⟨vb, vo2, none⟩) 2 dvp, .slice bve ves.length dve] 26 30
 clear hl hv ht hsz hel hwf hli hln hlp hlr gvn gvp gve gvi
 replace HC0 := hid (ext_of HB.out HC0.out)
 replace HC1 := hid (ext_of HB.out HC1.out)
 obtain ⟨y0, y1, y2, y3, y4, y5⟩ := cx6 fun y : Ext W2 => HYC0.out.below (HB.out y)
 obtain ⟨z0, z1, z2, z3, z4, z5⟩ := cx6 fun y : Ext W2 => HYC1.out.below (HB.out y)
 obtain ⟨q0, q1, q2, q3⟩ := cx4 fun y : Ext W2 => HXC0.out.below (HB.out y)
 obtain ⟨r0, r1, r2, r3⟩ := cx4 fun y : Ext W2 => HXC1.out.below (HB.out y)
 go_enter Tryz.func59, Tryz.ntmps59
 go_upto_region 1 with fail
 rw [hW.out]
 clear hW
 obtain ⟨xx, hx⟩ := ext_self W2
 rw [hx]
 clear hx
 obtain ⟨l0, l1, l2, l3, l4, l5⟩ := bx6 fun x : Ext W2 => HBl.out.ext x
 obtain ⟨v0, v1, v2, v3⟩ := bx4 fun x : Ext W2 => HBv.out.ext x
 go_wp2_with fail
 refine wp_region_ext2 _ (by kernel_rfl) (by kernel_rfl) ?_
 repeat (go_big_quiet_step (with_reducible first | exact HC0.out _ | exact HC1.out _))
 refine wpQuiet_nil ?_
 rintro _ ⟨y, rfl⟩
 go_wp2_with fail
 go_ret
 exact ⟨ret_str HSE.out, HB.out _⟩
theorem show_any (f : Nat) : ∀ (l : Lat) (v : Val), SizeOf.sizeOf l ≤ f → WfL l → elemB l v = true → RShowOk l v := by
 induction f with
 | zero => intro l v hn; cases l; simp at hn
 | succ f ih =>
  intro l v hn hwf hel
  have IH : ∀ p ∈ l.parts, ∀ v, elemB p v = true → RShowOk p v := fun p hp v he => ih p v (by have := sizeOf_lpart hp; omega) (hwf.part hp) he
  rcases (by have := hwf.kinds.1; omega : l.kind = 1 ∨ (l.kind = 2 ∨ l.kind = 3) ∨ (l.kind = 4 ∨ l.kind = 10) ∨ l.kind = 5 ∨ l.kind = 6 ∨ l.kind = 7 ∨ l.kind = 8 ∨ l.kind = 9) with e | e | e | e | e | e | e | e
  · exact show_1 l v e hwf hel
  · exact show_23 l v e hwf hel
  · exact show_410 l v e hwf hel
  · exact show_5 l v e hwf hel IH
  · exact show_6 l v e hwf hel IH
  · exact show_7 l v e hwf hel IH
  · exact show_8 l v e hwf hel
  · exact show_9 l v e hwf hel
theorem rTextE_any (l : Lat) (v : Val) (cl cv : List Value) (w : World) (hl : latRd w l cl) (hv : valRd w v cv) (ht : Tab w) (hsz : chkE l = 0 → elemB l v = true → (textV l v).length ≤ 900000) :
 Calls Tryz.prog 30 #[.agg cl.toArray, .agg cv.toArray] w (StrEPost w (textE' l v)) := by
 have HC : Hid (∀ W, Below w.heap.size w W → Calls Tryz.prog 31 #[.agg cl.toArray] W fun e w' => e = .returned (.int .i64 (chkE l)) ∧ Below W.heap.size W w') := hid fun W h => rCheck_any l cl W (latRd.below h _ _ hl)
 have HEL : Hid (chkE l = 0 → ∀ W, Below w.heap.size w W → Calls Tryz.prog 38 #[.agg cl.toArray, .agg cv.toArray] W fun e w' => e = .returned (.bool (elemB l v)) ∧ Below W.heap.size W w') := hid fun h0 W h => rElement_any _ l v cl cv W (Nat.le_refl _) (latRd.below h _ _ hl) (valRd.below h _ _ hv) (chkE_wf h0)
 have HTX : Hid (chkE l = 0 → elemB l v = true → ∀ W, Below w.heap.size w W → Calls Tryz.prog 59 #[.agg cl.toArray, .agg cv.toArray] W fun e w' => e = .returned (.string (strOf (textV l v))) ∧ Below W.heap.size W w') :=
   hid fun h0 h1 W h => show_any _ l v (Nat.le_refl _) (chkE_wf h0) h1 cl cv W (latRd.below h _ _ hl) (valRd.below h _ _ hv) (ht.below h) (hsz h0 h1)
 have HE : Hid (textE' l v = if chkE l ≠ 0 then ([], 1) else if elemB l v = false then ([], 4) else (textV l v, 0)) := hid rfl
 generalize textE' l v = R at HE ⊢
 generalize elemB l v = F at HEL HTX HE
 generalize chkE l = E at HC HEL HTX HE
 generalize textV l v = PB at HTX HE
 obtain ⟨aln, cln, alp, clp, alr, clr, rfl, hli, hln, hlp, hlr, ⟨_, mln⟩, ⟨_, mlp⟩, _, mlr⟩ := latRd.lay hl
 obtain ⟨bvn, dvn, bvp, dvp, bve, dve, rfl, gvi, gvn, gvp, gve, ⟨_, nvn⟩, ⟨_, nvp⟩, _, nve⟩ := valRd.lay hv
 clear hl hli hln hlp hlr hv gvi gvn gvp gve hsz ht
 have HB : Hid (∀ x : Ext ((w.alloc (.cells #[.int .i64 l.kind, .int .i64 l.lo, .int .i64 l.hi, .slice aln l.names.length cln, .slice alp l.parts.length clp, .slice alr l.rules.length clr] 26)).alloc (.cells #[.int .i64 v.n, .slice bvn v.names.length dvn, .slice bvp v.parts.length dvp, .slice bve v.entries.length dve] 30)), Below w.heap.size w x.1) := hid fun x => (((Below.refl _ _).alloc (Nat.le_refl _) _).alloc (by simp) _).trans (x.2.mono (by simp; omega))
 have HX : Hid (∀ x : Ext ((w.alloc (.cells #[.int .i64 l.kind, .int .i64 l.lo, .int .i64 l.hi, .slice aln l.names.length cln, .slice alp l.parts.length clp, .slice alr l.rules.length clr] 26)).alloc (.cells #[.int .i64 v.n, .slice bvn v.names.length dvn, .slice bvp v.parts.length dvp, .slice bve v.entries.length dve] 30)), (∀ (i : Nat) q, #[.int .i64 l.kind, .int .i64 l.lo, .int .i64 l.hi, .slice aln l.names.length cln, .slice alp l.parts.length clp, .slice alr l.rules.length clr][i]? = some q → x.1.cell? ⟨w.heap.size, i, none⟩ = some q) ∧ (∀ (i : Nat) q, #[.int .i64 v.n, .slice bvn v.names.length dvn, .slice bvp v.parts.length dvp, .slice bve v.entries.length dve][i]? = some q → x.1.cell? ⟨w.heap.size + 1, i, none⟩ = some q)) :=
  hid fun x => two_boxes w #[.int .i64 l.kind, .int .i64 l.lo, .int .i64 l.hi, .slice aln l.names.length cln, .slice alp l.parts.length clp, .slice alr l.rules.length clr] #[.int .i64 v.n, .slice bvn v.names.length dvn, .slice bvp v.parts.length dvp, .slice bve v.entries.length dve] 26 30 (x.2.mono (by simp))
 go_enter Tryz.func30, Tryz.ntmps30
 go_wp2_with fail
 generalize (w.alloc (.cells #[.int .i64 l.kind, .int .i64 l.lo, .int .i64 l.hi, .slice aln l.names.length cln, .slice alp l.parts.length clp, .slice alr l.rules.length clr] 26)).alloc (.cells #[.int .i64 v.n, .slice bvn v.names.length dvn, .slice bvp v.parts.length dvp, .slice bve v.entries.length dve] 30) = W2 at HB HX ⊢
 refine (HC.out _ (HB.out ⟨_, Below.refl _ _⟩)).mono ?_
 rintro e w1 ⟨rfl, hb1⟩
 have HB1 := hid hb1
 clear hb1
 have p0 : w1.cell? ⟨w.heap.size, 0, none⟩ = some (.int .i64 l.kind) := (HX.out ⟨_, HB1.out⟩).1 0 _ rfl
 have p1 : w1.cell? ⟨w.heap.size, 1, none⟩ = some (.int .i64 l.lo) := (HX.out ⟨_, HB1.out⟩).1 1 _ rfl
 have p2 : w1.cell? ⟨w.heap.size, 2, none⟩ = some (.int .i64 l.hi) := (HX.out ⟨_, HB1.out⟩).1 2 _ rfl
 have p3 : w1.cell? ⟨w.heap.size, 3, none⟩ = some (.slice aln l.names.length cln) := (HX.out ⟨_, HB1.out⟩).1 3 _ rfl
 have p4 : w1.cell? ⟨w.heap.size, 4, none⟩ = some (.slice alp l.parts.length clp) := (HX.out ⟨_, HB1.out⟩).1 4 _ rfl
 have p5 : w1.cell? ⟨w.heap.size, 5, none⟩ = some (.slice alr l.rules.length clr) := (HX.out ⟨_, HB1.out⟩).1 5 _ rfl
 have pv0 : w1.cell? ⟨w.heap.size + 1, 0, none⟩ = some (.int .i64 v.n) := (HX.out ⟨_, HB1.out⟩).2 0 _ rfl
 have pv1 : w1.cell? ⟨w.heap.size + 1, 1, none⟩ = some (.slice bvn v.names.length dvn) := (HX.out ⟨_, HB1.out⟩).2 1 _ rfl
 have pv2 : w1.cell? ⟨w.heap.size + 1, 2, none⟩ = some (.slice bvp v.parts.length dvp) := (HX.out ⟨_, HB1.out⟩).2 2 _ rfl
 have pv3 : w1.cell? ⟨w.heap.size + 1, 3, none⟩ = some (.slice bve v.entries.length dve) := (HX.out ⟨_, HB1.out⟩).2 3 _ rfl
 by_cases hE : E = 0
 · have HEL2 := hid (HEL.out hE)
   have HTX2 := hid (HTX.out hE)
   have HE2 : Hid (R = if F = false then ([], 4) else (PB, 0)) := hid (by rw [HE.out, if_neg (fun h => h hE)])
   subst hE
   clear HC HEL HTX HE
   go_wp2_with fail
   refine (HEL2.out _ (HB.out ⟨_, HB1.out⟩)).mono ?_
   rintro e w2 ⟨rfl, hb2⟩
   have HB2 : Hid (Below W2.heap.size W2 w2) := hid (HB1.out.trans (hb2.mono HB1.out.size))
   clear hb2 HEL2 p0 p1 p2 p3 p4 p5 pv0 pv1 pv2 pv3
   cases hF : F
   · have HR : Hid (R = ([], 4)) := hid (by rw [HE2.out, if_pos hF])
     subst hF
     clear HE2 HTX2
     go_wp2_with fail
     go_ret2
     exact ⟨by rw [HR.out]; rfl, HB.out ⟨_, HB2.out⟩⟩
   · have HR : Hid (R = (PB, 0)) := hid (by rw [HE2.out, hF]; rfl)
     have HTX3 := hid (HTX2.out hF)
     subst hF
     clear HE2 HTX2
     have q0 : w2.cell? ⟨w.heap.size, 0, none⟩ = some (.int .i64 l.kind) := (HX.out ⟨_, HB2.out⟩).1 0 _ rfl
     have q1 : w2.cell? ⟨w.heap.size, 1, none⟩ = some (.int .i64 l.lo) := (HX.out ⟨_, HB2.out⟩).1 1 _ rfl
     have q2 : w2.cell? ⟨w.heap.size, 2, none⟩ = some (.int .i64 l.hi) := (HX.out ⟨_, HB2.out⟩).1 2 _ rfl
     have q3 : w2.cell? ⟨w.heap.size, 3, none⟩ = some (.slice aln l.names.length cln) := (HX.out ⟨_, HB2.out⟩).1 3 _ rfl
     have q4 : w2.cell? ⟨w.heap.size, 4, none⟩ = some (.slice alp l.parts.length clp) := (HX.out ⟨_, HB2.out⟩).1 4 _ rfl
     have q5 : w2.cell? ⟨w.heap.size, 5, none⟩ = some (.slice alr l.rules.length clr) := (HX.out ⟨_, HB2.out⟩).1 5 _ rfl
     have qv0 : w2.cell? ⟨w.heap.size + 1, 0, none⟩ = some (.int .i64 v.n) := (HX.out ⟨_, HB2.out⟩).2 0 _ rfl
     have qv1 : w2.cell? ⟨w.heap.size + 1, 1, none⟩ = some (.slice bvn v.names.length dvn) := (HX.out ⟨_, HB2.out⟩).2 1 _ rfl
     have qv2 : w2.cell? ⟨w.heap.size + 1, 2, none⟩ = some (.slice bvp v.parts.length dvp) := (HX.out ⟨_, HB2.out⟩).2 2 _ rfl
     have qv3 : w2.cell? ⟨w.heap.size + 1, 3, none⟩ = some (.slice bve v.entries.length dve) := (HX.out ⟨_, HB2.out⟩).2 3 _ rfl
     go_wp2_with fail
     refine (HTX3.out _ (HB.out ⟨_, HB2.out⟩)).mono ?_
     rintro e w3 ⟨rfl, hb3⟩
     have HB3 : Hid (Below W2.heap.size W2 w3) := hid (HB2.out.trans (hb3.mono HB2.out.size))
     clear hb3
     go_wp2_with fail
     go_ret2
     exact ⟨by rw [HR.out]; rfl, HB.out ⟨_, HB3.out⟩⟩
 · have hEb : (E != 0) = true := by simpa using hE
   have HR : Hid (R = ([], 1)) := hid (by rw [HE.out, if_pos hE])
   clear hE HC HEL HTX HE
   go_wp2_with fail
   go_ret2
   exact ⟨by rw [HR.out]; rfl, HB.out ⟨_, HB1.out⟩⟩
end Go.Proofs.YtmdjnaobllajmaaGreatDoor
