/-
  What the statements of the chapter share, part 27: VBtm, VE11, PBot.
-/
import Derived.Test.YtmdjnaobllajmaaGreatDoorN10
import Derived.Test.YtmdjnaobllajmaaGreatDoorN14
import Derived.Test.YtmdjnaobllajmaaGreatDoorN26
set_option linter.unusedVariables false
set_option linter.unusedSimpArgs false
set_option maxRecDepth 100000
set_option maxHeartbeats 8000000
namespace Go.Proofs.YtmdjnaobllajmaaGreatDoor
open Go.RowKit
theorem Bottom_any (l : Lat) (cl : List Value) (w : World) (hl : latRd w l cl) : Calls Tryz.prog 33 #[.agg cl.toArray] w (ValEPost w (bottomE l)) := by
  have HC : Hid (∀ W, Below w.heap.size w W → Calls Tryz.prog 36 #[.agg cl.toArray] W fun e w' => e = .returned (.int .i64 (chkE l)) ∧ Below W.heap.size W w') := hid fun W h => check_any l cl W (latRd.below h _ _ hl)
  have HBO : Hid (chkE l = 0 → ∀ W, Below w.heap.size w W → Calls Tryz.prog 61 #[.agg cl.toArray] W (ValPost W (botV l))) := hid fun h0 W h => bottom_any _ l cl W (Nat.le_refl _) (latRd.below h _ _ hl) (chkE_wf h0)
  have HE : Hid (bottomE l = if chkE l = 0 then (botV l, 0) else (zeroV, 1)) := hid rfl
  generalize bottomE l = R at HE ⊢
  generalize chkE l = E at HC HBO HE
  obtain ⟨vln, vlp, vlr, rfl, hli, hln, hlp, hlr⟩ := (latRd_iff _ _ _).1 hl
  obtain ⟨aln, cln, rfl, _, mln⟩ := hln.shape
  obtain ⟨alp, clp, rfl, _, mlp⟩ := hlp.shape
  obtain ⟨alr, clr, rfl, _, mlr⟩ := hlr.shape
  clear hl hli hln hlp hlr
  have HB : Hid (Below w.heap.size w ((w.alloc (.cells #[.int .i64 l.kind, .int .i64 l.lo, .int .i64 l.hi, .slice aln l.names.length cln, .slice alp l.parts.length clp, .slice alr l.rules.length clr] 26)).alloc (.cells #[.int .i64 0, .slice none 0 0, .slice none 0 0, .slice none 0 0] 30))) := hid (((Below.refl _ _).alloc (Nat.le_refl _) _).alloc (by simp) _)
  have HX : Hid (∀ w', Below (w.heap.size + 2) ((w.alloc (.cells #[.int .i64 l.kind, .int .i64 l.lo, .int .i64 l.hi, .slice aln l.names.length cln, .slice alp l.parts.length clp, .slice alr l.rules.length clr] 26)).alloc (.cells #[.int .i64 0, .slice none 0 0, .slice none 0 0, .slice none 0 0] 30)) w' → (∀ (i : Nat) v, #[.int .i64 l.kind, .int .i64 l.lo, .int .i64 l.hi, .slice aln l.names.length cln, .slice alp l.parts.length clp, .slice alr l.rules.length clr][i]? = some v → w'.cell? ⟨w.heap.size, i, none⟩ = some v) ∧ w'.heap[w.heap.size + 1]? = some (.cells #[.int .i64 0, .slice none 0 0, .slice none 0 0, .slice none 0 0] 30 (0, 0))) := hid fun w' h => ⟨(two_boxes w #[.int .i64 l.kind, .int .i64 l.lo, .int .i64 l.hi, .slice aln l.names.length cln, .slice alp l.parts.length clp, .slice alr l.rules.length clr] #[.int .i64 0, .slice none 0 0, .slice none 0 0, .slice none 0 0] 26 30 h).1, (h.block _ (by omega)).trans (heap_new_at _ _ _ (by simp))⟩
  go_enter Tryz.func33, Tryz.ntmps33
  go_wp2_with fail
  have HSZ : Hid (((w.alloc (.cells #[.int .i64 l.kind, .int .i64 l.lo, .int .i64 l.hi, .slice aln l.names.length cln, .slice alp l.parts.length clp, .slice alr l.rules.length clr] 26)).alloc (.cells #[.int .i64 0, .slice none 0 0, .slice none 0 0, .slice none 0 0] 30)).heap.size = w.heap.size + 2) := hid (by simp)
  generalize (w.alloc (.cells #[.int .i64 l.kind, .int .i64 l.lo, .int .i64 l.hi, .slice aln l.names.length cln, .slice alp l.parts.length clp, .slice alr l.rules.length clr] 26)).alloc (.cells #[.int .i64 0, .slice none 0 0, .slice none 0 0, .slice none 0 0] 30) = W2 at HB HX HSZ ⊢
  refine (HC.out _ HB.out).mono ?_
  rintro e w1 ⟨rfl, hb1⟩
  have HB1 : Hid (Below (w.heap.size + 2) W2 w1) := hid (hb1.mono (Nat.le_of_eq HSZ.out.symm))
  clear hb1
  have f0 : w1.cell? ⟨w.heap.size, 0, none⟩ = some (.int .i64 l.kind) := (HX.out _ HB1.out).1 0 _ rfl
  have f1 : w1.cell? ⟨w.heap.size, 1, none⟩ = some (.int .i64 l.lo) := (HX.out _ HB1.out).1 1 _ rfl
  have f2 : w1.cell? ⟨w.heap.size, 2, none⟩ = some (.int .i64 l.hi) := (HX.out _ HB1.out).1 2 _ rfl
  have f3 : w1.cell? ⟨w.heap.size, 3, none⟩ = some (.slice aln l.names.length cln) := (HX.out _ HB1.out).1 3 _ rfl
  have f4 : w1.cell? ⟨w.heap.size, 4, none⟩ = some (.slice alp l.parts.length clp) := (HX.out _ HB1.out).1 4 _ rfl
  have f5 : w1.cell? ⟨w.heap.size, 5, none⟩ = some (.slice alr l.rules.length clr) := (HX.out _ HB1.out).1 5 _ rfl
  have HRES := hid (HX.out _ HB1.out).2
  have r0 : w1.cell? ⟨w.heap.size + 1, 0, none⟩ = some (.int .i64 0) := cell_at_block HRES.out
  have e0 : w1.frozen? ⟨w.heap.size + 1, 0, none⟩ = false := free_at_block HRES.out
  have r1 : w1.cell? ⟨w.heap.size + 1, 1, none⟩ = some (.slice none 0 0) := cell_at_block HRES.out
  have e1 : w1.frozen? ⟨w.heap.size + 1, 1, none⟩ = false := free_at_block HRES.out
  have r2 : w1.cell? ⟨w.heap.size + 1, 2, none⟩ = some (.slice none 0 0) := cell_at_block HRES.out
  have e2 : w1.frozen? ⟨w.heap.size + 1, 2, none⟩ = false := free_at_block HRES.out
  have r3 : w1.cell? ⟨w.heap.size + 1, 3, none⟩ = some (.slice none 0 0) := cell_at_block HRES.out
  have e3 : w1.frozen? ⟨w.heap.size + 1, 3, none⟩ = false := free_at_block HRES.out
  by_cases hE : E = 0
  · have HR : Hid (R = (botV l, 0)) := hid (by rw [HE.out, if_pos hE])
    have HBO2 := hid (HBO.out hE)
    subst hE
    clear HC HBO HE
    go_wp2_with fail
    refine (HBO2.out _ (HB.out.trans (HB1.out.mono (by omega)))).mono ?_
    rintro e w2 ⟨cs, rfl, hv, hb2⟩
    have HV := hid hv
    have HB2 : Hid (Below (w.heap.size + 2) W2 w2) := hid (HB1.out.trans (hb2.mono (by have := HB1.out.size; have := HSZ.out; omega)))
    obtain ⟨uxn, uxp, uxe, rfl, gxi, gxn, gxp, gxe⟩ := (valRd_iff _ _ _).1 hv
    obtain ⟨bxn, dxn, rfl, _, nxn⟩ := gxn.shape
    obtain ⟨bxp, dxp, rfl, _, nxp⟩ := gxp.shape
    obtain ⟨bxe, dxe, rfl, _, nxe⟩ := gxe.shape
    clear hv hb2 gxn gxp gxe r0 r1 r2 r3 e0 e1 e2 e3
    have HRES2 := hid (HX.out _ HB2.out).2
    have r0 : w2.cell? ⟨w.heap.size + 1, 0, none⟩ = some (.int .i64 0) := cell_at_block HRES2.out
    have e0 : w2.frozen? ⟨w.heap.size + 1, 0, none⟩ = false := free_at_block HRES2.out
    have r1 : w2.cell? ⟨w.heap.size + 1, 1, none⟩ = some (.slice none 0 0) := cell_at_block HRES2.out
    have e1 : w2.frozen? ⟨w.heap.size + 1, 1, none⟩ = false := free_at_block HRES2.out
    have r2 : w2.cell? ⟨w.heap.size + 1, 2, none⟩ = some (.slice none 0 0) := cell_at_block HRES2.out
    have e2 : w2.frozen? ⟨w.heap.size + 1, 2, none⟩ = false := free_at_block HRES2.out
    have r3 : w2.cell? ⟨w.heap.size + 1, 3, none⟩ = some (.slice none 0 0) := cell_at_block HRES2.out
    have e3 : w2.frozen? ⟨w.heap.size + 1, 3, none⟩ = false := free_at_block HRES2.out
    have HBF := hid (below_sets (b := w.heap.size + 1) (HB.out.trans (HB2.out.mono (by omega))) (by omega) (.int .i64 (botV l).n) (.slice bxn (botV l).names.length dxn) (.slice bxp (botV l).parts.length dxp) (.slice bxe (botV l).entries.length dxe))
    have HLE : Hid (w.heap.size + 2 ≤ w1.heap.size) := hid (by have := HB1.out.size; have := HSZ.out; omega)
    go_wp2_with fail
    refine bodyPost_ret (v := .tuple #[.agg #[.int .i64 (botV l).n, .slice bxn (botV l).names.length dxn, .slice bxp (botV l).parts.length dxp, .slice bxe (botV l).entries.length dxe], .int .i64 0]) (by simp [results, Tryz.results33, go_sem, r0, r1, r2, r3, e0, e1, e2, e3]) rfl ?_
    rw [HR.out]
    exact ⟨[_, _, _, _], rfl, valRd_mono' ((sub_sets w2 (w.heap.size + 1) w1.heap.size (by have := HLE.out; omega) _ _ _ _).trans (only_from_mono _ (by have := HLE.out; omega))) HV.out, HBF.out⟩
  · have hEb : (E != 0) = true := by simpa using hE
    have HR : Hid (R = (zeroV, 1)) := hid (by rw [HE.out, if_neg hE])
    clear hE HC HBO HE
    have HBF := hid (below_sets (b := w.heap.size + 1) (HB.out.trans (HB1.out.mono (by omega))) (by omega) (.int .i64 0) (.slice none 0 0) (.slice none 0 0) (.slice none 0 0))
    go_wp2_with fail
    refine bodyPost_ret (v := .tuple #[.agg #[.int .i64 0, .slice none 0 0, .slice none 0 0, .slice none 0 0], .int .i64 1]) (by simp [results, Tryz.results33, go_sem, r0, r1, r2, r3, e0, e1, e2, e3]) rfl ?_
    rw [HR.out]
    exact ⟨_, rfl, zeroV_rd _, HBF.out⟩
theorem isBottom_any (l : Lat) (v : Val) (cl cv : List Value) (w : World) (hl : latRd w l cl) (hv : valRd w v cv) :
    Calls Tryz.prog 32 #[.agg cl.toArray, .agg cv.toArray] w fun e w' => e = .returned (.bool (isBotB l v)) ∧ Below w.heap.size w w' := by
  have HC : Hid (∀ W, Below w.heap.size w W → Calls Tryz.prog 36 #[.agg cl.toArray] W fun e w' => e = .returned (.int .i64 (chkE l)) ∧ Below W.heap.size W w') := hid fun W h => check_any l cl W (latRd.below h _ _ hl)
  have HBO : Hid (chkE l = 0 → ∀ W, Below w.heap.size w W → Calls Tryz.prog 61 #[.agg cl.toArray] W (ValPost W (botV l))) := hid fun h0 W h => bottom_any _ l cl W (Nat.le_refl _) (latRd.below h _ _ hl) (chkE_wf h0)
  have HEQ : Hid (∀ (W : World) (cs : List Value), Below w.heap.size w W → valRd W (botV l) cs → Calls Tryz.prog 22 #[.agg cv.toArray, .agg cs.toArray] W fun e w' => e = .returned (.bool (decide (valC v (botV l) = 0))) ∧ Below W.heap.size W w') := hid fun W cs h hc => equal_any v (botV l) cv cs W (valRd.below h _ _ hv) hc
  have HE : Hid (isBotB l v = (decide (chkE l = 0) && decide (valC v (botV l) = 0))) := hid rfl
  generalize isBotB l v = R at HE ⊢
  generalize decide (valC v (botV l) = 0) = D at HEQ HE
  generalize chkE l = E at HC HBO HE
  obtain ⟨vln, vlp, vlr, rfl, hli, hln, hlp, hlr⟩ := (latRd_iff _ _ _).1 hl
  obtain ⟨aln, cln, rfl, _, mln⟩ := hln.shape
  obtain ⟨alp, clp, rfl, _, mlp⟩ := hlp.shape
  obtain ⟨alr, clr, rfl, _, mlr⟩ := hlr.shape
  obtain ⟨uvn, uvp, uve, rfl, gvi, gvn, gvp, gve⟩ := (valRd_iff _ _ _).1 hv
  obtain ⟨bvn, dvn, rfl, _, nvn⟩ := gvn.shape
  obtain ⟨bvp, dvp, rfl, _, nvp⟩ := gvp.shape
  obtain ⟨bve, dve, rfl, _, nve⟩ := gve.shape
  clear hl hli hln hlp hlr hv gvi gvn gvp gve
  have HB : Hid (∀ x : Ext ((w.alloc (.cells #[.int .i64 l.kind, .int .i64 l.lo, .int .i64 l.hi, .slice aln l.names.length cln, .slice alp l.parts.length clp, .slice alr l.rules.length clr] 26)).alloc (.cells #[.int .i64 v.n, .slice bvn v.names.length dvn, .slice bvp v.parts.length dvp, .slice bve v.entries.length dve] 30)), Below w.heap.size w x.1) := hid fun x => (((Below.refl _ _).alloc (Nat.le_refl _) _).alloc (by simp) _).trans (x.2.mono (by simp; omega))
  have HX : Hid (∀ x : Ext ((w.alloc (.cells #[.int .i64 l.kind, .int .i64 l.lo, .int .i64 l.hi, .slice aln l.names.length cln, .slice alp l.parts.length clp, .slice alr l.rules.length clr] 26)).alloc (.cells #[.int .i64 v.n, .slice bvn v.names.length dvn, .slice bvp v.parts.length dvp, .slice bve v.entries.length dve] 30)), (∀ (i : Nat) q, #[.int .i64 l.kind, .int .i64 l.lo, .int .i64 l.hi, .slice aln l.names.length cln, .slice alp l.parts.length clp, .slice alr l.rules.length clr][i]? = some q → x.1.cell? ⟨w.heap.size, i, none⟩ = some q) ∧ (∀ (i : Nat) q, #[.int .i64 v.n, .slice bvn v.names.length dvn, .slice bvp v.parts.length dvp, .slice bve v.entries.length dve][i]? = some q → x.1.cell? ⟨w.heap.size + 1, i, none⟩ = some q)) :=
    hid fun x => two_boxes w #[.int .i64 l.kind, .int .i64 l.lo, .int .i64 l.hi, .slice aln l.names.length cln, .slice alp l.parts.length clp, .slice alr l.rules.length clr] #[.int .i64 v.n, .slice bvn v.names.length dvn, .slice bvp v.parts.length dvp, .slice bve v.entries.length dve] 26 30 (x.2.mono (by simp))
  go_enter Tryz.func32, Tryz.ntmps32
  go_wp2_with fail
  generalize (w.alloc (.cells #[.int .i64 l.kind, .int .i64 l.lo, .int .i64 l.hi, .slice aln l.names.length cln, .slice alp l.parts.length clp, .slice alr l.rules.length clr] 26)).alloc (.cells #[.int .i64 v.n, .slice bvn v.names.length dvn, .slice bvp v.parts.length dvp, .slice bve v.entries.length dve] 30) = W2 at HB HX ⊢
  by_cases hE : E = 0
  · have HBO2 := hid (HBO.out hE)
    have HC2 : Hid (∀ W, Below w.heap.size w W → Calls Tryz.prog 36 #[.agg #[.int .i64 l.kind, .int .i64 l.lo, .int .i64 l.hi, .slice aln l.names.length cln, .slice alp l.parts.length clp, .slice alr l.rules.length clr]] W fun e w' => e = .returned (.int .i64 0) ∧ Below W.heap.size W w') := hid (by subst hE; exact HC.out)
    have HR : Hid (R = D) := hid (by rw [HE.out, decide_eq_true hE]; rfl)
    have HS : Hid (∀ x : Ext W2, x.1.cell? ⟨w.heap.size, 0, none⟩ = some (.int .i64 l.kind) ∧ x.1.cell? ⟨w.heap.size, 1, none⟩ = some (.int .i64 l.lo) ∧ x.1.cell? ⟨w.heap.size, 2, none⟩ = some (.int .i64 l.hi) ∧ x.1.cell? ⟨w.heap.size, 3, none⟩ = some (.slice aln l.names.length cln) ∧ x.1.cell? ⟨w.heap.size, 4, none⟩ = some (.slice alp l.parts.length clp) ∧ x.1.cell? ⟨w.heap.size, 5, none⟩ = some (.slice alr l.rules.length clr) ∧ x.1.cell? ⟨w.heap.size + 1, 0, none⟩ = some (.int .i64 v.n) ∧ x.1.cell? ⟨w.heap.size + 1, 1, none⟩ = some (.slice bvn v.names.length dvn) ∧ x.1.cell? ⟨w.heap.size + 1, 2, none⟩ = some (.slice bvp v.parts.length dvp) ∧ x.1.cell? ⟨w.heap.size + 1, 3, none⟩ = some (.slice bve v.entries.length dve)) := hid fun x => ⟨(HX.out x).1 0 _ rfl, (HX.out x).1 1 _ rfl, (HX.out x).1 2 _ rfl, (HX.out x).1 3 _ rfl, (HX.out x).1 4 _ rfl, (HX.out x).1 5 _ rfl, (HX.out x).2 0 _ rfl, (HX.out x).2 1 _ rfl, (HX.out x).2 2 _ rfl, (HX.out x).2 3 _ rfl⟩
    clear hE HBO HC HE
    first
      | (go_region_held3 (fun w' => w'.cell? ⟨w.heap.size, 0, none⟩ = some (.int .i64 l.kind) ∧ w'.cell? ⟨w.heap.size, 1, none⟩ = some (.int .i64 l.lo) ∧ w'.cell? ⟨w.heap.size, 2, none⟩ = some (.int .i64 l.hi) ∧ w'.cell? ⟨w.heap.size, 3, none⟩ = some (.slice aln l.names.length cln) ∧ w'.cell? ⟨w.heap.size, 4, none⟩ = some (.slice alp l.parts.length clp) ∧ w'.cell? ⟨w.heap.size, 5, none⟩ = some (.slice alr l.rules.length clr) ∧ w'.cell? ⟨w.heap.size + 1, 0, none⟩ = some (.int .i64 v.n) ∧ w'.cell? ⟨w.heap.size + 1, 1, none⟩ = some (.slice bvn v.names.length dvn) ∧ w'.cell? ⟨w.heap.size + 1, 2, none⟩ = some (.slice bvp v.parts.length dvp) ∧ w'.cell? ⟨w.heap.size + 1, 3, none⟩ = some (.slice bve v.entries.length dve))
          (first
            | exact HS.out ⟨_, (Below.refl _ _).drew⟩
            | exact HS.out ⟨_, HB7.out⟩
            | exact HS.out ⟨_, HB6.out⟩
            | exact HS.out ⟨_, HB5.out⟩
            | skip)
          (first
            | (go_at_call 36
               refine (HC2.out _ (HB.out ⟨_, (Below.refl _ _).drew⟩)).mono ?_
               rintro e w5 ⟨rfl, hb5⟩
               have HB5 : Hid (Below W2.heap.size W2 w5) := hid ((Below.refl _ _).drew.trans hb5)
               clear hb5)
            | (go_at_call 61
               refine (HBO2.out _ (HB.out ⟨_, HB5.out⟩)).mono ?_
               rintro e w6 ⟨cs6, rfl, hv6, hb6⟩
               have HV6 := hid (valRd_mono' (only_sub _ _) hv6)
               have HB6 : Hid (Below W2.heap.size W2 w6) := hid (HB5.out.trans (hb6.mono HB5.out.size))
               clear hb6 hv6)
            | (go_at_call 22
               refine (HEQ.out _ _ (HB.out ⟨_, HB6.out⟩) HV6.out).mono ?_
               rintro e w7 ⟨rfl, hb7⟩
               have HB7 : Hid (Below W2.heap.size W2 w7) := hid (HB6.out.trans (hb7.mono HB6.out.size))
               clear hb7)))
      | fail
    all_goals
      go_wp2_with fail
      go_ret
      exact ⟨ret_bool HR.out.symm, HB.out ⟨_, HB7.out⟩⟩
  · have hEb : (E == 0) = false := by simpa using hE
    have HR : Hid (R = false) := hid (by rw [HE.out, decide_eq_false hE]; rfl)
    have HC2 : Hid (∀ y : Ext W2, Calls Tryz.prog 36 #[.agg #[.int .i64 l.kind, .int .i64 l.lo, .int .i64 l.hi, .slice aln l.names.length cln, .slice alp l.parts.length clp, .slice alr l.rules.length clr]] y.1 fun e w' => e = .returned (.int .i64 E) ∧ ∃ z : Ext W2, w' = z.1) := hid fun y => ext_call y (HC.out _ (HB.out y))
    clear hE HBO HC HE HEQ
    have l0 : ∀ x : Ext W2, x.1.cell? ⟨w.heap.size, 0, none⟩ = some (.int .i64 l.kind) := fun x => (HX.out x).1 0 _ rfl
    have l1 : ∀ x : Ext W2, x.1.cell? ⟨w.heap.size, 1, none⟩ = some (.int .i64 l.lo) := fun x => (HX.out x).1 1 _ rfl
    have l2 : ∀ x : Ext W2, x.1.cell? ⟨w.heap.size, 2, none⟩ = some (.int .i64 l.hi) := fun x => (HX.out x).1 2 _ rfl
    have l3 : ∀ x : Ext W2, x.1.cell? ⟨w.heap.size, 3, none⟩ = some (.slice aln l.names.length cln) := fun x => (HX.out x).1 3 _ rfl
    have l4 : ∀ x : Ext W2, x.1.cell? ⟨w.heap.size, 4, none⟩ = some (.slice alp l.parts.length clp) := fun x => (HX.out x).1 4 _ rfl
    have l5 : ∀ x : Ext W2, x.1.cell? ⟨w.heap.size, 5, none⟩ = some (.slice alr l.rules.length clr) := fun x => (HX.out x).1 5 _ rfl
    have v0 : ∀ x : Ext W2, x.1.cell? ⟨w.heap.size + 1, 0, none⟩ = some (.int .i64 v.n) := fun x => (HX.out x).2 0 _ rfl
    have v1 : ∀ x : Ext W2, x.1.cell? ⟨w.heap.size + 1, 1, none⟩ = some (.slice bvn v.names.length dvn) := fun x => (HX.out x).2 1 _ rfl
    have v2 : ∀ x : Ext W2, x.1.cell? ⟨w.heap.size + 1, 2, none⟩ = some (.slice bvp v.parts.length dvp) := fun x => (HX.out x).2 2 _ rfl
    have v3 : ∀ x : Ext W2, x.1.cell? ⟨w.heap.size + 1, 3, none⟩ = some (.slice bve v.entries.length dve) := fun x => (HX.out x).2 3 _ rfl
    refine wp_region_ext (by kernel_rfl) (by kernel_rfl) ?_
    repeat (go_big_quiet_step ((go_at_call 36; exact HC2.out _)))
    refine wpQuiet_nil ?_
    rintro _ ⟨z, rfl⟩
    go_wp2_with fail
    go_ret
    exact ⟨ret_bool HR.out.symm, HB.out _⟩
theorem rIsBottom_any (l : Lat) (v : Val) (cl cv : List Value) (w : World) (hl : latRd w l cl) (hv : valRd w v cv) :
    Calls Tryz.prog 34 #[.agg cl.toArray, .agg cv.toArray] w fun e w' => e = .returned (.bool (isBotB l v)) ∧ Below w.heap.size w w' := by
  have HC : Hid (∀ W, Below w.heap.size w W → Calls Tryz.prog 31 #[.agg cl.toArray] W fun e w' => e = .returned (.int .i64 (chkE l)) ∧ Below W.heap.size W w') := hid fun W h => rCheck_any l cl W (latRd.below h _ _ hl)
  have HLE : Hid (chkE l = 0 → ∀ W, Below w.heap.size w W → Calls Tryz.prog 62 #[.agg cl.toArray] W (ValPost W (botV l))) := hid fun h0 W h => least_any _ l cl W (Nat.le_refl _) (latRd.below h _ _ hl) (chkE_wf h0)
  have HEQ : Hid (∀ (W : World) (cs : List Value), Below w.heap.size w W → valRd W (botV l) cs → Calls Tryz.prog 19 #[.agg cv.toArray, .agg cs.toArray] W fun e w' => e = .returned (.bool (decide (valC v (botV l) = 0))) ∧ Below W.heap.size W w') := hid fun W cs h hc => rEqual_any v (botV l) cv cs W (valRd.below h _ _ hv) hc
  have HE : Hid (isBotB l v = (decide (chkE l = 0) && decide (valC v (botV l) = 0))) := hid rfl
  generalize isBotB l v = R at HE ⊢
  obtain ⟨vn, vp, vr, rfl, _⟩ := (latRd_iff _ _ _).1 hl
  obtain ⟨un, up, ue, rfl, _⟩ := (valRd_iff _ _ _).1 hv
  clear hl hv
  generalize decide (valC v (botV l) = 0) = D at HEQ HE
  generalize chkE l = CE at HC HLE HE
  have HB : Hid (∀ x : Ext ((w.alloc (.cells #[.int .i64 l.kind, .int .i64 l.lo, .int .i64 l.hi, vn, vp, vr] 26)).alloc (.cells #[.int .i64 v.n, un, up, ue] 30)), Below w.heap.size w x.1) := hid fun x => (((Below.refl _ _).alloc (Nat.le_refl _) _).alloc (by simp) _).trans (x.2.mono (by simp; omega))
  have HBl : Hid (Box ((w.alloc (.cells #[.int .i64 l.kind, .int .i64 l.lo, .int .i64 l.hi, vn, vp, vr] 26)).alloc (.cells #[.int .i64 v.n, un, up, ue] 30)) (w.heap.size) #[.int .i64 l.kind, .int .i64 l.lo, .int .i64 l.hi, vn, vp, vr]) := hid ((Box.new _ _ _ _ rfl).alloc _)
  have HBv : Hid (Box ((w.alloc (.cells #[.int .i64 l.kind, .int .i64 l.lo, .int .i64 l.hi, vn, vp, vr] 26)).alloc (.cells #[.int .i64 v.n, un, up, ue] 30)) (w.heap.size + 1) #[.int .i64 v.n, un, up, ue]) := hid (Box.new _ _ _ _ (by simp))
  go_enter Tryz.func34, Tryz.ntmps34
  go_upto_region 1 with fail
  generalize (w.alloc (.cells #[.int .i64 l.kind, .int .i64 l.lo, .int .i64 l.hi, vn, vp, vr] 26)).alloc (.cells #[.int .i64 v.n, un, up, ue] 30) = W2 at HB HBl HBv ⊢
  obtain ⟨x0, hx⟩ := ext_self W2
  rw [hx]
  clear hx
  have l0 : ∀ x : Ext W2, x.1.cell? ⟨w.heap.size, 0, none⟩ = some (.int .i64 l.kind) := fun x => (HBl.out.ext x) 0 _ rfl
  have l1 : ∀ x : Ext W2, x.1.cell? ⟨w.heap.size, 1, none⟩ = some (.int .i64 l.lo) := fun x => (HBl.out.ext x) 1 _ rfl
  have l2 : ∀ x : Ext W2, x.1.cell? ⟨w.heap.size, 2, none⟩ = some (.int .i64 l.hi) := fun x => (HBl.out.ext x) 2 _ rfl
  have l3 : ∀ x : Ext W2, x.1.cell? ⟨w.heap.size, 3, none⟩ = some (vn) := fun x => (HBl.out.ext x) 3 _ rfl
  have l4 : ∀ x : Ext W2, x.1.cell? ⟨w.heap.size, 4, none⟩ = some (vp) := fun x => (HBl.out.ext x) 4 _ rfl
  have l5 : ∀ x : Ext W2, x.1.cell? ⟨w.heap.size, 5, none⟩ = some (vr) := fun x => (HBl.out.ext x) 5 _ rfl
  have v0 : ∀ x : Ext W2, x.1.cell? ⟨w.heap.size + 1, 0, none⟩ = some (.int .i64 v.n) := fun x => (HBv.out.ext x) 0 _ rfl
  have v1 : ∀ x : Ext W2, x.1.cell? ⟨w.heap.size + 1, 1, none⟩ = some (un) := fun x => (HBv.out.ext x) 1 _ rfl
  have v2 : ∀ x : Ext W2, x.1.cell? ⟨w.heap.size + 1, 2, none⟩ = some (up) := fun x => (HBv.out.ext x) 2 _ rfl
  have v3 : ∀ x : Ext W2, x.1.cell? ⟨w.heap.size + 1, 3, none⟩ = some (ue) := fun x => (HBv.out.ext x) 3 _ rfl
  have HC1 := hid (ext_of HB.out HC.out)
  by_cases h0 : CE = 0
  · have HF : Hid (R = D) := hid (by rw [HE.out, decide_eq_true h0]; rfl)
    have HLE1 := hid (HLE.out h0)
    have HXB : Hid (∀ W, Below x0.1.heap.size x0.1 W → Below w.heap.size w W ∧ ∃ y : Ext W2, W = y.1) := hid fun W h => ⟨(HB.out x0).trans (h.mono (HB.out x0).size), ⟨W, x0.2.trans (h.mono x0.2.size)⟩, rfl⟩
    have HS0 : Hid (∀ y : Ext W2, y.1.cell? ⟨w.heap.size, 0, none⟩ = some (.int .i64 l.kind) ∧ y.1.cell? ⟨w.heap.size, 1, none⟩ = some (.int .i64 l.lo) ∧ y.1.cell? ⟨w.heap.size, 2, none⟩ = some (.int .i64 l.hi) ∧ y.1.cell? ⟨w.heap.size, 3, none⟩ = some (vn) ∧ y.1.cell? ⟨w.heap.size, 4, none⟩ = some (vp) ∧ y.1.cell? ⟨w.heap.size, 5, none⟩ = some (vr) ∧ y.1.cell? ⟨w.heap.size + 1, 0, none⟩ = some (.int .i64 v.n) ∧ y.1.cell? ⟨w.heap.size + 1, 1, none⟩ = some (un) ∧ y.1.cell? ⟨w.heap.size + 1, 2, none⟩ = some (up) ∧ y.1.cell? ⟨w.heap.size + 1, 3, none⟩ = some (ue)) := hid fun y => ⟨l0 y, l1 y, l2 y, l3 y, l4 y, l5 y, v0 y, v1 y, v2 y, v3 y⟩
    have HSX : Hid (∀ w', Below x0.1.heap.size x0.1 w' → w'.cell? ⟨w.heap.size, 0, none⟩ = some (.int .i64 l.kind) ∧ w'.cell? ⟨w.heap.size, 1, none⟩ = some (.int .i64 l.lo) ∧ w'.cell? ⟨w.heap.size, 2, none⟩ = some (.int .i64 l.hi) ∧ w'.cell? ⟨w.heap.size, 3, none⟩ = some (vn) ∧ w'.cell? ⟨w.heap.size, 4, none⟩ = some (vp) ∧ w'.cell? ⟨w.heap.size, 5, none⟩ = some (vr) ∧ w'.cell? ⟨w.heap.size + 1, 0, none⟩ = some (.int .i64 v.n) ∧ w'.cell? ⟨w.heap.size + 1, 1, none⟩ = some (un) ∧ w'.cell? ⟨w.heap.size + 1, 2, none⟩ = some (up) ∧ w'.cell? ⟨w.heap.size + 1, 3, none⟩ = some (ue)) := hid fun w' h => by obtain ⟨y, rfl⟩ := (HXB.out w' h).2; exact HS0.out y
    subst h0
    clear l0 l1 l2 l3 l4 l5 v0 v1 v2 v3 HLE HC1 HE HS0
    go_region_held3 (fun w' => w'.cell? ⟨w.heap.size, 0, none⟩ = some (.int .i64 l.kind) ∧ w'.cell? ⟨w.heap.size, 1, none⟩ = some (.int .i64 l.lo) ∧ w'.cell? ⟨w.heap.size, 2, none⟩ = some (.int .i64 l.hi) ∧ w'.cell? ⟨w.heap.size, 3, none⟩ = some (vn) ∧ w'.cell? ⟨w.heap.size, 4, none⟩ = some (vp) ∧ w'.cell? ⟨w.heap.size, 5, none⟩ = some (vr) ∧ w'.cell? ⟨w.heap.size + 1, 0, none⟩ = some (.int .i64 v.n) ∧ w'.cell? ⟨w.heap.size + 1, 1, none⟩ = some (un) ∧ w'.cell? ⟨w.heap.size + 1, 2, none⟩ = some (up) ∧ w'.cell? ⟨w.heap.size + 1, 3, none⟩ = some (ue))
      (first
        | exact HSX.out _ (Below.refl _ _)
        | exact HSX.out _ (Below.refl _ _).drew
        | exact HSX.out _ HB7.out
        | exact HSX.out _ HB6.out
        | exact HSX.out _ HB5.out
        | skip)
      (first
        | (go_at_call 31
           refine (HC.out _ (HXB.out _ (Below.refl _ _).drew).1).mono ?_
           rintro e w5 ⟨rfl, hb5⟩
           have HB5 : Hid (Below x0.1.heap.size x0.1 w5) := hid ((Below.refl _ _).drew.trans hb5)
           clear hb5)
        | (go_at_call 62
           refine (HLE1.out _ (HXB.out _ HB5.out).1).mono ?_
           rintro e w6 ⟨cs6, rfl, hv6, hb6⟩
           have HV6 := hid (valRd_mono' (only_sub _ _) hv6)
           have HB6 : Hid (Below x0.1.heap.size x0.1 w6) := hid (HB5.out.trans (hb6.mono HB5.out.size))
           clear hb6 hv6)
        | (go_at_call 19
           refine (HEQ.out _ _ (HXB.out _ HB6.out).1 HV6.out).mono ?_
           rintro e w7 ⟨rfl, hb7⟩
           have HB7 : Hid (Below x0.1.heap.size x0.1 w7) := hid (HB6.out.trans (hb7.mono HB6.out.size))
           clear hb7))
    all_goals
      obtain ⟨z, hz⟩ := (HXB.out _ HB7.out).2
      rw [hz]
      go_wp2_with fail
      go_ret
      exact ⟨ret_bool HF.out.symm, HB.out _⟩
  · have HF : Hid (R = false) := hid (by rw [HE.out, decide_eq_false h0]; rfl)
    have hz : (CE == 0) = false := by rw [beq_eq_false_iff_ne]; exact h0
    clear h0 HLE HEQ HE HC
    go_wp2_with fail
    refine wp_region_ext2 _ (by kernel_rfl) (by kernel_rfl) ?_
    repeat (go_big_quiet_step (with_reducible exact HC1.out _))
    refine wpQuiet_nil ?_
    rintro _ ⟨x5, rfl⟩
    go_wp2_with fail
    go_ret
    exact ⟨ret_bool HF.out.symm, HB.out _⟩
theorem WfL.rule_ne {l : Lat} (h : WfL l) : ∀ r ∈ l.rules, r.cond ≠ [] := by
  have h1 := h.spell
  unfold spellB at h1
  rw [Bool.not_eq_false', Bool.and_eq_true] at h1
  intro r hr
  have h3 := List.all_eq_true.1 h1.2 r hr
  unfold ruleB at h3
  simp only [Bool.and_eq_true, decide_eq_true_eq] at h3
  intro e
  exact h3.1.1.1 (by rw [e]; rfl)
theorem closed_nil {rs : List Rl} (h : ∀ r ∈ rs, r.cond ≠ []) : closedB rs [] = true := by
  unfold closedB
  rw [List.all_eq_true]
  intro r hr
  cases hc : r.cond with
  | nil => exact absurd hc (h r hr)
  | cons x t => rfl
theorem bot_elem (f : Nat) : ∀ l : Lat, SizeOf.sizeOf l ≤ f → WfL l → elemB l (botV l) = true := by
  induction f with
  | zero => intro l hn; cases l; simp at hn
  | succ f ih =>
    intro l hn hwf
    have hk := hwf.kinds
    have hr := hwf.ranges
    have hne := hwf.rule_ne
    have hpart : ∀ p ∈ l.parts, elemB p (botV p) = true := fun p hp => ih p (by have := sizeOf_part (l := l) (p := p) hp; omega) (hwf.part hp)
    have hlo : l.lo ≤ l.hi := by
      have := of_decide_eq_false hr
      omega
    obtain ⟨k, lo, hi, ns, ps, rs⟩ := l
    have hb := botV_eq k lo hi ns ps rs
    have hkk : k = 1 ∨ k = 2 ∨ k = 3 ∨ k = 4 ∨ k = 5 ∨ k = 6 ∨ k = 7 ∨ k = 8 ∨ k = 9 ∨ k = 10 := by
      have h1 : 1 ≤ k := hk.1.1
      have h2 : k ≤ 10 := hk.1.2
      omega
    have hlo' : lo ≤ hi := hlo
    have h67 : ∀ {k : Int}, k = 6 ∨ k = 7 → elemB (.mk k lo hi ns ps rs) (.mk 0 [] (ps.map botV) []) = true := fun {k} e => by
      rw [elem_iff_67 (show Lat.kind (.mk k lo hi ns ps rs) = 6 ∨ Lat.kind (.mk k lo hi ns ps rs) = 7 from e)]
      have h1 : elemsB ps (ps.map botV) = true := (elemsB_iff ps (ps.map botV) (by rw [List.length_map])).2 fun i h h' => by
        rw [List.getElem_map]
        exact hpart _ (List.getElem_mem h)
      show (decide ([].length = 0) && (decide ((0 : Int) = 0) && (decide ([].length = 0) && (decide ((ps.map botV).length = ps.length) && elemsB ps (ps.map botV))))) = true
      rw [h1, decide_eq_true (show (ps.map botV).length = ps.length by rw [List.length_map])]
      rfl
    rcases hkk with rfl | rfl | rfl | rfl | rfl | rfl | rfl | rfl | rfl | rfl
    · rw [hb]; exact (elem_iff_1 rfl).2 ⟨rfl, .inl rfl, rfl, rfl⟩
    · rw [hb]; exact (elem_iff_23 (.inl rfl)).2 ⟨rfl, ⟨Int.le_refl _, hlo'⟩, rfl, rfl⟩
    · rw [hb]; exact (elem_iff_23 (.inr rfl)).2 ⟨rfl, ⟨hlo', Int.le_refl _⟩, rfl, rfl⟩
    · rw [hb]; exact (elem_iff_4 rfl).2 ⟨rfl, rfl, rfl, rfl⟩
    · obtain ⟨p, rfl⟩ : ∃ p, ps = [p] := by
        match ps, hk.2.1 rfl with
        | [p], _ => exact ⟨p, rfl⟩
      rw [hb, elem_iff_5 rfl rfl]; rfl
    · rw [hb]; exact h67 (.inl rfl)
    · rw [hb]; exact h67 (.inr rfl)
    · rw [hb]; exact (elem_iff_8 rfl).2 ⟨rfl, rfl, .inl ⟨.inl rfl, rfl⟩⟩
    · rw [hb]; exact (elem_iff_9 rfl).2 ⟨rfl, rfl, rfl, rfl⟩
    · rw [hb]; exact (elem_iff_10 rfl).2 ⟨rfl, rfl, rfl, rfl, closed_nil hne⟩
theorem bot_valid {l : Lat} (h : chkE l = 0) : validB l (botV l) = true ∧ isBotB l (botV l) = true := by
  unfold validB isBotB
  rw [h, bot_elem _ l (Nat.le_refl _) (chkE_wf h), valC_self]
  exact ⟨rfl, rfl⟩
end Go.Proofs.YtmdjnaobllajmaaGreatDoor
