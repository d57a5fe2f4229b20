/-
  What the statements of the chapter share, part 24: VTp4.
-/
import Derived.Test.YtmdjnaobllajmaaGreatDoorT19
import Derived.Test.YtmdjnaobllajmaaGreatDoorT22
import Derived.Test.YtmdjnaobllajmaaGreatDoorT23
set_option linter.unusedVariables false
set_option linter.unusedSimpArgs false
set_option maxRecDepth 100000
set_option maxHeartbeats 8000000
namespace Go.Proofs.YtmdjnaobllajmaaGreatDoor
open Go.RowKit
theorem rtop_any (f : Nat) : ∀ l : Lat, SizeOf.sizeOf l ≤ f → WfL l → RTopOk l := by
 induction f with
 | zero => intro l hn; cases l; simp at hn
 | succ f ih =>
  intro l hn hwf
  have IH : ∀ p ∈ l.parts, RTopOk p := fun p hp => ih p (by have := sizeOf_lpart hp; omega) (hwf.part hp)
  rcases (by have := hwf.kinds.1; omega : (l.kind = 1 ∨ l.kind = 2 ∨ l.kind = 3 ∨ l.kind = 8 ∨ l.kind = 9) ∨ (l.kind = 4 ∨ l.kind = 10) ∨ l.kind = 5 ∨ (l.kind = 6 ∨ l.kind = 7)) with e | e | e | e
  · exact rtop_n l hwf e
  · exact rtop_s l hwf e
  · exact rtop_5 l hwf e IH
  · exact rtop_67 l hwf e IH
theorem rTop_any (l : Lat) (cl : List Value) (w : World) (hl : latRd w l cl) : Calls Tryz.prog 18 #[.agg cl.toArray] w (ValEPost w (topE l)) := by
 have HC : Hid (∀ W, Below w.heap.size w W → Calls Tryz.prog 31 #[.agg cl.toArray] W fun e w' => e = .returned (.int .i64 (chkE l)) ∧ Below W.heap.size W w') := hid fun W h => rCheck_any l cl W (latRd.below h _ _ hl)
 have HTO : Hid (chkE l = 0 → ∀ W, Below w.heap.size w W → Calls Tryz.prog 40 #[.agg cl.toArray] W (TopPost W (topV l))) := hid fun h0 W h => rtop_any _ l (Nat.le_refl _) (chkE_wf h0) cl W (latRd.below h _ _ hl)
 have HE : Hid (topE l = if chkE l = 0 then (if (topV l).2 then ((topV l).1, 0) else (zeroV, 14)) else (zeroV, 1)) := hid rfl
 generalize topE l = R at HE ⊢
 generalize chkE l = E at HC HTO HE
 generalize topV l = T at HTO HE
 obtain ⟨x, ok⟩ := T
 simp only at HTO HE
 obtain ⟨aln, cln, alp, clp, alr, clr, rfl, hli, hln, hlp, hlr, ⟨_, mln⟩, ⟨_, mlp⟩, _, mlr⟩ := latRd.lay hl
 clear hl hli hln hlp hlr
 have HB : Hid (Below w.heap.size w ((w.alloc (.cells #[.int .i64 l.kind, .int .i64 l.lo, .int .i64 l.hi, .slice aln l.names.length cln, .slice alp l.parts.length clp, .slice alr l.rules.length clr] 26)).alloc (.cells #[.int .i64 0, .slice none 0 0, .slice none 0 0, .slice none 0 0] 30))) := hid (((Below.refl _ _).alloc (Nat.le_refl _) _).alloc (by simp) _)
 have HX : Hid (∀ w', Below (w.heap.size + 2) ((w.alloc (.cells #[.int .i64 l.kind, .int .i64 l.lo, .int .i64 l.hi, .slice aln l.names.length cln, .slice alp l.parts.length clp, .slice alr l.rules.length clr] 26)).alloc (.cells #[.int .i64 0, .slice none 0 0, .slice none 0 0, .slice none 0 0] 30)) w' → (∀ (i : Nat) v, #[.int .i64 l.kind, .int .i64 l.lo, .int .i64 l.hi, .slice aln l.names.length cln, .slice alp l.parts.length clp, .slice alr l.rules.length clr][i]? = some v → w'.cell? ⟨w.heap.size, i, none⟩ = some v) ∧ w'.heap[w.heap.size + 1]? = some (.cells #[.int .i64 0, .slice none 0 0, .slice none 0 0, .slice none 0 0] 30 (0, 0))) := hid fun w' h => ⟨(two_boxes w #[.int .i64 l.kind, .int .i64 l.lo, .int .i64 l.hi, .slice aln l.names.length cln, .slice alp l.parts.length clp, .slice alr l.rules.length clr] #[.int .i64 0, .slice none 0 0, .slice none 0 0, .slice none 0 0] 26 30 h).1, (h.block _ (by omega)).trans (heap_new_at _ _ _ (by simp))⟩
 go_enter Tryz.func18, Tryz.ntmps18
 go_wp2_with fail
 have HSZ : Hid (((w.alloc (.cells #[.int .i64 l.kind, .int .i64 l.lo, .int .i64 l.hi, .slice aln l.names.length cln, .slice alp l.parts.length clp, .slice alr l.rules.length clr] 26)).alloc (.cells #[.int .i64 0, .slice none 0 0, .slice none 0 0, .slice none 0 0] 30)).heap.size = w.heap.size + 2) := hid (by simp)
 generalize (w.alloc (.cells #[.int .i64 l.kind, .int .i64 l.lo, .int .i64 l.hi, .slice aln l.names.length cln, .slice alp l.parts.length clp, .slice alr l.rules.length clr] 26)).alloc (.cells #[.int .i64 0, .slice none 0 0, .slice none 0 0, .slice none 0 0] 30) = W2 at HB HX HSZ ⊢
 refine (HC.out _ HB.out).mono ?_
 rintro e w1 ⟨rfl, hb1⟩
 have HB1 : Hid (Below (w.heap.size + 2) W2 w1) := hid (hb1.mono (Nat.le_of_eq HSZ.out.symm))
 clear hb1
 have HUP : Hid (∀ {u : World}, Below (w.heap.size + 2) W2 u → Below w.heap.size w u) := hid fun h => HB.out.trans (h.mono (by omega))
 have HLE : Hid (∀ {u : World}, Below (w.heap.size + 2) W2 u → w.heap.size + 2 ≤ u.heap.size) := hid fun h => by have := h.size; have := HSZ.out; omega
 have f0 : w1.cell? ⟨w.heap.size, 0, none⟩ = some (.int .i64 l.kind) := (HX.out _ HB1.out).1 0 _ rfl
 have f1 : w1.cell? ⟨w.heap.size, 1, none⟩ = some (.int .i64 l.lo) := (HX.out _ HB1.out).1 1 _ rfl
 have f2 : w1.cell? ⟨w.heap.size, 2, none⟩ = some (.int .i64 l.hi) := (HX.out _ HB1.out).1 2 _ rfl
 have f3 : w1.cell? ⟨w.heap.size, 3, none⟩ = some (.slice aln l.names.length cln) := (HX.out _ HB1.out).1 3 _ rfl
 have f4 : w1.cell? ⟨w.heap.size, 4, none⟩ = some (.slice alp l.parts.length clp) := (HX.out _ HB1.out).1 4 _ rfl
 have f5 : w1.cell? ⟨w.heap.size, 5, none⟩ = some (.slice alr l.rules.length clr) := (HX.out _ HB1.out).1 5 _ rfl
 have r0 : w1.cell? ⟨w.heap.size + 1, 0, none⟩ = some (.int .i64 0) := cell_at_block (HX.out _ HB1.out).2
 have e0 : w1.frozen? ⟨w.heap.size + 1, 0, none⟩ = false := free_at_block (HX.out _ HB1.out).2
 have r1 : w1.cell? ⟨w.heap.size + 1, 1, none⟩ = some (.slice none 0 0) := cell_at_block (HX.out _ HB1.out).2
 have e1 : w1.frozen? ⟨w.heap.size + 1, 1, none⟩ = false := free_at_block (HX.out _ HB1.out).2
 have r2 : w1.cell? ⟨w.heap.size + 1, 2, none⟩ = some (.slice none 0 0) := cell_at_block (HX.out _ HB1.out).2
 have e2 : w1.frozen? ⟨w.heap.size + 1, 2, none⟩ = false := free_at_block (HX.out _ HB1.out).2
 have r3 : w1.cell? ⟨w.heap.size + 1, 3, none⟩ = some (.slice none 0 0) := cell_at_block (HX.out _ HB1.out).2
 have e3 : w1.frozen? ⟨w.heap.size + 1, 3, none⟩ = false := free_at_block (HX.out _ HB1.out).2
 by_cases hE : E = 0
 · have HTO2 := hid (HTO.out hE)
   have HE2 : Hid (R = if ok then (x, 0) else (zeroV, 14)) := hid (by rw [HE.out, if_pos hE])
   subst hE
   clear HC HTO HE
   go_wp2_with fail
   refine (HTO2.out _ (HUP.out HB1.out)).mono ?_
   rintro e w2 ⟨cs2, rfl, hv2, hb2⟩
   have HB2 : Hid (Below (w.heap.size + 2) W2 w2) := hid (HB1.out.trans (hb2.mono (HLE.out HB1.out)))
   have HV2 : Hid (valRd (only (from_ w1.heap.size) w2) x cs2) := hid hv2
   have HL1 : Hid (w.heap.size + 2 ≤ w1.heap.size) := hid (HLE.out HB1.out)
   clear hb2 f0 f1 f2 f3 f4 f5 r0 r1 r2 r3 e0 e1 e2 e3
   obtain ⟨bxn, dxn, bxp, dxp, bxe, dxe, rfl, gxi, gxn, gxp, gxe, ⟨_, nxn⟩, ⟨_, nxp⟩, _, nxe⟩ := valRd.lay hv2
   clear hv2 gxi gxn gxp gxe
   have HB3 : Hid (∀ O, Below (w.heap.size + 2) W2 (w2.alloc O)) := hid fun O => HB2.out.alloc (HLE.out HB2.out) O
   have HV3 : Hid (valRd (only (from_ w1.heap.size) (w2.alloc (.cells #[.int .i64 x.n, .slice bxn x.names.length dxn, .slice bxp x.parts.length dxp, .slice bxe x.entries.length dxe] 30 (0, 0)))) x [.int .i64 x.n, .slice bxn x.names.length dxn, .slice bxp x.parts.length dxp, .slice bxe x.entries.length dxe]) := hid (valRd_mono' (only_keep fun b hb hl => ⟨hb, Below.heap_alloc _ _ _ hl⟩) HV2.out)
   have r0 : ∀ O, (w2.alloc O).cell? ⟨w.heap.size + 1, 0, none⟩ = some (.int .i64 0) := fun O => cell_at_block (HX.out _ (HB3.out O)).2
   have e0 : ∀ O, (w2.alloc O).frozen? ⟨w.heap.size + 1, 0, none⟩ = false := fun O => free_at_block (HX.out _ (HB3.out O)).2
   have r1 : ∀ O, (w2.alloc O).cell? ⟨w.heap.size + 1, 1, none⟩ = some (.slice none 0 0) := fun O => cell_at_block (HX.out _ (HB3.out O)).2
   have e1 : ∀ O, (w2.alloc O).frozen? ⟨w.heap.size + 1, 1, none⟩ = false := fun O => free_at_block (HX.out _ (HB3.out O)).2
   have r2 : ∀ O, (w2.alloc O).cell? ⟨w.heap.size + 1, 2, none⟩ = some (.slice none 0 0) := fun O => cell_at_block (HX.out _ (HB3.out O)).2
   have e2 : ∀ O, (w2.alloc O).frozen? ⟨w.heap.size + 1, 2, none⟩ = false := fun O => free_at_block (HX.out _ (HB3.out O)).2
   have r3 : ∀ O, (w2.alloc O).cell? ⟨w.heap.size + 1, 3, none⟩ = some (.slice none 0 0) := fun O => cell_at_block (HX.out _ (HB3.out O)).2
   have e3 : ∀ O, (w2.alloc O).frozen? ⟨w.heap.size + 1, 3, none⟩ = false := fun O => free_at_block (HX.out _ (HB3.out O)).2
   cases ok with
   | false =>
     have HR : Hid (R = (zeroV, 14)) := hid (by rw [HE2.out]; rfl)
     clear HE2
     have HBF := hid (below_sets (b := w.heap.size + 1) (HUP.out (HB3.out (.cells #[.int .i64 x.n, .slice bxn x.names.length dxn, .slice bxp x.parts.length dxp, .slice bxe x.entries.length dxe] 30 (0, 0)))) (by omega) (.int .i64 0) (.slice none 0 0) (.slice none 0 0) (.slice none 0 0))
     go_wp2_with fail
     refine bodyPost_ret (v := .tuple #[.agg #[.int .i64 0, .slice none 0 0, .slice none 0 0, .slice none 0 0], .int .i64 14]) (by simp [results, Tryz.results18, go_sem, r0, r1, r2, r3, e0, e1, e2, e3]) rfl ?_
     rw [HR.out]
     exact ⟨_, rfl, zeroV_rd _, HBF.out⟩
   | true =>
     have HR : Hid (R = (x, 0)) := hid (by rw [HE2.out]; rfl)
     clear HE2
     have HBF := hid (below_sets (b := w.heap.size + 1) (HUP.out (HB3.out (.cells #[.int .i64 x.n, .slice bxn x.names.length dxn, .slice bxp x.parts.length dxp, .slice bxe x.entries.length dxe] 30 (0, 0)))) (by omega) (.int .i64 x.n) (.slice bxn x.names.length dxn) (.slice bxp x.parts.length dxp) (.slice bxe x.entries.length dxe))
     go_wp2_with fail
     refine bodyPost_ret (v := .tuple #[.agg #[.int .i64 x.n, .slice bxn x.names.length dxn, .slice bxp x.parts.length dxp, .slice bxe x.entries.length dxe], .int .i64 0]) (by simp [results, Tryz.results18, go_sem, r0, r1, r2, r3, e0, e1, e2, e3]) rfl ?_
     rw [HR.out]
     exact ⟨_, rfl, valRd_mono' ((sub_sets _ (w.heap.size + 1) w1.heap.size (by have := HL1.out; omega) _ _ _ _).trans (only_from_mono _ (by have := HL1.out; omega))) HV3.out, HBF.out⟩
 · have hEb : (E != 0) = true := by simpa using hE
   have HR : Hid (R = (zeroV, 1)) := hid (by rw [HE.out, if_neg hE])
   clear hE HC HTO HE
   have HBF := hid (below_sets (b := w.heap.size + 1) (HUP.out HB1.out) (by omega) (.int .i64 0) (.slice none 0 0) (.slice none 0 0) (.slice none 0 0))
   go_wp2_with fail
   refine bodyPost_ret (v := .tuple #[.agg #[.int .i64 0, .slice none 0 0, .slice none 0 0, .slice none 0 0], .int .i64 1]) (by simp [results, Tryz.results18, go_sem, r0, r1, r2, r3, e0, e1, e2, e3]) rfl ?_
   rw [HR.out]
   exact ⟨_, rfl, zeroV_rd _, HBF.out⟩
end Go.Proofs.YtmdjnaobllajmaaGreatDoor
