/-
  The walk of 'ValueBottom'.
-/
import Derived.Test.YtmdjnaobllajmaaGreatDoorN21
import Derived.Test.YtmdjnaobllajmaaGreatDoorN27
set_option linter.unusedVariables false
set_option linter.unusedSimpArgs false
namespace Go.Proofs.YtmdjnaobllajmaaGreatDoor
open Go.RowKit

theorem ext_trans1 {W u : World} (x : Ext W) (h : Below x.1.heap.size x.1 u) : Below W.heap.size W u := x.2.trans (h.mono x.2.size)
theorem bottomE_ok {l : Lat} (h : chkE l = 0) : bottomE l = (botV l, 0) := if_pos h
theorem bottomE_no {l : Lat} (h : chkE l ≠ 0) : bottomE l = (zeroV, 1) := if_neg h

set_option maxRecDepth 100000 in
set_option maxHeartbeats 4000000 in
theorem valueBottom_walk (l : Lat) (v : Val) (cl cv : List Value) (w : World) (hl : latRd w l cl) (hv : valRd w v cv) (ht : Tab w) :
    Calls Tryz.prog 12 #[.agg cl.toArray, .agg cv.toArray] w fun e w' => e = .returned (.bool true) ∧ Below w.heap.size w w' := by
  have HSv : Hid (∀ W, Below w.heap.size w W → Calls Tryz.prog 13 #[.agg cv.toArray, .int .i64 60] W fun e w' => e = .returned (.bool (decide (nodesN v ≤ 60))) ∧ Below W.heap.size W w') := hid fun W h => small_ref v cv 60 W (valRd.below h _ _ hv) (by decide)
  have HBO : Hid (∀ W, Below w.heap.size w W → Calls Tryz.prog 33 #[.agg cl.toArray] W (ValEPost W (bottomE l))) := hid fun W h => Bottom_any l cl W (latRd.below h _ _ hl)
  have HCK : Hid (∀ W, Below w.heap.size w W → Calls Tryz.prog 31 #[.agg cl.toArray] W fun e w' => e = .returned (.int .i64 (chkE l)) ∧ Below W.heap.size W w') := hid fun W h => rCheck_any l cl W (latRd.below h _ _ hl)
  have HIV : Hid (∀ W, Below w.heap.size w W → Calls Tryz.prog 32 #[.agg cl.toArray, .agg cv.toArray] W fun e w' => e = .returned (.bool (isBotB l v)) ∧ Below W.heap.size W w') := hid fun W h => isBottom_any l v cl cv W (latRd.below h _ _ hl) (valRd.below h _ _ hv)
  have HIB : Hid (∀ (W : World) (cs : List Value), Below w.heap.size w W → valRd W (bottomE l).1 cs → Calls Tryz.prog 32 #[.agg cl.toArray, .agg cs.toArray] W fun e w' => e = .returned (.bool (isBotB l (bottomE l).1)) ∧ Below W.heap.size W w') := hid fun W cs h hc => isBottom_any l _ cl cs W (latRd.below h _ _ hl) hc
  have HRI : Hid (∀ (W : World) (cs : List Value), Below w.heap.size w W → valRd W (bottomE l).1 cs → Calls Tryz.prog 34 #[.agg cl.toArray, .agg cs.toArray] W fun e w' => e = .returned (.bool (isBotB l (bottomE l).1)) ∧ Below W.heap.size W w') := hid fun W cs h hc => rIsBottom_any l _ cl cs W (latRd.below h _ _ hl) hc
  have HRV : Hid (∀ (W : World) (cs : List Value), Below w.heap.size w W → valRd W (bottomE l).1 cs → Calls Tryz.prog 16 #[.agg cl.toArray, .agg cs.toArray] W fun e w' => e = .returned (.bool (validB l (bottomE l).1)) ∧ Below W.heap.size W w') := hid fun W cs h hc => rValid_any l _ cl cs W (latRd.below h _ _ hl) hc
  have HRE : Hid (∀ (W : World) (cs : List Value), Below w.heap.size w W → valRd W (bottomE l).1 cs → Calls Tryz.prog 19 #[.agg cv.toArray, .agg cs.toArray] W fun e w' => e = .returned (.bool (decide (valC v (bottomE l).1 = 0))) ∧ Below W.heap.size W w') := hid fun W cs h hc => rEqual_any v _ cv cs W (valRd.below h _ _ hv) hc
  have HRZ : Hid (∀ (W : World) (cs : List Value), Below w.heap.size w W → valRd W (bottomE l).1 cs → Calls Tryz.prog 19 #[.agg cs.toArray, .agg #[.int .i64 0, .slice none 0 0, .slice none 0 0, .slice none 0 0]] W fun e w' => e = .returned (.bool (decide (valC (bottomE l).1 zeroV = 0))) ∧ Below W.heap.size W w') := hid fun W cs h hc => rEqual_any _ zeroV cs _ W hc (zeroV_rd W)
  have HAW0 : Hid (∀ W, Below w.heap.size w W → Calls Tryz.prog 14 #[] W fun e w' => e = .returned (.bool true) ∧ Below W.heap.size W w') := hid fun W h => awake_any W (ht.below h)
  have HAW := HAW0
  have HOK : Hid (chkE l = 0 → (bottomE l).2 = 0 ∧ validB l (bottomE l).1 = true ∧ isBotB l (bottomE l).1 = true ∧ isBotB l v = decide (valC v (bottomE l).1 = 0)) := hid fun h => by
    rw [bottomE_ok h]
    exact ⟨rfl, (bot_valid h).1, (bot_valid h).2, by unfold isBotB; rw [decide_eq_true h]; rfl⟩
  have HNO : Hid (chkE l ≠ 0 → (bottomE l).2 = 1 ∧ decide (valC (bottomE l).1 zeroV = 0) = true ∧ isBotB l v = false) := hid fun h => by
    rw [bottomE_no h]
    exact ⟨rfl, decide_eq_true (valC_self _), by unfold isBotB; rw [decide_eq_false h]; rfl⟩
  obtain ⟨vn, vp, vr, rfl, _⟩ := (latRd_iff _ _ _).1 hl
  obtain ⟨un, up, ue, rfl, _⟩ := (valRd_iff _ _ _).1 hv
  clear hl hv ht
  generalize decide (nodesN v ≤ 60) = Sv at HSv
  generalize bottomE l = E1 at HBO HIB HRI HRV HRE HRZ HOK HNO
  obtain ⟨b, ee⟩ := E1
  simp only at HIB HRI HRV HRE HRZ HOK HNO
  generalize chkE l = CE at HCK HOK HNO
  have HB : Hid (∀ x : Ext ((w.alloc (.cells #[.int .i64 l.kind, .int .i64 l.lo, .int .i64 l.hi, vn, vp, vr] 26)).alloc (.cells #[.int .i64 v.n, un, up, ue] 30)), Below w.heap.size w x.1) := hid fun x => (((Below.refl _ _).alloc (Nat.le_refl _) _).alloc (by simp) _).trans (x.2.mono (by simp; omega))
  have HBl : Hid (Box ((w.alloc (.cells #[.int .i64 l.kind, .int .i64 l.lo, .int .i64 l.hi, vn, vp, vr] 26)).alloc (.cells #[.int .i64 v.n, un, up, ue] 30)) (w.heap.size) #[.int .i64 l.kind, .int .i64 l.lo, .int .i64 l.hi, vn, vp, vr]) := hid ((Box.new _ _ _ _ rfl).alloc _)
  have HBv : Hid (Box ((w.alloc (.cells #[.int .i64 l.kind, .int .i64 l.lo, .int .i64 l.hi, vn, vp, vr] 26)).alloc (.cells #[.int .i64 v.n, un, up, ue] 30)) (w.heap.size + 1) #[.int .i64 v.n, un, up, ue]) := hid (Box.new _ _ _ _ (by simp))
  go_enter Tryz.func12, Tryz.ntmps12
  go_wp2_with fail
  generalize (w.alloc (.cells #[.int .i64 l.kind, .int .i64 l.lo, .int .i64 l.hi, vn, vp, vr] 26)).alloc (.cells #[.int .i64 v.n, un, up, ue] 30) = W2 at HB HBl HBv ⊢
  obtain ⟨x0, hx⟩ := ext_self W2
  rw [hx]
  clear hx
  have l0 : ∀ x : Ext W2, x.1.cell? ⟨w.heap.size, 0, none⟩ = some (.int .i64 l.kind) := fun x => (HBl.out.ext x) 0 _ rfl
  have l1 : ∀ x : Ext W2, x.1.cell? ⟨w.heap.size, 1, none⟩ = some (.int .i64 l.lo) := fun x => (HBl.out.ext x) 1 _ rfl
  have l2 : ∀ x : Ext W2, x.1.cell? ⟨w.heap.size, 2, none⟩ = some (.int .i64 l.hi) := fun x => (HBl.out.ext x) 2 _ rfl
  have l3 : ∀ x : Ext W2, x.1.cell? ⟨w.heap.size, 3, none⟩ = some (vn) := fun x => (HBl.out.ext x) 3 _ rfl
  have l4 : ∀ x : Ext W2, x.1.cell? ⟨w.heap.size, 4, none⟩ = some (vp) := fun x => (HBl.out.ext x) 4 _ rfl
  have l5 : ∀ x : Ext W2, x.1.cell? ⟨w.heap.size, 5, none⟩ = some (vr) := fun x => (HBl.out.ext x) 5 _ rfl
  have v0 : ∀ x : Ext W2, x.1.cell? ⟨w.heap.size + 1, 0, none⟩ = some (.int .i64 v.n) := fun x => (HBv.out.ext x) 0 _ rfl
  have v1 : ∀ x : Ext W2, x.1.cell? ⟨w.heap.size + 1, 1, none⟩ = some (un) := fun x => (HBv.out.ext x) 1 _ rfl
  have v2 : ∀ x : Ext W2, x.1.cell? ⟨w.heap.size + 1, 2, none⟩ = some (up) := fun x => (HBv.out.ext x) 2 _ rfl
  have v3 : ∀ x : Ext W2, x.1.cell? ⟨w.heap.size + 1, 3, none⟩ = some (ue) := fun x => (HBv.out.ext x) 3 _ rfl
  replace HSv := hid (ext_of HB.out HSv.out)
  replace HAW := hid (ext_of HB.out HAW.out)
  refine (HSv.out _).mono ?_
  rintro e _ ⟨rfl, x1, rfl⟩
  cases Sv
  · go_wp2_with fail
    refine (HAW.out _).mono ?_
    rintro e _ ⟨rfl, x, rfl⟩
    go_wp2_with fail
    go_ret
    exact ⟨rfl, HB.out _⟩
  go_wp2_with fail
  refine (HBO.out _ (HB.out _)).mono ?_
  rintro e u1 ⟨cs, he, hvb, hb1⟩
  simp only at he
  subst he
  have hvb1 : valRd u1 b cs := valRd_mono' (only_sub _ _) hvb
  obtain ⟨bn, bp, be, rfl, _, gbn, gbp, gbe⟩ := (valRd_iff _ _ _).1 hvb1
  obtain ⟨ban, bcn, rfl, _, _⟩ := gbn.shape
  obtain ⟨bap, bcp, rfl, _, _⟩ := gbp.shape
  obtain ⟨bae, bce, rfl, _, _⟩ := gbe.shape
  clear gbn gbp gbe
  have HVB : Hid (∀ O, valRd (u1.alloc O) b [.int .i64 b.n, .slice ban b.names.length bcn, .slice bap b.parts.length bcp, .slice bae b.entries.length bce]) := hid fun O => valRd.below ((Below.refl _ _).alloc (Nat.le_refl _) O) _ _ hvb1
  have HK1 : Hid (∀ O, Below W2.heap.size W2 (u1.alloc O)) := hid fun O => (ext_trans1 x1 hb1).alloc (ext_trans1 x1 hb1).size O
  have HBb : Hid (Box (u1.alloc (.cells #[.int .i64 b.n, .slice ban b.names.length bcn, .slice bap b.parts.length bcp, .slice bae b.entries.length bce] 30)) (u1.heap.size) #[.int .i64 b.n, .slice ban b.names.length bcn, .slice bap b.parts.length bcp, .slice bae b.entries.length bce]) := hid (Box.new _ _ _ _ rfl)
  have l0' : ∀ O, (u1.alloc O).cell? ⟨w.heap.size, 0, none⟩ = some (.int .i64 l.kind) := fun O => l0 ⟨_, HK1.out O⟩
  have l1' : ∀ O, (u1.alloc O).cell? ⟨w.heap.size, 1, none⟩ = some (.int .i64 l.lo) := fun O => l1 ⟨_, HK1.out O⟩
  have l2' : ∀ O, (u1.alloc O).cell? ⟨w.heap.size, 2, none⟩ = some (.int .i64 l.hi) := fun O => l2 ⟨_, HK1.out O⟩
  have l3' : ∀ O, (u1.alloc O).cell? ⟨w.heap.size, 3, none⟩ = some vn := fun O => l3 ⟨_, HK1.out O⟩
  have l4' : ∀ O, (u1.alloc O).cell? ⟨w.heap.size, 4, none⟩ = some vp := fun O => l4 ⟨_, HK1.out O⟩
  have l5' : ∀ O, (u1.alloc O).cell? ⟨w.heap.size, 5, none⟩ = some vr := fun O => l5 ⟨_, HK1.out O⟩
  clear hvb hvb1 hb1 HSv HAW HBO
  go_wp2_with fail
  clear l0' l1' l2' l3' l4' l5' l0 l1 l2 l3 l4 l5 v0 v1 v2 v3 x0
  have HK2 := hid (HK1.out (.cells #[.int .i64 b.n, .slice ban b.names.length bcn, .slice bap b.parts.length bcp, .slice bae b.entries.length bce] 30))
  replace HVB := hid (HVB.out (.cells #[.int .i64 b.n, .slice ban b.names.length bcn, .slice bap b.parts.length bcp, .slice bae b.entries.length bce] 30))
  generalize u1.alloc (.cells #[.int .i64 b.n, .slice ban b.names.length bcn, .slice bap b.parts.length bcp, .slice bae b.entries.length bce] 30) = W3 at HVB HK2 HBb ⊢
  generalize u1.heap.size = N at HBb ⊢
  replace HBl := hid (HBl.out.below HK2.out)
  replace HBv := hid (HBv.out.below HK2.out)
  replace HB : Hid (∀ x : Ext W3, Below w.heap.size w x.1) := hid fun x => (HB.out ⟨W3, HK2.out⟩).trans (x.2.mono (HB.out ⟨W3, HK2.out⟩).size)
  clear HK1 HK2 x1
  obtain ⟨x0, hx⟩ := ext_self W3
  rw [hx]
  clear hx
  have l0 : ∀ x : Ext W3, x.1.cell? ⟨w.heap.size, 0, none⟩ = some (.int .i64 l.kind) := fun x => (HBl.out.ext x) 0 _ rfl
  have l1 : ∀ x : Ext W3, x.1.cell? ⟨w.heap.size, 1, none⟩ = some (.int .i64 l.lo) := fun x => (HBl.out.ext x) 1 _ rfl
  have l2 : ∀ x : Ext W3, x.1.cell? ⟨w.heap.size, 2, none⟩ = some (.int .i64 l.hi) := fun x => (HBl.out.ext x) 2 _ rfl
  have l3 : ∀ x : Ext W3, x.1.cell? ⟨w.heap.size, 3, none⟩ = some (vn) := fun x => (HBl.out.ext x) 3 _ rfl
  have l4 : ∀ x : Ext W3, x.1.cell? ⟨w.heap.size, 4, none⟩ = some (vp) := fun x => (HBl.out.ext x) 4 _ rfl
  have l5 : ∀ x : Ext W3, x.1.cell? ⟨w.heap.size, 5, none⟩ = some (vr) := fun x => (HBl.out.ext x) 5 _ rfl
  have v0 : ∀ x : Ext W3, x.1.cell? ⟨w.heap.size + 1, 0, none⟩ = some (.int .i64 v.n) := fun x => (HBv.out.ext x) 0 _ rfl
  have v1 : ∀ x : Ext W3, x.1.cell? ⟨w.heap.size + 1, 1, none⟩ = some (un) := fun x => (HBv.out.ext x) 1 _ rfl
  have v2 : ∀ x : Ext W3, x.1.cell? ⟨w.heap.size + 1, 2, none⟩ = some (up) := fun x => (HBv.out.ext x) 2 _ rfl
  have v3 : ∀ x : Ext W3, x.1.cell? ⟨w.heap.size + 1, 3, none⟩ = some (ue) := fun x => (HBv.out.ext x) 3 _ rfl
  have b0 : ∀ x : Ext W3, x.1.cell? ⟨N, 0, none⟩ = some (.int .i64 b.n) := fun x => (HBb.out.ext x) 0 _ rfl
  have b1 : ∀ x : Ext W3, x.1.cell? ⟨N, 1, none⟩ = some (.slice ban b.names.length bcn) := fun x => (HBb.out.ext x) 1 _ rfl
  have b2 : ∀ x : Ext W3, x.1.cell? ⟨N, 2, none⟩ = some (.slice bap b.parts.length bcp) := fun x => (HBb.out.ext x) 2 _ rfl
  have b3 : ∀ x : Ext W3, x.1.cell? ⟨N, 3, none⟩ = some (.slice bae b.entries.length bce) := fun x => (HBb.out.ext x) 3 _ rfl
  replace HCK := hid (ext_of HB.out HCK.out)
  have HAW := hid (ext_of HB.out HAW0.out)
  have HIV1 := hid (ext_of HB.out HIV.out)
  have HVX : Hid (∀ x : Ext W3, valRd x.1 b [.int .i64 b.n, .slice ban b.names.length bcn, .slice bap b.parts.length bcp, .slice bae b.entries.length bce]) := hid fun x => valRd.below x.2 _ _ HVB.out
  refine (HCK.out _).mono ?_
  rintro e _ ⟨rfl, x1, rfl⟩
  clear HCK x0
  by_cases h0 : CE = 0
  · obtain ⟨rfl, h1, h2, h3⟩ := HOK.out h0
    have HV := hid h1
    have HI := hid h2
    have HD := hid h3
    subst h0
    have HIB1 : Hid (∀ x : Ext W3, Calls Tryz.prog 32 #[.agg #[.int .i64 l.kind, .int .i64 l.lo, .int .i64 l.hi, vn, vp, vr], .agg #[.int .i64 b.n, .slice ban b.names.length bcn, .slice bap b.parts.length bcp, .slice bae b.entries.length bce]] x.1 fun e w' => e = .returned (.bool true) ∧ ∃ y : Ext W3, w' = y.1) := hid fun x => ext_call x (by rw [← HI.out]; exact HIB.out x.1 _ (HB.out x) (HVX.out x))
    have HRI1 : Hid (∀ x : Ext W3, Calls Tryz.prog 34 #[.agg #[.int .i64 l.kind, .int .i64 l.lo, .int .i64 l.hi, vn, vp, vr], .agg #[.int .i64 b.n, .slice ban b.names.length bcn, .slice bap b.parts.length bcp, .slice bae b.entries.length bce]] x.1 fun e w' => e = .returned (.bool true) ∧ ∃ y : Ext W3, w' = y.1) := hid fun x => ext_call x (by rw [← HI.out]; exact HRI.out x.1 _ (HB.out x) (HVX.out x))
    have HRV1 : Hid (∀ x : Ext W3, Calls Tryz.prog 16 #[.agg #[.int .i64 l.kind, .int .i64 l.lo, .int .i64 l.hi, vn, vp, vr], .agg #[.int .i64 b.n, .slice ban b.names.length bcn, .slice bap b.parts.length bcp, .slice bae b.entries.length bce]] x.1 fun e w' => e = .returned (.bool true) ∧ ∃ y : Ext W3, w' = y.1) := hid fun x => ext_call x (by rw [← HV.out]; exact HRV.out x.1 _ (HB.out x) (HVX.out x))
    have HRE1 : Hid (∀ x : Ext W3, Calls Tryz.prog 19 #[.agg #[.int .i64 v.n, un, up, ue], .agg #[.int .i64 b.n, .slice ban b.names.length bcn, .slice bap b.parts.length bcp, .slice bae b.entries.length bce]] x.1 fun e w' => e = .returned (.bool (isBotB l v)) ∧ ∃ y : Ext W3, w' = y.1) := hid fun x => ext_call x (by rw [HD.out]; exact HRE.out x.1 _ (HB.out x) (HVX.out x))
    clear h1 h2 h3 HV HI HD HOK HNO HIB HRI HRV HRE HRZ HIV
    generalize isBotB l v = D at HRE1 HIV1
    go_wp2_with fail
    refine wp_region_ext2 _ (by kernel_rfl) (by kernel_rfl) ?_
    repeat (go_big_quiet_step (with_reducible first | exact HAW.out _ | exact HRV1.out _ | exact HIB1.out _ | exact HIV1.out _ | exact HRE1.out _ | exact HRI1.out _))
    refine wpQuiet_nil ?_
    rintro _ ⟨x5, rfl⟩
    go_wp2_with fail
    go_ret
    exact ⟨rfl, HB.out _⟩
  · obtain ⟨rfl, h1, h2⟩ := HNO.out h0
    have hz : (CE != 0) = true := by rw [bne_iff_ne]; exact h0
    have HRZ1 : Hid (∀ x : Ext W3, Calls Tryz.prog 19 #[.agg #[.int .i64 b.n, .slice ban b.names.length bcn, .slice bap b.parts.length bcp, .slice bae b.entries.length bce], .agg #[.int .i64 0, .slice none 0 0, .slice none 0 0, .slice none 0 0]] x.1 fun e w' => e = .returned (.bool true) ∧ ∃ y : Ext W3, w' = y.1) := hid fun x => ext_call x (by rw [← h1]; exact HRZ.out x.1 _ (HB.out x) (HVX.out x))
    rw [h2] at HIV1
    clear h0 h1 h2 HOK HNO HIB HRI HRV HRE HRZ HIV
    go_wp2_with fail
    refine (HAW.out _).mono ?_
    rintro e _ ⟨rfl, x2, rfl⟩
    go_wp2_with fail
    refine (HRZ1.out _).mono ?_
    rintro e _ ⟨rfl, x3, rfl⟩
    go_wp2_with fail
    refine (HIV1.out _).mono ?_
    rintro e _ ⟨rfl, x4, rfl⟩
    go_wp2_with fail
    go_ret
    exact ⟨rfl, HB.out _⟩
end Go.Proofs.YtmdjnaobllajmaaGreatDoor
