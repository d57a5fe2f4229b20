/-
  The walk of 'ValueOrder'.
-/
import Derived.Test.YtmdjnaobllajmaaGreatDoorM21
set_option linter.unusedVariables false
set_option linter.unusedSimpArgs false
namespace Go.Proofs.YtmdjnaobllajmaaGreatDoor
open Go.RowKit

set_option maxRecDepth 100000 in
set_option maxHeartbeats 4000000 in
theorem valueOrder_walk (a b c : Val) (ca cb cc : List Value) (w : World) (ha : valRd w a ca) (hb : valRd w b cb) (hc : valRd w c cc) (ht : Tab w) :
    Calls Tryz.prog 5 #[.agg ca.toArray, .agg cb.toArray, .agg cc.toArray] w fun e w' => e = .returned (.bool true) ∧ Below w.heap.size w w' := by
  have HSa : Hid (∀ W, Below w.heap.size w W → Calls Tryz.prog 13 #[.agg ca.toArray, .int .i64 60] W fun e w' => e = .returned (.bool (decide (nodesN a ≤ 60))) ∧ Below W.heap.size W w') := hid fun W h => small_ref a ca 60 W (valRd.below h _ _ ha) (by decide)
  have HSb : Hid (∀ W, Below w.heap.size w W → Calls Tryz.prog 13 #[.agg cb.toArray, .int .i64 60] W fun e w' => e = .returned (.bool (decide (nodesN b ≤ 60))) ∧ Below W.heap.size W w') := hid fun W h => small_ref b cb 60 W (valRd.below h _ _ hb) (by decide)
  have HSc : Hid (∀ W, Below w.heap.size w W → Calls Tryz.prog 13 #[.agg cc.toArray, .int .i64 60] W fun e w' => e = .returned (.bool (decide (nodesN c ≤ 60))) ∧ Below W.heap.size W w') := hid fun W h => small_ref c cc 60 W (valRd.below h _ _ hc) (by decide)
  have HAB : Hid (∀ W, Below w.heap.size w W → Calls Tryz.prog 20 #[.agg ca.toArray, .agg cb.toArray] W fun e w' => e = .returned (.int .i64 (valC a b)) ∧ Below W.heap.size W w') := hid fun W h => compare_any _ a b ca cb W (Nat.le_refl _) (valRd.below h _ _ ha) (valRd.below h _ _ hb)
  have HBC : Hid (∀ W, Below w.heap.size w W → Calls Tryz.prog 20 #[.agg cb.toArray, .agg cc.toArray] W fun e w' => e = .returned (.int .i64 (valC b c)) ∧ Below W.heap.size W w') := hid fun W h => compare_any _ b c cb cc W (Nat.le_refl _) (valRd.below h _ _ hb) (valRd.below h _ _ hc)
  have HAC : Hid (∀ W, Below w.heap.size w W → Calls Tryz.prog 20 #[.agg ca.toArray, .agg cc.toArray] W fun e w' => e = .returned (.int .i64 (valC a c)) ∧ Below W.heap.size W w') := hid fun W h => compare_any _ a c ca cc W (Nat.le_refl _) (valRd.below h _ _ ha) (valRd.below h _ _ hc)
  have HBA : Hid (∀ W, Below w.heap.size w W → Calls Tryz.prog 20 #[.agg cb.toArray, .agg ca.toArray] W fun e w' => e = .returned (.int .i64 (valC b a)) ∧ Below W.heap.size W w') := hid fun W h => compare_any _ b a cb ca W (Nat.le_refl _) (valRd.below h _ _ hb) (valRd.below h _ _ ha)
  have HAA : Hid (∀ W, Below w.heap.size w W → Calls Tryz.prog 20 #[.agg ca.toArray, .agg ca.toArray] W fun e w' => e = .returned (.int .i64 (valC a a)) ∧ Below W.heap.size W w') := hid fun W h => compare_any _ a a ca ca W (Nat.le_refl _) (valRd.below h _ _ ha) (valRd.below h _ _ ha)
  have HRAB : Hid (∀ W, Below w.heap.size w W → Calls Tryz.prog 21 #[.agg ca.toArray, .agg cb.toArray] W fun e w' => e = .returned (.int .i64 (valC a b)) ∧ Below W.heap.size W w') := hid fun W h => rCompare_any _ a b ca cb W (Nat.le_refl _) (valRd.below h _ _ ha) (valRd.below h _ _ hb)
  have HEQ : Hid (∀ W, Below w.heap.size w W → Calls Tryz.prog 22 #[.agg ca.toArray, .agg cb.toArray] W fun e w' => e = .returned (.bool (decide (valC a b = 0))) ∧ Below W.heap.size W w') := hid fun W h => equal_any a b ca cb W (valRd.below h _ _ ha) (valRd.below h _ _ hb)
  have HAW : Hid (∀ W, Below w.heap.size w W → Calls Tryz.prog 14 #[] W fun e w' => e = .returned (.bool true) ∧ Below W.heap.size W w') := hid fun W h => awake_any W (ht.below h)
  obtain ⟨uan, uap, uae, rfl, gai, gan, gap, gae⟩ := (valRd_iff _ _ _).1 ha
  obtain ⟨ban, dan, rfl, _, nan⟩ := gan.shape
  obtain ⟨bap, dap, rfl, _, nap⟩ := gap.shape
  obtain ⟨bae, dae, rfl, _, nae⟩ := gae.shape
  obtain ⟨ubn, ubp, ube, rfl, gbi, gbn, gbp, gbe⟩ := (valRd_iff _ _ _).1 hb
  obtain ⟨bbn, dbn, rfl, _, nbn⟩ := gbn.shape
  obtain ⟨bbp, dbp, rfl, _, nbp⟩ := gbp.shape
  obtain ⟨bbe, dbe, rfl, _, nbe⟩ := gbe.shape
  obtain ⟨ucn, ucp, uce, rfl, gci, gcn, gcp, gce⟩ := (valRd_iff _ _ _).1 hc
  obtain ⟨bcn, dcn, rfl, _, ncn⟩ := gcn.shape
  obtain ⟨bcp, dcp, rfl, _, ncp⟩ := gcp.shape
  obtain ⟨bce, dce, rfl, _, nce⟩ := gce.shape
  clear ha hb hc ht gai gan gap gae gbi gbn gbp gbe gci gcn gcp gce
  obtain ⟨X, Y, Z, e1, e2, e3, e4, ⟨M, e5, e6⟩, e7, r1, r2, r3, ho⟩ := ord_fact a b c
  rw [e7] at HEQ
  rw [e1] at HAB HRAB
  rw [e2] at HBC
  rw [e3] at HAC
  rw [e4] at HAA
  rw [e5] at HBA
  have HO : Hid (R3 X ∧ R3 Y ∧ R3 Z ∧ (X > 0 ∨ Y > 0 ∨ (Z ≤ 0 ∧ (Z < 0 ∨ (X = 0 ∧ Y = 0))))) := hid ⟨r1, r2, r3, ho⟩
  clear e1 e2 e3 e4 e5 e7 r1 r2 r3 ho
  generalize decide (nodesN a ≤ 60) = Sa at HSa
  generalize decide (nodesN b ≤ 60) = Sb at HSb
  generalize decide (nodesN c ≤ 60) = Sc at HSc
  have HB : Hid (∀ x : Ext (((w.alloc (.cells #[.int .i64 a.n, .slice ban a.names.length dan, .slice bap a.parts.length dap, .slice bae a.entries.length dae] 30)).alloc (.cells #[.int .i64 b.n, .slice bbn b.names.length dbn, .slice bbp b.parts.length dbp, .slice bbe b.entries.length dbe] 30)).alloc (.cells #[.int .i64 c.n, .slice bcn c.names.length dcn, .slice bcp c.parts.length dcp, .slice bce c.entries.length dce] 30)), Below w.heap.size w x.1) := hid fun x => ((((Below.refl _ _).alloc (Nat.le_refl _) _).alloc (by simp) _).alloc (by simp; omega) _).trans (x.2.mono (by simp; omega))
  have HX := hid fun x => three_boxes w #[.int .i64 a.n, .slice ban a.names.length dan, .slice bap a.parts.length dap, .slice bae a.entries.length dae] #[.int .i64 b.n, .slice bbn b.names.length dbn, .slice bbp b.parts.length dbp, .slice bbe b.entries.length dbe] #[.int .i64 c.n, .slice bcn c.names.length dcn, .slice bcp c.parts.length dcp, .slice bce c.entries.length dce] 30 30 30 x
  go_enter Tryz.func5, Tryz.ntmps5
  go_wp2_with fail
  generalize ((w.alloc (.cells #[.int .i64 a.n, .slice ban a.names.length dan, .slice bap a.parts.length dap, .slice bae a.entries.length dae] 30)).alloc (.cells #[.int .i64 b.n, .slice bbn b.names.length dbn, .slice bbp b.parts.length dbp, .slice bbe b.entries.length dbe] 30)).alloc (.cells #[.int .i64 c.n, .slice bcn c.names.length dcn, .slice bcp c.parts.length dcp, .slice bce c.entries.length dce] 30) = W3 at HB HX ⊢
  obtain ⟨x0, hx⟩ := ext_self W3
  rw [hx]
  clear hx
  replace HSa := hid (ext_of HB.out HSa.out)
  replace HSb := hid (ext_of HB.out HSb.out)
  replace HSc := hid (ext_of HB.out HSc.out)
  replace HAB := hid (ext_of HB.out HAB.out)
  replace HBC := hid (ext_of HB.out HBC.out)
  replace HAC := hid (ext_of HB.out HAC.out)
  replace HBA := hid (ext_of HB.out HBA.out)
  replace HAA := hid (ext_of HB.out HAA.out)
  replace HRAB := hid (ext_of HB.out HRAB.out)
  replace HEQ := hid (ext_of HB.out HEQ.out)
  replace HAW := hid (ext_of HB.out HAW.out)
  have a0 : ∀ x : Ext W3, x.1.cell? ⟨w.heap.size, 0, none⟩ = some (.int .i64 a.n) := fun x => (HX.out x).1 0 _ rfl
  have a1 : ∀ x : Ext W3, x.1.cell? ⟨w.heap.size, 1, none⟩ = some (.slice ban a.names.length dan) := fun x => (HX.out x).1 1 _ rfl
  have a2 : ∀ x : Ext W3, x.1.cell? ⟨w.heap.size, 2, none⟩ = some (.slice bap a.parts.length dap) := fun x => (HX.out x).1 2 _ rfl
  have a3 : ∀ x : Ext W3, x.1.cell? ⟨w.heap.size, 3, none⟩ = some (.slice bae a.entries.length dae) := fun x => (HX.out x).1 3 _ rfl
  have b0 : ∀ x : Ext W3, x.1.cell? ⟨w.heap.size + 1, 0, none⟩ = some (.int .i64 b.n) := fun x => (HX.out x).2.1 0 _ rfl
  have b1 : ∀ x : Ext W3, x.1.cell? ⟨w.heap.size + 1, 1, none⟩ = some (.slice bbn b.names.length dbn) := fun x => (HX.out x).2.1 1 _ rfl
  have b2 : ∀ x : Ext W3, x.1.cell? ⟨w.heap.size + 1, 2, none⟩ = some (.slice bbp b.parts.length dbp) := fun x => (HX.out x).2.1 2 _ rfl
  have b3 : ∀ x : Ext W3, x.1.cell? ⟨w.heap.size + 1, 3, none⟩ = some (.slice bbe b.entries.length dbe) := fun x => (HX.out x).2.1 3 _ rfl
  have c0 : ∀ x : Ext W3, x.1.cell? ⟨w.heap.size + 1 + 1, 0, none⟩ = some (.int .i64 c.n) := fun x => (HX.out x).2.2 0 _ rfl
  have c1 : ∀ x : Ext W3, x.1.cell? ⟨w.heap.size + 1 + 1, 1, none⟩ = some (.slice bcn c.names.length dcn) := fun x => (HX.out x).2.2 1 _ rfl
  have c2 : ∀ x : Ext W3, x.1.cell? ⟨w.heap.size + 1 + 1, 2, none⟩ = some (.slice bcp c.parts.length dcp) := fun x => (HX.out x).2.2 2 _ rfl
  have c3 : ∀ x : Ext W3, x.1.cell? ⟨w.heap.size + 1 + 1, 3, none⟩ = some (.slice bce c.entries.length dce) := fun x => (HX.out x).2.2 3 _ rfl
  refine ((HSa.out _)).mono ?_
  rintro e _ ⟨rfl, x, rfl⟩
  cases Sa
  · go_wp2_with fail
    refine ((HAW.out _)).mono ?_
    rintro e _ ⟨rfl, x, rfl⟩
    go_wp2_with fail
    go_ret
    exact ⟨rfl, HB.out _⟩
  go_wp2_with fail
  refine ((HSb.out _)).mono ?_
  rintro e _ ⟨rfl, x, rfl⟩
  cases Sb
  · go_wp2_with fail
    refine ((HAW.out _)).mono ?_
    rintro e _ ⟨rfl, x, rfl⟩
    go_wp2_with fail
    go_ret
    exact ⟨rfl, HB.out _⟩
  go_wp2_with fail
  refine ((HSc.out _)).mono ?_
  rintro e _ ⟨rfl, x, rfl⟩
  cases Sc
  · go_wp2_with fail
    refine ((HAW.out _)).mono ?_
    rintro e _ ⟨rfl, x, rfl⟩
    go_wp2_with fail
    go_ret
    exact ⟨rfl, HB.out _⟩
  go_wp2_with fail
  refine wp_region_ext2 _ (by kernel_rfl) (by kernel_rfl) ?_
  repeat (go_big_quiet_step (first | (go_at_call 20; with_reducible first | exact HAB.out _ | exact HBC.out _ | exact HAC.out _)))
  refine wpQuiet_nil ?_
  rintro _ ⟨x5, rfl⟩
  go_wp2_with fail
  refine ((HRAB.out _)).mono ?_
  rintro e _ ⟨rfl, x, rfl⟩
  go_wp2_with fail
  refine ((HBA.out _)).mono ?_
  rintro e _ ⟨rfl, x, rfl⟩
  go_wp2_with fail
  refine ((HEQ.out _)).mono ?_
  rintro e _ ⟨rfl, x, rfl⟩
  go_wp2_with fail
  refine ((HAA.out _)).mono ?_
  rintro e _ ⟨rfl, x, rfl⟩
  go_wp2_with fail
  refine ((HAW.out _)).mono ?_
  rintro e _ ⟨rfl, z, rfl⟩
  obtain ⟨r1, r2, r3, ho⟩ := HO.out
  clear HO e6
  rcases r1 with rfl | rfl | rfl <;> rcases r2 with rfl | rfl | rfl <;> rcases r3 with rfl | rfl | rfl <;> first
    | (exfalso; omega)
    | (clear ho
       go_wp2_with fail
       go_ret
       exact ⟨rfl, HB.out _⟩)
end Go.Proofs.YtmdjnaobllajmaaGreatDoor
