/-
  The walk of 'ValuePrefix'.
-/
import Derived.Test.YtmdjnaobllajmaaGreatDoorM21
import Derived.Test.YtmdjnaobllajmaaGreatDoorWPSize
import Derived.Test.YtmdjnaobllajmaaGreatDoorM15
import Derived.Test.YtmdjnaobllajmaaGreatDoorM12
set_option linter.unusedVariables false
set_option linter.unusedSimpArgs false
namespace Go.Proofs.YtmdjnaobllajmaaGreatDoor
open Go.RowKit

theorem Ext.trans_ {W u : World} (x : Ext W) (h : Below x.1.heap.size x.1 u) : Below W.heap.size W u := x.2.trans (h.mono x.2.size)
theorem enc_code (l : Lat) (v : Val) : (encodeE l v).2 = 1 ∨ (encodeE l v).2 = 4 ∨ ((encodeE l v).2 = 0 ∧ chkE l = 0 ∧ elemB l v = true ∧ (encodeE l v).1 = putV l v) := by
  unfold encodeE
  by_cases h1 : chkE l ≠ 0
  · rw [if_pos h1]; exact .inl rfl
  · rw [if_neg h1]
    cases h2 : elemB l v
    · exact .inr (.inl rfl)
    · exact .inr (.inr ⟨rfl, Decidable.of_not_not h1, rfl, rfl⟩)
theorem pre_one {l : Lat} {v u : Val} (h : chkE l = 0) (hv : elemB l v = true) (hu : elemB l u = true) (sv : nodesN v ≤ 60) : (putV l u).length ≤ (putV l v).length → (putV l v).take (putV l u).length = putV l u → v = u := fun h1 h2 => by
  have h3 : putV l v = putV l u ++ (putV l v).drop (putV l u).length := by
    conv => lhs; rw [← List.take_append_drop (putV l u).length (putV l v), h2]
  exact putV_prefix h hv hu h3 (by have := put_small sv h hv; omega)
/-- Cut to the length of the shorter, two encodings are alike exactly if the elements are. -/
theorem pre_fact {l : Lat} {v u : Val} (h : chkE l = 0) (hv : elemB l v = true) (hu : elemB l u = true) (sv : nodesN v ≤ 60) (su : nodesN u ≤ 60) :
    ((putV l u).length ≤ (putV l v).length → decide ((putV l v).take (putV l u).length = (putV l u).take (putV l u).length) = decide (valC v u = 0)) ∧
    ((putV l v).length ≤ (putV l u).length → decide ((putV l v).take (putV l v).length = (putV l u).take (putV l v).length) = decide (valC v u = 0)) := by
  refine ⟨fun hl => ?_, fun hl => ?_⟩
  · refine decide_eq_decide.2 ?_
    rw [List.take_length, valC_zero]
    exact ⟨fun h1 => pre_one h hv hu sv hl h1, fun e => by subst e; exact List.take_length⟩
  · refine decide_eq_decide.2 ?_
    rw [List.take_length, valC_zero]
    exact ⟨fun h1 => (pre_one h hu hv su hl h1.symm).symm, fun e => by subst e; exact List.take_length.symm⟩
theorem run_slice_to (W : World) (a : Option Addr) (len cap k : Nat) (hk : k ≤ cap) : (Instr.slice 46 (.slice a len cap) none (some (.int .i64 (k : Int))) none).run Tryz.prog W = .ok (.slice a k cap) W := by
  have ht' : Tryz.prog.underlying 46 = some (.slice (Tryz.prog.elem 46)) := by simp [Program.elem, Tryz.underlying46]
  have he : Tryz.prog.elem 46 = 5 := by simp [Program.elem, Tryz.underlying46]
  rw [run_slice_h W 46 a _ _ ht' .i64 _ (by omega) (by omega), he, size_u8]
  cases a <;> simp [Result.andThen, sliced, Addr.add]
theorem SlRd.to {α : Type} {w : World} {sz : Nat} {R : α → List Value → Prop} {a : Option Addr} {n cap : Nat} {l : List α} (h : SlRd w sz R (.slice a n cap) l) (k : Nat) (hk : k ≤ l.length) : SlRd w sz R (.slice a k cap) (l.take k) := by
  obtain ⟨a', cap', hv, hn, hm, hc⟩ := h
  cases hv
  have hl : (l.take k).length = k := by rw [List.length_take]; omega
  refine ⟨a, cap, by rw [hl], ⟨hn.1, by omega⟩, hm, fun i hi => ?_⟩
  obtain ⟨b, o, cs, h1, h2, h3, h4⟩ := hc i (by omega)
  exact ⟨b, o, cs, h1, h2, h3, by rw [List.getElem_take]; exact h4⟩

set_option maxRecDepth 100000 in
set_option maxHeartbeats 4000000 in
theorem valuePrefix_walk (l : Lat) (v u : Val) (cl cv cu : List Value) (w : World) (hl : latRd w l cl) (hv : valRd w v cv) (hu : valRd w u cu) (ht : Tab w) :
    Calls Tryz.prog 9 #[.agg cl.toArray, .agg cv.toArray, .agg cu.toArray] w fun e w' => e = .returned (.bool true) ∧ Below w.heap.size w w' := by
  have HSv : Hid (∀ W, Below w.heap.size w W → Calls Tryz.prog 13 #[.agg cv.toArray, .int .i64 60] W fun e w' => e = .returned (.bool (decide (nodesN v ≤ 60))) ∧ Below W.heap.size W w') := hid fun W h => small_ref v cv 60 W (valRd.below h _ _ hv) (by decide)
  have HSu : Hid (∀ W, Below w.heap.size w W → Calls Tryz.prog 13 #[.agg cu.toArray, .int .i64 60] W fun e w' => e = .returned (.bool (decide (nodesN u ≤ 60))) ∧ Below W.heap.size W w') := hid fun W h => small_ref u cu 60 W (valRd.below h _ _ hu) (by decide)
  have HEv : Hid (nodesN v ≤ 60 → ∀ W, Below w.heap.size w W → Calls Tryz.prog 24 #[.agg cl.toArray, .agg cv.toArray] W (BytesEPost W (encodeE l v))) := hid fun hs W h => Encode_any l v cl cv W (latRd.below h _ _ hl) (valRd.below h _ _ hv) (fun h1 h2 => Nat.le_trans (put_small hs h1 h2) (by decide))
  have HEu : Hid (nodesN u ≤ 60 → ∀ W, Below w.heap.size w W → Calls Tryz.prog 24 #[.agg cl.toArray, .agg cu.toArray] W (BytesEPost W (encodeE l u))) := hid fun hs W h => Encode_any l u cl cu W (latRd.below h _ _ hl) (valRd.below h _ _ hu) (fun h1 h2 => Nat.le_trans (put_small hs h1 h2) (by decide))
  have HRE : Hid (∀ W, Below w.heap.size w W → Calls Tryz.prog 19 #[.agg cv.toArray, .agg cu.toArray] W fun e w' => e = .returned (.bool (decide (valC v u = 0))) ∧ Below W.heap.size W w') := hid fun W h => rEqual_any v u cv cu W (valRd.below h _ _ hv) (valRd.below h _ _ hu)
  have HAW0 : Hid (∀ W, Below w.heap.size w W → Calls Tryz.prog 14 #[] W fun e w' => e = .returned (.bool true) ∧ Below W.heap.size W w') := hid fun W h => awake_any W (ht.below h)
  have HAW := HAW0
  have HF : Hid (nodesN v ≤ 60 → nodesN u ≤ 60 → chkE l = 0 → elemB l v = true → elemB l u = true → _) := hid fun sv su h1 h2 h3 => pre_fact h1 h2 h3 sv su
  have HC1 := hid (enc_code l v)
  have HC2 := hid (enc_code l u)
  generalize decide (valC v u = 0) = D at HRE HF
  obtain ⟨vln, vlp, vlr, rfl, hli, hln, hlp, hlr⟩ := (latRd_iff _ _ _).1 hl
  obtain ⟨aln, cln, rfl, _, mln⟩ := hln.shape
  obtain ⟨alp, clp, rfl, _, mlp⟩ := hlp.shape
  obtain ⟨alr, clr, rfl, _, mlr⟩ := hlr.shape
  obtain ⟨uan, uap, uae, rfl, gai, gan, gap, gae⟩ := (valRd_iff _ _ _).1 hv
  obtain ⟨ban, dan, rfl, _, nan⟩ := gan.shape
  obtain ⟨bap, dap, rfl, _, nap⟩ := gap.shape
  obtain ⟨bae, dae, rfl, _, nae⟩ := gae.shape
  obtain ⟨ubn, ubp, ube, rfl, gbi, gbn, gbp, gbe⟩ := (valRd_iff _ _ _).1 hu
  obtain ⟨bbn, dbn, rfl, _, nbn⟩ := gbn.shape
  obtain ⟨bbp, dbp, rfl, _, nbp⟩ := gbp.shape
  obtain ⟨bbe, dbe, rfl, _, nbe⟩ := gbe.shape
  clear hl hv hu ht hli hln hlp hlr gai gan gap gae gbi gbn gbp gbe
  have HNV : Hid (∀ b, decide (nodesN v ≤ 60) = b → b = true → nodesN v ≤ 60) := hid fun b h1 h2 => of_decide_eq_true (h1.trans h2)
  have HNU : Hid (∀ b, decide (nodesN u ≤ 60) = b → b = true → nodesN u ≤ 60) := hid fun b h1 h2 => of_decide_eq_true (h1.trans h2)
  generalize hSv : decide (nodesN v ≤ 60) = Sv at HSv
  generalize hSu : decide (nodesN u ≤ 60) = Su at HSu
  replace HNV := hid (HNV.out _ hSv)
  replace HNU := hid (HNU.out _ hSu)
  clear hSv hSu
  generalize encodeE l v = E1 at HEv HC1
  generalize encodeE l u = E2 at HEu HC2
  obtain ⟨BV, e1⟩ := E1
  obtain ⟨BU, e2⟩ := E2
  simp only at HC1 HC2
  have HB : Hid (∀ x : Ext (((w.alloc (.cells #[.int .i64 l.kind, .int .i64 l.lo, .int .i64 l.hi, .slice aln l.names.length cln, .slice alp l.parts.length clp, .slice alr l.rules.length clr] 26)).alloc (.cells #[.int .i64 v.n, .slice ban v.names.length dan, .slice bap v.parts.length dap, .slice bae v.entries.length dae] 30)).alloc (.cells #[.int .i64 u.n, .slice bbn u.names.length dbn, .slice bbp u.parts.length dbp, .slice bbe u.entries.length dbe] 30)), Below w.heap.size w x.1) := hid fun x => ((((Below.refl _ _).alloc (Nat.le_refl _) _).alloc (by simp) _).alloc (by simp; omega) _).trans (x.2.mono (by simp; omega))
  have HX := hid fun x => three_boxes w #[.int .i64 l.kind, .int .i64 l.lo, .int .i64 l.hi, .slice aln l.names.length cln, .slice alp l.parts.length clp, .slice alr l.rules.length clr] #[.int .i64 v.n, .slice ban v.names.length dan, .slice bap v.parts.length dap, .slice bae v.entries.length dae] #[.int .i64 u.n, .slice bbn u.names.length dbn, .slice bbp u.parts.length dbp, .slice bbe u.entries.length dbe] 26 30 30 x
  go_enter Tryz.func9, Tryz.ntmps9
  go_wp2_with fail
  generalize ((w.alloc (.cells #[.int .i64 l.kind, .int .i64 l.lo, .int .i64 l.hi, .slice aln l.names.length cln, .slice alp l.parts.length clp, .slice alr l.rules.length clr] 26)).alloc (.cells #[.int .i64 v.n, .slice ban v.names.length dan, .slice bap v.parts.length dap, .slice bae v.entries.length dae] 30)).alloc (.cells #[.int .i64 u.n, .slice bbn u.names.length dbn, .slice bbp u.parts.length dbp, .slice bbe u.entries.length dbe] 30) = W3 at HB HX ⊢
  obtain ⟨x0, hx⟩ := ext_self W3
  rw [hx]
  clear hx
  replace HSv := hid (ext_of HB.out HSv.out)
  replace HSu := hid (ext_of HB.out HSu.out)
  replace HAW := hid (ext_of HB.out HAW.out)
  have l0 : ∀ x : Ext W3, x.1.cell? ⟨w.heap.size, 0, none⟩ = some (.int .i64 l.kind) := fun x => (HX.out x).1 0 _ rfl
  have l1 : ∀ x : Ext W3, x.1.cell? ⟨w.heap.size, 1, none⟩ = some (.int .i64 l.lo) := fun x => (HX.out x).1 1 _ rfl
  have l2 : ∀ x : Ext W3, x.1.cell? ⟨w.heap.size, 2, none⟩ = some (.int .i64 l.hi) := fun x => (HX.out x).1 2 _ rfl
  have l3 : ∀ x : Ext W3, x.1.cell? ⟨w.heap.size, 3, none⟩ = some (.slice aln l.names.length cln) := fun x => (HX.out x).1 3 _ rfl
  have l4 : ∀ x : Ext W3, x.1.cell? ⟨w.heap.size, 4, none⟩ = some (.slice alp l.parts.length clp) := fun x => (HX.out x).1 4 _ rfl
  have l5 : ∀ x : Ext W3, x.1.cell? ⟨w.heap.size, 5, none⟩ = some (.slice alr l.rules.length clr) := fun x => (HX.out x).1 5 _ rfl
  have a0 : ∀ x : Ext W3, x.1.cell? ⟨w.heap.size + 1, 0, none⟩ = some (.int .i64 v.n) := fun x => (HX.out x).2.1 0 _ rfl
  have a1 : ∀ x : Ext W3, x.1.cell? ⟨w.heap.size + 1, 1, none⟩ = some (.slice ban v.names.length dan) := fun x => (HX.out x).2.1 1 _ rfl
  have a2 : ∀ x : Ext W3, x.1.cell? ⟨w.heap.size + 1, 2, none⟩ = some (.slice bap v.parts.length dap) := fun x => (HX.out x).2.1 2 _ rfl
  have a3 : ∀ x : Ext W3, x.1.cell? ⟨w.heap.size + 1, 3, none⟩ = some (.slice bae v.entries.length dae) := fun x => (HX.out x).2.1 3 _ rfl
  have b0 : ∀ x : Ext W3, x.1.cell? ⟨w.heap.size + 1 + 1, 0, none⟩ = some (.int .i64 u.n) := fun x => (HX.out x).2.2 0 _ rfl
  have b1 : ∀ x : Ext W3, x.1.cell? ⟨w.heap.size + 1 + 1, 1, none⟩ = some (.slice bbn u.names.length dbn) := fun x => (HX.out x).2.2 1 _ rfl
  have b2 : ∀ x : Ext W3, x.1.cell? ⟨w.heap.size + 1 + 1, 2, none⟩ = some (.slice bbp u.parts.length dbp) := fun x => (HX.out x).2.2 2 _ rfl
  have b3 : ∀ x : Ext W3, x.1.cell? ⟨w.heap.size + 1 + 1, 3, none⟩ = some (.slice bbe u.entries.length dbe) := fun x => (HX.out x).2.2 3 _ rfl
  refine ((HSv.out _)).mono ?_
  rintro e _ ⟨rfl, x, rfl⟩
  cases Sv
  · go_wp2_with fail
    refine ((HAW.out _)).mono ?_
    rintro e _ ⟨rfl, x, rfl⟩
    go_wp2_with fail
    go_ret
    exact ⟨rfl, HB.out _⟩
  go_wp2_with fail
  refine ((HSu.out _)).mono ?_
  rintro e _ ⟨rfl, x, rfl⟩
  cases Su
  · go_wp2_with fail
    refine ((HAW.out _)).mono ?_
    rintro e _ ⟨rfl, x, rfl⟩
    go_wp2_with fail
    go_ret
    exact ⟨rfl, HB.out _⟩
  have HN1 : Hid (nodesN v ≤ 60) := hid (HNV.out (by trivial))
  have HN2 : Hid (nodesN u ≤ 60) := hid (HNU.out (by trivial))
  go_wp2_with fail
  refine (HEv.out HN1.out _ (HB.out _)).mono ?_
  rintro e u1 ⟨r1, he, hr1, hb1⟩
  simp only at he hr1
  subst he
  obtain ⟨ra, rc, rfl⟩ := owns_shape hr1
  have HR1 : Hid (SlRd u1 1 byteRd (.slice ra BV.length rc) BV) := hid (bytes_owns hr1)
  have HK1 : Hid (Below W3.heap.size W3 u1) := hid (Ext.trans_ x hb1)
  have HU1 : Hid (Below w.heap.size w u1) := hid ((HB.out _).trans (hb1.mono (HB.out _).size))
  clear hr1 hb1 l0 l1 l2 l3 l4 l5 a0 a1 a2 a3 b0 b1 b2 b3 HAW HSv HSu HEv x
  replace HX := hid fun (x : Ext u1) => HX.out ⟨x.1, HK1.out.trans (x.2.mono HK1.out.size)⟩
  replace HB : Hid (∀ x : Ext u1, Below w.heap.size w x.1) := hid fun x => HU1.out.trans (x.2.mono HU1.out.size)
  clear HU1
  obtain ⟨x1, hx⟩ := ext_self u1
  rw [hx]
  clear hx
  have l0 : ∀ x : Ext u1, x.1.cell? ⟨w.heap.size, 0, none⟩ = some (.int .i64 l.kind) := fun x => (HX.out x).1 0 _ rfl
  have l1 : ∀ x : Ext u1, x.1.cell? ⟨w.heap.size, 1, none⟩ = some (.int .i64 l.lo) := fun x => (HX.out x).1 1 _ rfl
  have l2 : ∀ x : Ext u1, x.1.cell? ⟨w.heap.size, 2, none⟩ = some (.int .i64 l.hi) := fun x => (HX.out x).1 2 _ rfl
  have l3 : ∀ x : Ext u1, x.1.cell? ⟨w.heap.size, 3, none⟩ = some (.slice aln l.names.length cln) := fun x => (HX.out x).1 3 _ rfl
  have l4 : ∀ x : Ext u1, x.1.cell? ⟨w.heap.size, 4, none⟩ = some (.slice alp l.parts.length clp) := fun x => (HX.out x).1 4 _ rfl
  have l5 : ∀ x : Ext u1, x.1.cell? ⟨w.heap.size, 5, none⟩ = some (.slice alr l.rules.length clr) := fun x => (HX.out x).1 5 _ rfl
  have a0 : ∀ x : Ext u1, x.1.cell? ⟨w.heap.size + 1, 0, none⟩ = some (.int .i64 v.n) := fun x => (HX.out x).2.1 0 _ rfl
  have a1 : ∀ x : Ext u1, x.1.cell? ⟨w.heap.size + 1, 1, none⟩ = some (.slice ban v.names.length dan) := fun x => (HX.out x).2.1 1 _ rfl
  have a2 : ∀ x : Ext u1, x.1.cell? ⟨w.heap.size + 1, 2, none⟩ = some (.slice bap v.parts.length dap) := fun x => (HX.out x).2.1 2 _ rfl
  have a3 : ∀ x : Ext u1, x.1.cell? ⟨w.heap.size + 1, 3, none⟩ = some (.slice bae v.entries.length dae) := fun x => (HX.out x).2.1 3 _ rfl
  have b0 : ∀ x : Ext u1, x.1.cell? ⟨w.heap.size + 1 + 1, 0, none⟩ = some (.int .i64 u.n) := fun x => (HX.out x).2.2 0 _ rfl
  have b1 : ∀ x : Ext u1, x.1.cell? ⟨w.heap.size + 1 + 1, 1, none⟩ = some (.slice bbn u.names.length dbn) := fun x => (HX.out x).2.2 1 _ rfl
  have b2 : ∀ x : Ext u1, x.1.cell? ⟨w.heap.size + 1 + 1, 2, none⟩ = some (.slice bbp u.parts.length dbp) := fun x => (HX.out x).2.2 2 _ rfl
  have b3 : ∀ x : Ext u1, x.1.cell? ⟨w.heap.size + 1 + 1, 3, none⟩ = some (.slice bbe u.entries.length dbe) := fun x => (HX.out x).2.2 3 _ rfl
  go_wp2_with fail
  refine (HEu.out HN2.out _ (HB.out _)).mono ?_
  rintro e u2 ⟨r2, he, hr2, hb2⟩
  simp only at he hr2
  subst he
  obtain ⟨qa, qc, rfl⟩ := owns_shape hr2
  have HR2 : Hid (SlRd u2 1 byteRd (.slice qa BU.length qc) BU) := hid (bytes_owns hr2)
  have HK2 : Hid (Below u1.heap.size u1 u2) := hid (Ext.trans_ x1 hb2)
  have HU2 : Hid (Below w.heap.size w u2) := hid ((HB.out _).trans (hb2.mono (HB.out _).size))
  clear hr2 hb2 l0 l1 l2 l3 l4 l5 a0 a1 a2 a3 b0 b1 b2 b3 HEu x1
  replace HR1 : Hid (SlRd u2 1 byteRd (.slice ra BV.length rc) BV) := hid (SlRd.below HR1.out HK2.out fun _ _ _ h => h)
  replace HX := hid fun (x : Ext u2) => HX.out ⟨x.1, HK2.out.trans (x.2.mono HK2.out.size)⟩
  replace HB : Hid (∀ x : Ext u2, Below w.heap.size w x.1) := hid fun x => HU2.out.trans (x.2.mono HU2.out.size)
  clear HU2
  obtain ⟨x2, hx⟩ := ext_self u2
  rw [hx]
  clear hx
  have HAW := hid (ext_of HB.out HAW0.out)
  replace HRE := hid (ext_of HB.out HRE.out)
  have a0 : ∀ x : Ext u2, x.1.cell? ⟨w.heap.size + 1, 0, none⟩ = some (.int .i64 v.n) := fun x => (HX.out x).2.1 0 _ rfl
  have a1 : ∀ x : Ext u2, x.1.cell? ⟨w.heap.size + 1, 1, none⟩ = some (.slice ban v.names.length dan) := fun x => (HX.out x).2.1 1 _ rfl
  have a2 : ∀ x : Ext u2, x.1.cell? ⟨w.heap.size + 1, 2, none⟩ = some (.slice bap v.parts.length dap) := fun x => (HX.out x).2.1 2 _ rfl
  have a3 : ∀ x : Ext u2, x.1.cell? ⟨w.heap.size + 1, 3, none⟩ = some (.slice bae v.entries.length dae) := fun x => (HX.out x).2.1 3 _ rfl
  have b0 : ∀ x : Ext u2, x.1.cell? ⟨w.heap.size + 1 + 1, 0, none⟩ = some (.int .i64 u.n) := fun x => (HX.out x).2.2 0 _ rfl
  have b1 : ∀ x : Ext u2, x.1.cell? ⟨w.heap.size + 1 + 1, 1, none⟩ = some (.slice bbn u.names.length dbn) := fun x => (HX.out x).2.2 1 _ rfl
  have b2 : ∀ x : Ext u2, x.1.cell? ⟨w.heap.size + 1 + 1, 2, none⟩ = some (.slice bbp u.parts.length dbp) := fun x => (HX.out x).2.2 2 _ rfl
  have b3 : ∀ x : Ext u2, x.1.cell? ⟨w.heap.size + 1 + 1, 3, none⟩ = some (.slice bbe u.entries.length dbe) := fun x => (HX.out x).2.2 3 _ rfl
  have hcp : BV.length ≤ rc ∧ BU.length ≤ qc := ⟨(by obtain ⟨a, c, hv, hn, _⟩ := HR1.out; cases hv; exact hn.2), (by obtain ⟨a, c, hv, hn, _⟩ := HR2.out; cases hv; exact hn.2)⟩
  rcases HC1.out with rfl | rfl | ⟨rfl, h1, h2, h3⟩
  · go_wp2_with fail
    refine ((HAW.out _)).mono ?_
    rintro e _ ⟨rfl, x, rfl⟩
    go_wp2_with fail
    go_ret
    exact ⟨rfl, HB.out _⟩
  · go_wp2_with fail
    refine ((HAW.out _)).mono ?_
    rintro e _ ⟨rfl, x, rfl⟩
    go_wp2_with fail
    go_ret
    exact ⟨rfl, HB.out _⟩
  · rcases HC2.out with rfl | rfl | ⟨rfl, h1', h2', h3'⟩
    · go_wp2_with fail
      refine ((HAW.out _)).mono ?_
      rintro e _ ⟨rfl, x, rfl⟩
      go_wp2_with fail
      go_ret
      exact ⟨rfl, HB.out _⟩
    · go_wp2_with fail
      refine ((HAW.out _)).mono ?_
      rintro e _ ⟨rfl, x, rfl⟩
      go_wp2_with fail
      go_ret
      exact ⟨rfl, HB.out _⟩
    · by_cases hlt : BU.length < BV.length
      · have hi : (BU.length : Int) < (BV.length : Int) := by omega
        have HD : Hid (decide (BV.take BU.length = BU.take BU.length) = D) := hid (by rw [h3, h3']; exact (HF.out HN1.out HN2.out h1 h2 h2').1 (by rw [← h3, ← h3']; omega))
        have hs1 := fun W => run_slice_to W ra BV.length rc BU.length (by omega)
        have hs2 := fun W => run_slice_to W qa BU.length qc BU.length (by omega)
        have HBY : Hid (∀ x : Ext u2, Calls Tryz.prog 26 #[.slice ra BU.length rc, .slice qa BU.length qc] x.1 fun e w' => e = .returned (.bool D) ∧ ∃ y : Ext u2, w' = y.1) := hid fun x => ext_call x (by
          have h := bytes_any _ _ (BV.take BU.length) (BU.take BU.length) x.1 (SlRd.below (HR1.out.to BU.length (by omega)) x.2 fun _ _ _ h => h) (SlRd.below (HR2.out.to BU.length (by omega)) x.2 fun _ _ _ h => h)
          rw [HD.out] at h
          exact h)
        clear h1 h2 h3 h1' h2' h3' hcp
        go_wp2_with fail
        refine wp_region_ext2 _ (by kernel_rfl) (by kernel_rfl) ?_
        repeat (go_big_quiet_step (with_reducible first | exact HAW.out _ | exact HBY.out _ | exact HRE.out _))
        refine wpQuiet_nil ?_
        rintro _ ⟨x5, rfl⟩
        go_wp2_with fail
        go_ret
        exact ⟨rfl, HB.out _⟩
      · have hi : (BV.length : Int) ≤ (BU.length : Int) := by omega
        have HD : Hid (decide (BV.take BV.length = BU.take BV.length) = D) := hid (by rw [h3, h3']; exact (HF.out HN1.out HN2.out h1 h2 h2').2 (by rw [← h3, ← h3']; omega))
        have hs1 := fun W => run_slice_to W ra BV.length rc BV.length (by omega)
        have hs2 := fun W => run_slice_to W qa BU.length qc BV.length (by omega)
        have HBY : Hid (∀ x : Ext u2, Calls Tryz.prog 26 #[.slice ra BV.length rc, .slice qa BV.length qc] x.1 fun e w' => e = .returned (.bool D) ∧ ∃ y : Ext u2, w' = y.1) := hid fun x => ext_call x (by
          have h := bytes_any _ _ (BV.take BV.length) (BU.take BV.length) x.1 (SlRd.below (HR1.out.to BV.length (by omega)) x.2 fun _ _ _ h => h) (SlRd.below (HR2.out.to BV.length (by omega)) x.2 fun _ _ _ h => h)
          rw [HD.out] at h
          exact h)
        clear h1 h2 h3 h1' h2' h3' hcp
        go_wp2_with fail
        refine wp_region_ext2 _ (by kernel_rfl) (by kernel_rfl) ?_
        repeat (go_big_quiet_step (with_reducible first | exact HAW.out _ | exact HBY.out _ | exact HRE.out _))
        refine wpQuiet_nil ?_
        rintro _ ⟨x5, rfl⟩
        go_wp2_with fail
        go_ret
        exact ⟨rfl, HB.out _⟩
end Go.Proofs.YtmdjnaobllajmaaGreatDoor
