/-
 The walk of 'ValueEncodes'.
-/
import Derived.Test.YtmdjnaobllajmaaGreatDoorE20
import Derived.Test.YtmdjnaobllajmaaGreatDoorE24
import Derived.Test.YtmdjnaobllajmaaGreatDoorE14
import Derived.Test.YtmdjnaobllajmaaGreatDoorE25
set_option linter.unusedVariables false
set_option linter.unusedSimpArgs false
namespace Go.Proofs.YtmdjnaobllajmaaGreatDoor
open Go.RowKit
theorem encE_code (l : Lat) (v : Val) : (encodeE l v).2 = 1 ∨ (encodeE l v).2 = 4 ∨ ((encodeE l v).2 = 0 ∧ chkE l = 0 ∧ elemB l v = true ∧ (encodeE l v).1 = putV l v) := by
 unfold encodeE
 by_cases h1 : chkE l ≠ 0
 · rw [if_pos h1]; exact .inl rfl
 · rw [if_neg h1]
   cases h2 : elemB l v
   · exact .inr (.inl rfl)
   · exact .inr (.inr ⟨rfl, Decidable.of_not_not h1, rfl, rfl⟩)
theorem encE_len (l : Lat) (v : Val) (h : nodesN v ≤ 60) : (encodeE l v).1.length ≤ 1000000 := by
 unfold encodeE
 by_cases h1 : chkE l ≠ 0
 · rw [if_pos h1]; exact Nat.zero_le _
 · rw [if_neg h1]
   cases h2 : elemB l v
   · exact Nat.zero_le _
   · exact Nat.le_trans (put_small h (Decidable.of_not_not h1) h2) (by decide)
theorem encE_dec (l : Lat) (v : Val) (h : nodesN v ≤ 60) (h0 : (encodeE l v).2 = 0) : decodeV l (encodeE l v).1 = (v, 0) := by
 rcases encE_code l v with h1 | h1 | ⟨_, h1, h2, h3⟩
 · omega
 · omega
 · rw [h3]
   exact (decodeV_iff h1 _ v (by have := put_small h h1 h2; omega)).2 ⟨h2, rfl⟩
set_option maxRecDepth 100000 in
set_option maxHeartbeats 4000000 in
theorem valueEncodes_walk (l : Lat) (v : Val) (cl cv : List Value) (w : World) (hl : latRd w l cl) (hv : valRd w v cv) (ht : Tab w) :
 Calls Tryz.prog 7 #[.agg cl.toArray, .agg cv.toArray] w fun e w' => e = .returned (.bool true) ∧ Below w.heap.size w w' := by
 have HSv : Hid (∀ W, Below w.heap.size w W → Calls Tryz.prog 13 #[.agg cv.toArray, .int .i64 60] W fun e w' => e = .returned (.bool (decide (nodesN v ≤ 60))) ∧ Below W.heap.size W w') := hid fun W h => small_ref v cv 60 W (valRd.below h _ _ hv) (by decide)
 have HEv : Hid (nodesN v ≤ 60 → ∀ W, Below w.heap.size w W → Calls Tryz.prog 24 #[.agg cl.toArray, .agg cv.toArray] W (BytesEPost W (encodeE l v))) := hid fun hs W h => Encode_any l v cl cv W (latRd.below h _ _ hl) (valRd.below h _ _ hv) (fun h1 h2 => Nat.le_trans (put_small hs h1 h2) (by decide))
 have HRv : Hid (nodesN v ≤ 60 → ∀ W, Below w.heap.size w W → Calls Tryz.prog 25 #[.agg cl.toArray, .agg cv.toArray] W (BytesRPost W (encodeE l v))) := hid fun hs W h => rEncode_any l v cl cv W (latRd.below h _ _ hl) (valRd.below h _ _ hv) (fun h1 h2 => Nat.le_trans (put_small hs h1 h2) (by decide))
 have HDE : Hid (∀ W c vb, Below w.heap.size w W → SlRd W 1 byteRd vb c → c.length ≤ 1000000 → Calls Tryz.prog 27 #[.agg cl.toArray, vb] W (ValEPost W (decodeV l c))) := hid fun W c vb h hb hc => Decode_any l c cl vb W (latRd.below h _ _ hl) hb (by omega)
 have HRE : Hid (∀ W x cs, Below w.heap.size w W → valRd W x cs → Calls Tryz.prog 19 #[.agg cv.toArray, .agg cs.toArray] W fun e w' => e = .returned (.bool (decide (valC v x = 0))) ∧ Below W.heap.size W w') := hid fun W x cs h hc => rEqual_any v x cv cs W (valRd.below h _ _ hv) hc
 have HAW0 : Hid (∀ W, Below w.heap.size w W → Calls Tryz.prog 14 #[] W fun e w' => e = .returned (.bool true) ∧ Below W.heap.size W w') := hid fun W h => awake_any W (ht.below h)
 have HC1 := hid (encE_code l v)
 have HLE := hid (encE_len l v)
 have HDC := hid (encE_dec l v)
 obtain ⟨aln, cln, alp, clp, alr, clr, rfl, hli, hln, hlp, hlr, ⟨_, mln⟩, ⟨_, mlp⟩, _, mlr⟩ := latRd.lay hl
 obtain ⟨ban, dan, bap, dap, bae, dae, rfl, gai, gan, gap, gae, ⟨_, nan⟩, ⟨_, nap⟩, _, nae⟩ := valRd.lay hv
 clear hl hv ht hli hln hlp hlr gai gan gap gae
 have HNV : Hid (∀ b, decide (nodesN v ≤ 60) = b → b = true → nodesN v ≤ 60) := hid fun b h1 h2 => of_decide_eq_true (h1.trans h2)
 generalize hSv : decide (nodesN v ≤ 60) = Sv at HSv
 replace HNV := hid (HNV.out _ hSv)
 clear hSv
 generalize encodeE l v = E1 at HEv HRv HC1 HLE HDC
 obtain ⟨BV, e1⟩ := E1
 simp only at HC1 HLE HDC
 obtain ⟨W2, hW, HB, HBl, HBv⟩ := two_box w #[.int .i64 l.kind, .int .i64 l.lo, .int .i64 l.hi, .slice aln l.names.length cln, .slice alp l.parts.length clp, .slice alr l.rules.length clr] #[.int .i64 v.n, .slice ban v.names.length dan, .slice bap v.parts.length dap, .slice bae v.entries.length dae] 26 30
 go_enter Tryz.func7, Tryz.ntmps7
 go_wp2_with fail
 rw [hW.out]
 clear hW
 obtain ⟨x0, hx⟩ := ext_self W2
 rw [hx]
 clear hx
 replace HSv := hid (ext_of HB.out HSv.out)
 have HAW := hid (ext_of HB.out HAW0.out)
 obtain ⟨l0, l1, l2, l3, l4, l5⟩ := bx6 fun x : Ext W2 => HBl.out.ext x
 obtain ⟨v0, v1, v2, v3⟩ := bx4 fun x : Ext W2 => HBv.out.ext x
 refine (HSv.out _).mono ?_
 rintro e _ ⟨rfl, x, rfl⟩
 cases Sv
 · go_wp2_with fail
   refine (HAW.out _).mono ?_
   rintro e _ ⟨rfl, x, rfl⟩
   go_wp2_with fail
   go_ret
   exact ⟨rfl, HB.out _⟩
 have HN1 : Hid (nodesN v ≤ 60) := hid (HNV.out (by trivial))
 go_wp2_with fail
 refine (HEv.out HN1.out _ (HB.out _)).mono ?_
 rintro e u1 ⟨r1, he, hr1, hb1⟩
 simp only at he hr1
 subst he
 obtain ⟨ra, rc, rfl⟩ := owns_shape hr1
 have HR1 : Hid (SlRd u1 1 byteRd (.slice ra BV.length rc) BV) := hid (bytes_owns hr1)
 obtain ⟨x1, hx⟩ : ∃ y : Ext W2, u1 = y.1 := ⟨⟨u1, x.2.trans (hb1.mono x.2.size)⟩, rfl⟩
 subst hx
 clear hr1 hb1 HSv HEv
 go_wp2_with fail
 refine (HRv.out HN1.out _ (HB.out _)).mono ?_
 rintro e u2 ⟨r2, he, hr2, hb2⟩
 simp only at he hr2
 subst he
 obtain ⟨qa, qc, rfl, _, _⟩ := hr2.shape
 replace HR1 : Hid (SlRd u2 1 byteRd (.slice ra BV.length rc) BV) := hid (SlRd.below HR1.out hb2 fun _ _ _ h => h)
 have HR2 := hid hr2
 obtain ⟨x2, hx⟩ : ∃ y : Ext W2, u2 = y.1 := ⟨⟨u2, x1.2.trans (hb2.mono x1.2.size)⟩, rfl⟩
 subst hx
 clear hr2 hb2 HRv
 have HBY : Hid (Calls Tryz.prog 26 #[.slice ra BV.length rc, .slice qa BV.length qc] x2.1 fun e w' => e = .returned (.bool true) ∧ Below x2.1.heap.size x2.1 w') := hid (by
   have h := bytes_any _ _ BV BV x2.1 HR1.out HR2.out
   rw [decide_eq_true rfl] at h
   exact h)
 replace HLE := hid (HLE.out HN1.out)
 replace HDC := hid (HDC.out HN1.out)
 clear HN1 HNV HR1
 have HNX : Hid (∀ u, Below x2.1.heap.size x2.1 u → SlRd u 1 byteRd (.slice qa BV.length qc) BV ∧ ∃ y : Ext W2, u = y.1) := hid fun u h => ⟨SlRd.below HR2.out h fun _ _ _ h => h, ⟨u, x2.2.trans (h.mono x2.2.size)⟩, rfl⟩
 generalize hD : decodeV l BV = D at HDC
 have HDD := hid hD
 clear hD HR2
 obtain ⟨q, g⟩ := D
 rcases HC1.out with rfl | rfl | ⟨rfl, h1, h2, h3⟩
 · clear HC1 HDC
   go_wp2_with fail
   refine HBY.out.mono ?_
   rintro e u3 ⟨rfl, hb3⟩
   obtain ⟨hr3, x3, rfl⟩ := HNX.out _ hb3
   have HR3 := hid hr3
   clear hb3 hr3 HBY HNX
   go_wp2_with fail
   refine (HDE.out _ BV _ (HB.out _) HR3.out HLE.out).mono ?_
   rw [HDD.out]
   rintro e u4 ⟨cs, he, hcs, hb4⟩
   simp only at he hcs
   subst he
   have HCS := hid (valRd_mono' (only_sub _ _) hcs)
   obtain ⟨qn, qdn, qp, qdp, qe, qde, rfl, _, gn, gp, ge, _⟩ := valRd.lay hcs
   obtain ⟨x4, hx⟩ : ∃ y : Ext W2, u4 = y.1 := ⟨⟨u4, x3.2.trans (hb4.mono x3.2.size)⟩, rfl⟩
   subst hx
   clear hcs gn gp ge hb4 HR3 HDE HDD
   have HB4 : Hid (∀ O, Below w.heap.size w (x4.1.alloc O)) := hid fun O => (HB.out x4).alloc (HB.out x4).size O
   go_wp2_with fail
   refine (HAW0.out _ (HB4.out _)).mono ?_
   rintro e u5 ⟨rfl, hb5⟩
   have HB5 : Hid (Below w.heap.size w u5) := hid ((HB4.out _).trans (hb5.mono (HB4.out _).size))
   clear hb5
   go_wp2_with fail
   go_ret
   exact ⟨rfl, HB5.out⟩
 · clear HC1 HDC
   go_wp2_with fail
   refine HBY.out.mono ?_
   rintro e u3 ⟨rfl, hb3⟩
   obtain ⟨hr3, x3, rfl⟩ := HNX.out _ hb3
   have HR3 := hid hr3
   clear hb3 hr3 HBY HNX
   go_wp2_with fail
   refine (HDE.out _ BV _ (HB.out _) HR3.out HLE.out).mono ?_
   rw [HDD.out]
   rintro e u4 ⟨cs, he, hcs, hb4⟩
   simp only at he hcs
   subst he
   have HCS := hid (valRd_mono' (only_sub _ _) hcs)
   obtain ⟨qn, qdn, qp, qdp, qe, qde, rfl, _, gn, gp, ge, _⟩ := valRd.lay hcs
   obtain ⟨x4, hx⟩ : ∃ y : Ext W2, u4 = y.1 := ⟨⟨u4, x3.2.trans (hb4.mono x3.2.size)⟩, rfl⟩
   subst hx
   clear hcs gn gp ge hb4 HR3 HDE HDD
   have HB4 : Hid (∀ O, Below w.heap.size w (x4.1.alloc O)) := hid fun O => (HB.out x4).alloc (HB.out x4).size O
   go_wp2_with fail
   refine (HAW0.out _ (HB4.out _)).mono ?_
   rintro e u5 ⟨rfl, hb5⟩
   have HB5 : Hid (Below w.heap.size w u5) := hid ((HB4.out _).trans (hb5.mono (HB4.out _).size))
   clear hb5
   go_wp2_with fail
   go_ret
   exact ⟨rfl, HB5.out⟩
 · clear HC1 h1 h2 h3
   have hg := Prod.mk.inj (HDC.out rfl)
   obtain ⟨hq, rfl⟩ := hg
   have HQV := hid hq
   clear hq HDC
   go_wp2_with fail
   refine HBY.out.mono ?_
   rintro e u3 ⟨rfl, hb3⟩
   obtain ⟨hr3, x3, rfl⟩ := HNX.out _ hb3
   have HR3 := hid hr3
   clear hb3 hr3 HBY HNX
   go_wp2_with fail
   refine (HDE.out _ BV _ (HB.out _) HR3.out HLE.out).mono ?_
   rw [HDD.out]
   rintro e u4 ⟨cs, he, hcs, hb4⟩
   simp only at he hcs
   subst he
   have HCS := hid (valRd_mono' (only_sub _ _) hcs)
   obtain ⟨qn, qdn, qp, qdp, qe, qde, rfl, _, gn, gp, ge, _⟩ := valRd.lay hcs
   obtain ⟨x4, hx⟩ : ∃ y : Ext W2, u4 = y.1 := ⟨⟨u4, x3.2.trans (hb4.mono x3.2.size)⟩, rfl⟩
   subst hx
   clear hcs gn gp ge hb4 HR3 HDE HDD
   have HB4 : Hid (∀ O, Below w.heap.size w (x4.1.alloc O)) := hid fun O => (HB.out x4).alloc (HB.out x4).size O
   go_wp2_with fail
   refine (HAW0.out _ (HB4.out _)).mono ?_
   rintro e u5 ⟨rfl, hb5⟩
   have HBX : Hid (Box (x4.1.alloc (.cells #[.int .i64 q.n, .slice qn q.names.length qdn, .slice qp q.parts.length qdp, .slice qe q.entries.length qde] 30)) x4.1.heap.size #[.int .i64 q.n, .slice qn q.names.length qdn, .slice qp q.parts.length qdp, .slice qe q.entries.length qde]) := hid (Box.new _ _ _ _ rfl)
   have HBV2 : Hid (∀ y : Ext (x4.1.alloc (.cells #[.int .i64 q.n, .slice qn q.names.length qdn, .slice qp q.parts.length qdp, .slice qe q.entries.length qde] 30)), Box y.1 (w.heap.size + 1) #[.int .i64 v.n, .slice ban v.names.length dan, .slice bap v.parts.length dap, .slice bae v.entries.length dae]) := hid fun y => (HBv.out.ext ⟨y.1, (x4.2.alloc x4.2.size _).trans (y.2.mono (by have := x4.2.size; simp; omega))⟩)
   have HBB : Hid (∀ y : Ext (x4.1.alloc (.cells #[.int .i64 q.n, .slice qn q.names.length qdn, .slice qp q.parts.length qdp, .slice qe q.entries.length qde] 30)), Below w.heap.size w y.1 ∧ valRd y.1 q [.int .i64 q.n, .slice qn q.names.length qdn, .slice qp q.parts.length qdp, .slice qe q.entries.length qde]) := hid fun y => ⟨(HB4.out _).trans (y.2.mono (HB4.out _).size), valRd.below (((Below.refl _ _).alloc (Nat.le_refl _) _).trans (y.2.mono (by simp))) _ _ HCS.out⟩
   generalize x4.1.alloc (.cells #[.int .i64 q.n, .slice qn q.names.length qdn, .slice qp q.parts.length qdp, .slice qe q.entries.length qde] 30) = W4 at HBX HBV2 HBB hb5 ⊢
   obtain ⟨y, hy⟩ : ∃ y : Ext W4, u5 = y.1 := ⟨⟨u5, hb5⟩, rfl⟩
   subst hy
   clear hb5 l0 l1 l2 l3 l4 l5 v0 v1 v2 v3
   obtain ⟨v0, v1, v2, v3⟩ := bx4 fun x : Ext W4 => HBV2.out x
   obtain ⟨q0, q1, q2, q3⟩ := bx4 fun x : Ext W4 => HBX.out.ext x
   go_wp2_with fail
   refine (HRE.out _ q _ (HBB.out _).1 (HBB.out _).2).mono ?_
   rintro e u6 ⟨rfl, hb6⟩
   have HB6 : Hid (Below w.heap.size w u6) := hid ((HBB.out _).1.trans (hb6.mono (HBB.out _).1.size))
   clear hb6
   have HV : Hid (decide (valC v q = 0) = true) := hid (by rw [HQV.out]; exact decide_eq_true ((valC_zero _ _).2 rfl))
   rw [HV.out]
   go_wp2_with fail
   go_ret
   exact ⟨rfl, HB6.out⟩
end Go.Proofs.YtmdjnaobllajmaaGreatDoor
