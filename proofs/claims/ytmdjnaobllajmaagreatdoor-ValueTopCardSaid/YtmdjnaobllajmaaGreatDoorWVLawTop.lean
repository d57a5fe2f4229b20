/-
 The walk of 'ValueTop'.
-/
import Derived.Test.YtmdjnaobllajmaaGreatDoorT20
import Derived.Test.YtmdjnaobllajmaaGreatDoorT22
import Derived.Test.YtmdjnaobllajmaaGreatDoorT24
set_option linter.unusedVariables false
set_option linter.unusedSimpArgs false
namespace Go.Proofs.YtmdjnaobllajmaaGreatDoor
open Go.RowKit
theorem topE_say (l : Lat) : ((topE l).2 = 0 ∧ validB l (topE l).1 = true) ∨ (topE l).2 = 1 ∨ (topE l).2 = 14 := by
 unfold topE
 by_cases h : chkE l = 0
 · rw [if_pos h]
   cases ht : (topV l).2
   · exact .inr (.inr rfl)
   · exact .inl ⟨rfl, top_valid h ht⟩
 · rw [if_neg h]; exact .inr (.inl rfl)
theorem ext_trans2 {W u : World} (x : Ext W) (h : Below x.1.heap.size x.1 u) : Below W.heap.size W u := x.2.trans (h.mono x.2.size)
set_option maxRecDepth 100000 in
set_option maxHeartbeats 4000000 in
theorem valueTop_walk (l : Lat) (cl : List Value) (w : World) (hl : latRd w l cl) (ht : Tab w) :
 Calls Tryz.prog 4 #[.agg cl.toArray] w fun e w' => e = .returned (.bool true) ∧ Below w.heap.size w w' := by
 have HTO : Hid (∀ W, Below w.heap.size w W → Calls Tryz.prog 17 #[.agg cl.toArray] W (ValEPost W (topE l))) := hid fun W h => Top_any l cl W (latRd.below h _ _ hl)
 have HRT : Hid (∀ W, Below w.heap.size w W → Calls Tryz.prog 18 #[.agg cl.toArray] W (ValEPost W (topE l))) := hid fun W h => rTop_any l cl W (latRd.below h _ _ hl)
 have HEQ : Hid (∀ (W : World) (cs cs' : List Value), valRd W (topE l).1 cs → valRd W (topE l).1 cs' → Calls Tryz.prog 19 #[.agg cs.toArray, .agg cs'.toArray] W fun e w' => e = .returned (.bool true) ∧ Below W.heap.size W w') := hid fun W cs cs' h h' => by
  have := rEqual_any _ _ cs cs' W h h'
  rw [decide_eq_true (valC_self _)] at this
  exact this
 have HVA : Hid (∀ (W : World) (cs : List Value), Below w.heap.size w W → valRd W (topE l).1 cs → Calls Tryz.prog 15 #[.agg cl.toArray, .agg cs.toArray] W fun e w' => e = .returned (.bool (validB l (topE l).1)) ∧ Below W.heap.size W w') := hid fun W cs h hc => valid_any l _ cl cs W (latRd.below h _ _ hl) hc
 have HAW : Hid (∀ W, Below w.heap.size w W → Calls Tryz.prog 14 #[] W fun e w' => e = .returned (.bool true) ∧ Below W.heap.size W w') := hid fun W h => awake_any W (ht.below h)
 have HSAY := hid (topE_say l)
 obtain ⟨vn, vp, vr, rfl, _⟩ := (latRd_iff _ _ _).1 hl
 clear hl ht
 generalize topE l = E1 at HTO HRT HEQ HVA HSAY
 obtain ⟨b, ee⟩ := E1
 simp only at HEQ HVA HSAY
 obtain ⟨W2, hW, HB, HBl⟩ := one_box w #[.int .i64 l.kind, .int .i64 l.lo, .int .i64 l.hi, vn, vp, vr] 26
 go_enter Tryz.func4, Tryz.ntmps4
 go_wp2_with fail
 rw [hW.out]
 clear hW
 obtain ⟨x0, hx⟩ := ext_self W2
 rw [hx]
 clear hx
 obtain ⟨l0, l1, l2, l3, l4, l5⟩ := bx6 fun x : Ext W2 => HBl.out.ext x
 go_wp2_with fail
 refine (HTO.out _ (HB.out _)).mono ?_
 rintro e u1 ⟨cs, he, hvb, hb1⟩
 simp only at he
 subst he
 have hvb1 : valRd u1 b cs := valRd_mono' (only_sub _ _) hvb
 obtain ⟨ban, bcn, bap, bcp, bae, bce, rfl, _, gbn, gbp, gbe, _⟩ := valRd.lay hvb1
 clear gbn gbp gbe
 have HVB : Hid (∀ O, valRd (u1.alloc O) b [.int .i64 b.n, .slice ban b.names.length bcn, .slice bap b.parts.length bcp, .slice bae b.entries.length bce]) := hid fun O => valRd.below ((Below.refl _ _).alloc (Nat.le_refl _) O) _ _ hvb1
 have HK1 : Hid (∀ O, Below W2.heap.size W2 (u1.alloc O)) := hid fun O => (ext_trans2 x0 hb1).alloc (ext_trans2 x0 hb1).size O
 have HBb : Hid (Box (u1.alloc (.cells #[.int .i64 b.n, .slice ban b.names.length bcn, .slice bap b.parts.length bcp, .slice bae b.entries.length bce] 30)) (u1.heap.size) #[.int .i64 b.n, .slice ban b.names.length bcn, .slice bap b.parts.length bcp, .slice bae b.entries.length bce]) := hid (Box.new _ _ _ _ rfl)
 have l0' : ∀ O, (u1.alloc O).cell? ⟨w.heap.size, 0, none⟩ = some (.int .i64 l.kind) := fun O => l0 ⟨_, HK1.out O⟩
 have l1' : ∀ O, (u1.alloc O).cell? ⟨w.heap.size, 1, none⟩ = some (.int .i64 l.lo) := fun O => l1 ⟨_, HK1.out O⟩
 have l2' : ∀ O, (u1.alloc O).cell? ⟨w.heap.size, 2, none⟩ = some (.int .i64 l.hi) := fun O => l2 ⟨_, HK1.out O⟩
 have l3' : ∀ O, (u1.alloc O).cell? ⟨w.heap.size, 3, none⟩ = some vn := fun O => l3 ⟨_, HK1.out O⟩
 have l4' : ∀ O, (u1.alloc O).cell? ⟨w.heap.size, 4, none⟩ = some vp := fun O => l4 ⟨_, HK1.out O⟩
 have l5' : ∀ O, (u1.alloc O).cell? ⟨w.heap.size, 5, none⟩ = some vr := fun O => l5 ⟨_, HK1.out O⟩
 clear hvb hvb1 hb1 HTO
 go_wp2_with fail
 clear l0' l1' l2' l3' l4' l5' l0 l1 l2 l3 l4 l5 x0
 have HK2 := hid (HK1.out (.cells #[.int .i64 b.n, .slice ban b.names.length bcn, .slice bap b.parts.length bcp, .slice bae b.entries.length bce] 30))
 replace HVB := hid (HVB.out (.cells #[.int .i64 b.n, .slice ban b.names.length bcn, .slice bap b.parts.length bcp, .slice bae b.entries.length bce] 30))
 generalize u1.alloc (.cells #[.int .i64 b.n, .slice ban b.names.length bcn, .slice bap b.parts.length bcp, .slice bae b.entries.length bce] 30) = W3 at HVB HK2 HBb ⊢
 generalize u1.heap.size = N at HBb ⊢
 replace HBl := hid (HBl.out.below HK2.out)
 replace HB : Hid (∀ x : Ext W3, Below w.heap.size w x.1) := hid fun x => (HB.out ⟨W3, HK2.out⟩).trans (x.2.mono (HB.out ⟨W3, HK2.out⟩).size)
 clear HK1 HK2
 obtain ⟨x0, hx⟩ := ext_self W3
 rw [hx]
 clear hx
 refine (HRT.out _ (HB.out _)).mono ?_
 rintro e u1 ⟨cs, he, hvb, hb1⟩
 simp only at he
 subst he
 have hvb1 : valRd u1 b cs := valRd_mono' (only_sub _ _) hvb
 obtain ⟨can, ccn, cap, ccp, cae, cce, rfl, _, gbn, gbp, gbe, _⟩ := valRd.lay hvb1
 clear gbn gbp gbe
 have HK1 : Hid (∀ O, Below W3.heap.size W3 (u1.alloc O)) := hid fun O => (ext_trans2 x0 hb1).alloc (ext_trans2 x0 hb1).size O
 have HVC : Hid (∀ O, valRd (u1.alloc O) b [.int .i64 b.n, .slice can b.names.length ccn, .slice cap b.parts.length ccp, .slice cae b.entries.length cce]) := hid fun O => valRd.below ((Below.refl _ _).alloc (Nat.le_refl _) O) _ _ hvb1
 have HBc : Hid (Box (u1.alloc (.cells #[.int .i64 b.n, .slice can b.names.length ccn, .slice cap b.parts.length ccp, .slice cae b.entries.length cce] 30)) (u1.heap.size) #[.int .i64 b.n, .slice can b.names.length ccn, .slice cap b.parts.length ccp, .slice cae b.entries.length cce]) := hid (Box.new _ _ _ _ rfl)
 clear hvb hvb1 hb1 HRT
 go_wp2_with fail
 have HK2 := hid (HK1.out (.cells #[.int .i64 b.n, .slice can b.names.length ccn, .slice cap b.parts.length ccp, .slice cae b.entries.length cce] 30))
 replace HVC := hid (HVC.out (.cells #[.int .i64 b.n, .slice can b.names.length ccn, .slice cap b.parts.length ccp, .slice cae b.entries.length cce] 30))
 generalize u1.alloc (.cells #[.int .i64 b.n, .slice can b.names.length ccn, .slice cap b.parts.length ccp, .slice cae b.entries.length cce] 30) = W4 at HVC HK2 HBc ⊢
 generalize u1.heap.size = N' at HBc ⊢
 replace HBl := hid (HBl.out.below HK2.out)
 replace HBb := hid (HBb.out.below HK2.out)
 replace HVB := hid (valRd.below HK2.out _ _ HVB.out)
 replace HB : Hid (∀ x : Ext W4, Below w.heap.size w x.1) := hid fun x => (HB.out ⟨W4, HK2.out⟩).trans (x.2.mono (HB.out ⟨W4, HK2.out⟩).size)
 clear HK1 HK2 x0
 obtain ⟨x0, hx⟩ := ext_self W4
 rw [hx]
 clear hx
 obtain ⟨l0, l1, l2, l3, l4, l5⟩ := bx6 fun x : Ext W4 => HBl.out.ext x
 obtain ⟨b0, b1, b2, b3⟩ := bx4 fun x : Ext W4 => HBb.out.ext x
 obtain ⟨c0, c1, c2, c3⟩ := bx4 fun x : Ext W4 => HBc.out.ext x
 replace HAW := hid (ext_of HB.out HAW.out)
 have HEQ1 : Hid (∀ x : Ext W4, Calls Tryz.prog 19 #[.agg #[.int .i64 b.n, .slice ban b.names.length bcn, .slice bap b.parts.length bcp, .slice bae b.entries.length bce], .agg #[.int .i64 b.n, .slice can b.names.length ccn, .slice cap b.parts.length ccp, .slice cae b.entries.length cce]] x.1 fun e w' => e = .returned (.bool true) ∧ ∃ y : Ext W4, w' = y.1) := hid fun x => ext_call x (HEQ.out x.1 _ _ (valRd.below x.2 _ _ HVB.out) (valRd.below x.2 _ _ HVC.out))
 have HVA1 : Hid (∀ x : Ext W4, Calls Tryz.prog 15 #[.agg #[.int .i64 l.kind, .int .i64 l.lo, .int .i64 l.hi, vn, vp, vr], .agg #[.int .i64 b.n, .slice ban b.names.length bcn, .slice bap b.parts.length bcp, .slice bae b.entries.length bce]] x.1 fun e w' => e = .returned (.bool (validB l b)) ∧ ∃ y : Ext W4, w' = y.1) := hid fun x => ext_call x (HVA.out x.1 _ (HB.out x) (valRd.below x.2 _ _ HVB.out))
 generalize validB l b = V at HVA1 HSAY
 clear HEQ HVA HBl HBb HBc
 rcases HSAY.out with ⟨rfl, rfl⟩ | rfl | rfl
 all_goals
  refine (HAW.out _).mono ?_
  rintro e _ ⟨rfl, x1, rfl⟩
  go_wp2_with fail
  refine (HEQ1.out _).mono ?_
  rintro e _ ⟨rfl, x2, rfl⟩
  go_wp2_with fail
  try (refine (HVA1.out _).mono ?_; rintro e _ ⟨rfl, x3, rfl⟩; go_wp2_with fail)
  go_ret
  exact ⟨rfl, HB.out _⟩
end Go.Proofs.YtmdjnaobllajmaaGreatDoor
