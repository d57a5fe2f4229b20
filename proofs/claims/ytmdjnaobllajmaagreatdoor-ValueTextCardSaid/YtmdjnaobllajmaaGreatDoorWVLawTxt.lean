/-
 The walk of 'ValueText'.
-/
import Derived.Test.YtmdjnaobllajmaaGreatDoorX21
import Derived.Test.YtmdjnaobllajmaaGreatDoorX11
import Derived.Test.YtmdjnaobllajmaaGreatDoorX25
set_option linter.unusedVariables false
set_option linter.unusedSimpArgs false
namespace Go.Proofs.YtmdjnaobllajmaaGreatDoor
open Go.RowKit
theorem text_code (l : Lat) (v : Val) : (textE' l v).2 = 1 ∨ (textE' l v).2 = 4 ∨ ((textE' l v).2 = 0 ∧ chkE l = 0 ∧ elemB l v = true ∧ (textE' l v).1 = textV l v) := by
 unfold textE'
 by_cases h1 : chkE l ≠ 0
 · rw [if_pos h1]; exact .inl rfl
 · rw [if_neg h1]
   cases h2 : elemB l v
   · exact .inr (.inl rfl)
   · exact .inr (.inr ⟨rfl, Decidable.of_not_not h1, rfl, rfl⟩)
theorem strOf_inj {a b : List UInt8} (h : strOf a = strOf b) : a = b := congrArg bsOf h
theorem text_same {l : Lat} {v u : Val} (h1 : (textE' l v).2 = 0) (h2 : (textE' l u).2 = 0) : strOf (textE' l v).1 = strOf (textE' l u).1 ↔ valC v u = 0 := by
 rcases text_code l v with h | h | ⟨_, hc, hv, e1⟩
 · rw [h1] at h; exact absurd h (by decide)
 · rw [h1] at h; exact absurd h (by decide)
 rcases text_code l u with h | h | ⟨_, _, hu, e2⟩
 · rw [h2] at h; exact absurd h (by decide)
 · rw [h2] at h; exact absurd h (by decide)
 rw [e1, e2, valC_zero]
 exact ⟨fun h => textV_inj hc hv hu (strOf_inj h), fun h => by rw [h]⟩
theorem text_say (l : Lat) (v : Val) : (textE' l v).2 = 1 ∨ (textE' l v).2 = 4 ∨ (textE' l v).2 = 0 := by
 rcases text_code l v with h | h | h
 · exact .inl h
 · exact .inr (.inl h)
 · exact .inr (.inr h.1)
set_option maxRecDepth 100000 in
set_option maxHeartbeats 4000000 in
theorem valueText_walk (l : Lat) (v u : Val) (cl cv cu : List Value) (w : World) (hl : latRd w l cl) (hv : valRd w v cv) (hu : valRd w u cu) (ht : Tab w) :
 Calls Tryz.prog 10 #[.agg cl.toArray, .agg cv.toArray, .agg cu.toArray] w fun e w' => e = .returned (.bool true) ∧ Below w.heap.size w w' := by
 have HSv : Hid (∀ W, Below w.heap.size w W → Calls Tryz.prog 13 #[.agg cv.toArray, .int .i64 60] W fun e w' => e = .returned (.bool (decide (nodesN v ≤ 60))) ∧ Below W.heap.size W w') := hid fun W h => small_ref v cv 60 W (valRd.below h _ _ hv) (by decide)
 have HSu : Hid (∀ W, Below w.heap.size w W → Calls Tryz.prog 13 #[.agg cu.toArray, .int .i64 60] W fun e w' => e = .returned (.bool (decide (nodesN u ≤ 60))) ∧ Below W.heap.size W w') := hid fun W h => small_ref u cu 60 W (valRd.below h _ _ hu) (by decide)
 have HTv : Hid (nodesN v ≤ 60 → ∀ W, Below w.heap.size w W → Calls Tryz.prog 29 #[.agg cl.toArray, .agg cv.toArray] W fun e w' => e = .returned (.tuple #[.string (strOf (textE' l v).1), .int .i64 (textE' l v).2]) ∧ Below W.heap.size W w') := hid fun hs W h => Text_any l v cl cv W (latRd.below h _ _ hl) (valRd.below h _ _ hv) (ht.below h) (fun h1 h2 => Nat.le_trans (text_small hs h1 h2) (by decide))
 have HTr : Hid (nodesN v ≤ 60 → ∀ W, Below w.heap.size w W → Calls Tryz.prog 30 #[.agg cl.toArray, .agg cv.toArray] W fun e w' => e = .returned (.tuple #[.string (strOf (textE' l v).1), .int .i64 (textE' l v).2]) ∧ Below W.heap.size W w') := hid fun hs W h => rTextE_any l v cl cv W (latRd.below h _ _ hl) (valRd.below h _ _ hv) (ht.below h) (fun h1 h2 => Nat.le_trans (text_small hs h1 h2) (by decide))
 have HTu : Hid (nodesN u ≤ 60 → ∀ W, Below w.heap.size w W → Calls Tryz.prog 29 #[.agg cl.toArray, .agg cu.toArray] W fun e w' => e = .returned (.tuple #[.string (strOf (textE' l u).1), .int .i64 (textE' l u).2]) ∧ Below W.heap.size W w') := hid fun hs W h => Text_any l u cl cu W (latRd.below h _ _ hl) (valRd.below h _ _ hu) (ht.below h) (fun h1 h2 => Nat.le_trans (text_small hs h1 h2) (by decide))
 have HRE : Hid (∀ W, Below w.heap.size w W → Calls Tryz.prog 19 #[.agg cv.toArray, .agg cu.toArray] W fun e w' => e = .returned (.bool (decide (valC v u = 0))) ∧ Below W.heap.size W w') := hid fun W h => rEqual_any v u cv cu W (valRd.below h _ _ hv) (valRd.below h _ _ hu)
 have HAW : Hid (∀ W, Below w.heap.size w W → Calls Tryz.prog 14 #[] W fun e w' => e = .returned (.bool true) ∧ Below W.heap.size W w') := hid fun W h => awake_any W (ht.below h)
 have HC1 := hid (text_say l v)
 have HC2 := hid (text_say l u)
 have HSM : Hid ((textE' l v).2 = 0 → (textE' l u).2 = 0 → decide (strOf (textE' l v).1 = strOf (textE' l u).1) = decide (valC v u = 0)) := hid fun h1 h2 => decide_eq_decide.2 (text_same h1 h2)
 generalize decide (valC v u = 0) = D at HRE HSM
 obtain ⟨vn, vp, vr, rfl, _⟩ := (latRd_iff _ _ _).1 hl
 obtain ⟨an, ap, ae, rfl, _⟩ := (valRd_iff _ _ _).1 hv
 obtain ⟨bn, bp, be, rfl, _⟩ := (valRd_iff _ _ _).1 hu
 clear hl hv hu ht
 have HNV : Hid (∀ b, decide (nodesN v ≤ 60) = b → b = true → nodesN v ≤ 60) := hid fun b h1 h2 => of_decide_eq_true (h1.trans h2)
 have HNU : Hid (∀ b, decide (nodesN u ≤ 60) = b → b = true → nodesN u ≤ 60) := hid fun b h1 h2 => of_decide_eq_true (h1.trans h2)
 generalize hSv : decide (nodesN v ≤ 60) = Sv at HSv
 generalize hSu : decide (nodesN u ≤ 60) = Su at HSu
 replace HNV := hid (HNV.out _ hSv)
 replace HNU := hid (HNU.out _ hSu)
 clear hSv hSu
 generalize strOf (textE' l v).1 = S at HTv HTr HSM
 generalize strOf (textE' l u).1 = U at HTu HSM
 generalize (textE' l v).2 = e1 at HTv HTr HSM HC1
 generalize (textE' l u).2 = e2 at HTu HSM HC2
 have HB : Hid (∀ x : Ext (((w.alloc (.cells #[.int .i64 l.kind, .int .i64 l.lo, .int .i64 l.hi, vn, vp, vr] 26)).alloc (.cells #[.int .i64 v.n, an, ap, ae] 30)).alloc (.cells #[.int .i64 u.n, bn, bp, be] 30)), Below w.heap.size w x.1) := hid fun x => ((((Below.refl _ _).alloc (Nat.le_refl _) _).alloc (by simp) _).alloc (by simp; omega) _).trans (x.2.mono (by simp; omega))
 have HX := hid fun x => three_boxes w #[.int .i64 l.kind, .int .i64 l.lo, .int .i64 l.hi, vn, vp, vr] #[.int .i64 v.n, an, ap, ae] #[.int .i64 u.n, bn, bp, be] 26 30 30 x
 go_enter Tryz.func10, Tryz.ntmps10
 go_wp2_with fail
 generalize ((w.alloc (.cells #[.int .i64 l.kind, .int .i64 l.lo, .int .i64 l.hi, vn, vp, vr] 26)).alloc (.cells #[.int .i64 v.n, an, ap, ae] 30)).alloc (.cells #[.int .i64 u.n, bn, bp, be] 30) = W3 at HB HX ⊢
 obtain ⟨x0, hx⟩ := ext_self W3
 rw [hx]
 clear hx
 replace HSv := hid (ext_of HB.out HSv.out)
 replace HSu := hid (ext_of HB.out HSu.out)
 replace HAW := hid (ext_of HB.out HAW.out)
 replace HRE := hid (ext_of HB.out HRE.out)
 obtain ⟨l0, l1, l2, l3, l4, l5⟩ := bx6 fun x : Ext W3 => (HX.out x).1
 obtain ⟨a0, a1, a2, a3⟩ := bx4 fun x : Ext W3 => (HX.out x).2.1
 obtain ⟨b0, b1, b2, b3⟩ := bx4 fun x : Ext W3 => (HX.out x).2.2
 refine ((HSv.out _)).mono ?_
 rintro e _ ⟨rfl, x, rfl⟩
 cases Sv
 · go_wp2_with fail
   refine ((HAW.out _)).mono ?_
   rintro e _ ⟨rfl, x, rfl⟩
   go_wp2_with fail
   go_ret
   exact ⟨rfl, HB.out _⟩
 go_wp2_with fail
 refine ((HSu.out _)).mono ?_
 rintro e _ ⟨rfl, x, rfl⟩
 cases Su
 · go_wp2_with fail
   refine ((HAW.out _)).mono ?_
   rintro e _ ⟨rfl, x, rfl⟩
   go_wp2_with fail
   go_ret
   exact ⟨rfl, HB.out _⟩
 have HN1 : Hid (nodesN v ≤ 60) := hid (HNV.out (by trivial))
 have HN2 : Hid (nodesN u ≤ 60) := hid (HNU.out (by trivial))
 replace HTv := hid (ext_of HB.out (HTv.out HN1.out))
 replace HTr := hid (ext_of HB.out (HTr.out HN1.out))
 replace HTu := hid (ext_of HB.out (HTu.out HN2.out))
 go_wp2_with fail
 refine (HTv.out _).mono ?_
 rintro e _ ⟨rfl, y1, rfl⟩
 go_wp2_with fail
 refine (HTr.out _).mono ?_
 rintro e _ ⟨rfl, y2, rfl⟩
 go_wp2_with fail
 refine (HTu.out _).mono ?_
 rintro e _ ⟨rfl, y3, rfl⟩
 clear HTv HTr HTu HN1 HN2 HNV HNU HSv HSu x0
 by_cases h00 : e1 = 0 ∧ e2 = 0
 · obtain ⟨rfl, rfl⟩ := h00
   have HSU := hid (HSM.out rfl rfl)
   have HSS : Hid ((S.toList == U.toList) = D) := hid (by
    rw [← HSU.out, Bool.eq_iff_iff, decide_eq_true_eq]
    exact strEq_iff S U)
   clear HC1 HC2 HSM
   go_wp2_with fail
   refine (HAW.out _).mono ?_
   rintro e _ ⟨rfl, x5, rfl⟩
   go_wp2_with fail
   refine (HRE.out _).mono ?_
   rintro e _ ⟨rfl, x6, rfl⟩
   go_wp2_with fail
   go_ret
   exact ⟨ret_bool (by rw [HSS.out]; exact beq_self_eq_true D), HB.out _⟩
 · rcases HC1.out with rfl | rfl | rfl
   all_goals
    rcases HC2.out with rfl | rfl | rfl
    all_goals first | (exfalso; exact h00 ⟨rfl, rfl⟩) | skip
    all_goals
     clear HC1 HC2 HSM h00
     go_wp2_with fail
     refine (HAW.out _).mono ?_
     rintro e _ ⟨rfl, x5, rfl⟩
     go_wp2_with fail
     go_ret
     exact ⟨rfl, HB.out _⟩
end Go.Proofs.YtmdjnaobllajmaaGreatDoor
