/-
  What the statements of the chapter share, part 20: POrd, VRc1, VNod, VRc2, VRc3, VRc4, PAwk.
-/
import Derived.Test.YtmdjnaobllajmaaGreatDoorN04
import Derived.Test.YtmdjnaobllajmaaGreatDoorN07
import Derived.Test.YtmdjnaobllajmaaGreatDoorN09
import Derived.Test.YtmdjnaobllajmaaGreatDoorN14
import Derived.Test.YtmdjnaobllajmaaGreatDoorN15
import Derived.Test.YtmdjnaobllajmaaGreatDoorN17
import Derived.Test.YtmdjnaobllajmaaGreatDoorN19
import Derived.BigGuardPart
import Derived.Lib.Strings
set_option linter.unusedVariables false
set_option linter.unusedSimpArgs false
set_option maxRecDepth 100000
set_option maxHeartbeats 8000000
namespace Go.Proofs.YtmdjnaobllajmaaGreatDoor
open Go.RowKit
def Tri (x y z : Int) : Prop := x ≤ 0 → y ≤ 0 → z ≤ 0 ∧ (z = 0 ↔ x = 0 ∧ y = 0)
theorem Tri.or {x1 y1 z1 x2 y2 z2 : Int} (h1 : Tri x1 y1 z1) (h2 : Tri x2 y2 z2) : Tri (if x1 ≠ 0 then x1 else x2) (if y1 ≠ 0 then y1 else y2) (if z1 ≠ 0 then z1 else z2) := by
  intro hx hy
  have a : x1 ≤ 0 := by split at hx <;> omega
  have b : y1 ≤ 0 := by split at hy <;> omega
  obtain ⟨c, d⟩ := h1 a b
  by_cases z0 : z1 = 0
  · obtain ⟨x0, y0⟩ := d.1 z0
    rw [if_neg (fun h => h x0)] at hx
    rw [if_neg (fun h => h y0)] at hy
    rw [if_neg (fun h => h z0), if_neg (fun h => h x0), if_neg (fun h => h y0)]
    exact h2 hx hy
  · rw [if_pos z0]
    refine ⟨c, fun h => absurd h z0, fun ⟨p, q⟩ => absurd (d.2 ⟨?_, ?_⟩) z0⟩
    · split at p <;> omega
    · split at q <;> omega
theorem or_anti {x1 y1 x2 y2 : Int} (h1 : y1 = -x1) (h2 : y2 = -x2) : (if y1 ≠ 0 then y1 else y2) = -(if x1 ≠ 0 then x1 else x2) := by
  subst h1 h2
  by_cases a : x1 = 0
  · simp [a]
  · rw [if_pos a, if_pos (by omega)]
theorem or_zero {x y : Int} : (if x ≠ 0 then x else y) = 0 ↔ x = 0 ∧ y = 0 := by
  by_cases a : x = 0
  · simp [a]
  · simp [a]
theorem cmpI_anti (a b : Int) : cmpI b a = -cmpI a b := by unfold cmpI; split <;> split <;> omega
theorem cmpI_tri (a b c : Int) : Tri (cmpI a b) (cmpI b c) (cmpI a c) := by
  unfold Tri
  rcases cmpI_cases a b with ⟨h1, h2⟩ | ⟨h1, h2⟩ | ⟨h1, h2⟩ <;> rcases cmpI_cases b c with ⟨h3, h4⟩ | ⟨h3, h4⟩ | ⟨h3, h4⟩ <;> rcases cmpI_cases a c with ⟨h5, h6⟩ | ⟨h5, h6⟩ | ⟨h5, h6⟩ <;> omega
theorem cmpI_zero (a b : Int) : cmpI a b = 0 ↔ a = b := by unfold cmpI; split <;> (try split) <;> omega
theorem bl_eq : ∀ (x y : List UInt8), Op.bytesLess x y = decide (x < y)
  | [], [] => by simp [Op.bytesLess]
  | _ :: _, [] => by simp [Op.bytesLess]
  | [], _ :: _ => by simp [Op.bytesLess]
  | a :: x, b :: y => by
    rw [Op.bytesLess, bl_eq x y]
    simp only [List.cons_lt_cons_iff]
    by_cases h1 : a < b <;> by_cases h2 : a = b <;> by_cases h3 : x < y <;> simp [h1, h2, h3]
theorem strLt_eq (a b : ByteArray) : strLt a b = decide (a.data.toList < b.data.toList) := by
  unfold strLt
  rw [bl_eq, Lib.toList_data, Lib.toList_data]
theorem strC_eq (a b : ByteArray) : strC a b = if a.data.toList < b.data.toList then -1 else if a.data.toList = b.data.toList then 0 else 1 := by
  unfold strC
  rw [strLt_eq, Lib.toList_data, Lib.toList_data]
  simp only [decide_eq_true_eq, beq_iff_eq]
theorem strC_zero (a b : ByteArray) : strC a b = 0 ↔ a = b := by
  rw [strC_eq]
  constructor
  · intro h
    by_cases h1 : a.data.toList < b.data.toList
    · rw [if_pos h1] at h; omega
    · rw [if_neg h1] at h
      by_cases h2 : a.data.toList = b.data.toList
      · exact ByteArray.ext (Array.toList_inj.1 h2)
      · rw [if_neg h2] at h; omega
  · rintro rfl
    rw [if_neg (List.lt_irrefl _), if_pos rfl]
theorem strC_anti (a b : ByteArray) : strC b a = -strC a b := by
  rw [strC_eq, strC_eq]
  by_cases h : a.data.toList < b.data.toList
  · rw [if_pos h, if_neg (List.lt_asymm h), if_neg (fun e => List.lt_irrefl _ (e ▸ h))]; rfl
  · rw [if_neg h]
    by_cases h2 : a.data.toList = b.data.toList
    · rw [if_pos h2, if_neg (fun h => List.lt_irrefl _ (h2 ▸ h)), if_pos h2.symm]; rfl
    · have : b.data.toList < a.data.toList := Decidable.byContradiction fun h' => h2 (List.le_antisymm (List.not_lt.1 h') (List.not_lt.1 h))
      rw [if_pos this, if_neg h2]
theorem strC_tri (a b c : ByteArray) : Tri (strC a b) (strC b c) (strC a c) := by
  intro h1 h2
  rw [strC_eq] at h1 h2
  have l1 : a.data.toList < b.data.toList ∨ a.data.toList = b.data.toList := by
    by_cases h : a.data.toList < b.data.toList
    · exact .inl h
    · rw [if_neg h] at h1
      by_cases h' : a.data.toList = b.data.toList
      · exact .inr h'
      · rw [if_neg h'] at h1; omega
  have l2 : b.data.toList < c.data.toList ∨ b.data.toList = c.data.toList := by
    by_cases h : b.data.toList < c.data.toList
    · exact .inl h
    · rw [if_neg h] at h2
      by_cases h' : b.data.toList = c.data.toList
      · exact .inr h'
      · rw [if_neg h'] at h2; omega
  rw [strC_eq a c, strC_eq a b, strC_eq b c]
  rcases l1 with l1 | l1 <;> rcases l2 with l2 | l2
  · have := List.lt_trans l1 l2
    rw [if_pos this, if_pos l1, if_pos l2]
    omega
  · rw [← l2, if_pos l1]
    omega
  · rw [l1, if_pos l2]
    omega
  · rw [← l2, ← l1, if_neg (List.lt_irrefl _), if_pos rfl]
    omega
theorem lexC_anti {α : Type} (c : α → α → Int) : ∀ (a b : List α), (∀ x ∈ a, ∀ y, c y x = -c x y) → lexC c b a = -lexC c a b
  | [], [], _ => rfl
  | [], _ :: _, _ => rfl
  | _ :: _, [], _ => rfl
  | x :: s, y :: t, h => by
    rw [lexC, lexC]
    exact or_anti (h x (by simp) y) (lexC_anti c s t fun z hz => h z (by simp [hz]))
theorem lexC_tri {α : Type} (c : α → α → Int) : ∀ (a b d : List α), (∀ x ∈ a, ∀ y z, Tri (c x y) (c y z) (c x z)) → Tri (lexC c a b) (lexC c b d) (lexC c a d)
  | [], [], [], _ => by intro _ _; simp [lexC]
  | [], [], _ :: _, _ => by intro _ _; simp [lexC]
  | [], _ :: _, [], _ => by intro _ h; simp [lexC] at h
  | [], _ :: _, _ :: _, _ => by intro _ _; simp [lexC]
  | _ :: _, [], _, _ => by intro h; simp [lexC] at h
  | _ :: _, _ :: _, [], _ => by intro _ h; simp [lexC] at h
  | x :: s, y :: t, z :: u, h => by
    rw [lexC, lexC, lexC]
    exact (h x (by simp) y z).or (lexC_tri c s t u fun w hw => h w (by simp [hw]))
theorem lexC_zero {α : Type} (c : α → α → Int) : ∀ (a b : List α), (∀ x ∈ a, ∀ y, c x y = 0 ↔ x = y) → (lexC c a b = 0 ↔ a = b)
  | [], [], _ => by simp [lexC]
  | [], _ :: _, _ => by simp [lexC]
  | _ :: _, [], _ => by simp [lexC]
  | x :: s, y :: t, h => by
    rw [lexC, or_zero, h x (by simp) y, lexC_zero c s t fun z hz => h z (by simp [hz]), List.cons.injEq]
theorem or2_eq (x y : Int) : orI [x, y] = if x ≠ 0 then x else y := by
  unfold orI orI orI
  by_cases h : x = 0
  · simp [h]; intro h; exact h.symm
  · simp [h]
theorem tickC_anti (a b : Tk) : tickC b a = -tickC a b := by
  unfold tickC; rw [or2_eq, or2_eq]; exact or_anti (cmpI_anti _ _) (cmpI_anti _ _)
theorem tickC_tri (a b c : Tk) : Tri (tickC a b) (tickC b c) (tickC a c) := by
  unfold tickC; rw [or2_eq, or2_eq, or2_eq]; exact (cmpI_tri _ _ _).or (cmpI_tri _ _ _)
theorem tickC_zero (a b : Tk) : tickC a b = 0 ↔ a = b := by
  unfold tickC; rw [or2_eq, or_zero, cmpI_zero, cmpI_zero]
  cases a; cases b; simp
theorem entC_anti (a b : En) : entC b a = -entC a b := by
  unfold entC; rw [or2_eq, or2_eq]; exact or_anti (strC_anti _ _) (lexC_anti _ _ _ fun x _ y => tickC_anti x y)
theorem entC_tri (a b c : En) : Tri (entC a b) (entC b c) (entC a c) := by
  unfold entC; rw [or2_eq, or2_eq, or2_eq]; exact (strC_tri _ _ _).or (lexC_tri _ _ _ _ fun x _ y z => tickC_tri x y z)
theorem entC_zero (a b : En) : entC a b = 0 ↔ a = b := by
  unfold entC; rw [or2_eq, or_zero, strC_zero, lexC_zero _ _ _ fun x _ y => tickC_zero x y]
  cases a; cases b; simp [and_comm]
theorem sizeOf_part' {v p : Val} (h : p ∈ v.parts) : SizeOf.sizeOf p < SizeOf.sizeOf v := by
  cases v
  have := List.sizeOf_lt_of_mem h
  simp only [Val.parts] at this
  simp only [Val.mk.sizeOf_spec]
  omega
theorem valC_anti (a b : Val) : valC b a = -valC a b := by
  rw [valC_eq a b, valC_eq b a]
  refine or_anti (cmpI_anti _ _) (or_anti (lexC_anti _ _ _ fun x _ y => strC_anti x y) (or_anti (lexC_anti _ _ _ fun x hx y => ?_) (lexC_anti _ _ _ fun x _ y => entC_anti x y)))
  have := sizeOf_part' hx
  exact valC_anti x y
  termination_by SizeOf.sizeOf a
theorem valC_tri (a b c : Val) : Tri (valC a b) (valC b c) (valC a c) := by
  rw [valC_eq a b, valC_eq b c, valC_eq a c]
  refine (cmpI_tri _ _ _).or ((lexC_tri _ _ _ _ fun x _ y z => strC_tri x y z).or ((lexC_tri _ _ _ _ fun x hx y z => ?_).or (lexC_tri _ _ _ _ fun x _ y z => entC_tri x y z)))
  have := sizeOf_part' hx
  exact valC_tri x y z
  termination_by SizeOf.sizeOf a
theorem valC_zero (a b : Val) : valC a b = 0 ↔ a = b := by
  rw [valC_eq a b, or_zero, or_zero, or_zero, cmpI_zero, lexC_zero _ _ _ fun x _ y => strC_zero x y, lexC_zero valC a.parts b.parts fun x hx y => by
    have := sizeOf_part' hx
    exact valC_zero x y, lexC_zero _ _ _ fun x _ y => entC_zero x y]
  cases a; cases b; simp [Val.n, Val.names, Val.parts, Val.entries]
  termination_by SizeOf.sizeOf a
theorem valC_self (a : Val) : valC a a = 0 := (valC_zero a a).2 rfl
theorem valC_total (a b c : Val) : valC b a = 0 - valC a b ∧ valC a a = 0 ∧ (valC a b > 0 ∨ valC b c > 0 ∨ (valC a c ≤ 0 ∧ (valC a c < 0 ∨ (valC a b = 0 ∧ valC b c = 0)))) := by
  refine ⟨by rw [valC_anti]; omega, valC_self a, ?_⟩
  have := valC_tri a b c
  unfold Tri at this
  omega
theorem wp_region_at {P : Program} {id : Nat} {Q : Exit → Act → World → Prop} {a : Act} {W : World} {l : List Oper} (hm : P.follows .mixedOrders = true) (hB : Region.lexB .any l.toArray = true) (x : Ext W)
    (h : wpQuiet P l.toArray (fun w' => ∃ x : Ext W, w' = x.1) (fun a' => ∀ w', (∃ x : Ext W, w' = x.1) → Q .normal a' w') l a) : (Code.region id l.toArray true).wp P Q a x.1 :=
  wp_region_quiet (C := fun w' => ∃ x : Ext W, w' = x.1) hm hB ⟨⟨_, x.2.drew⟩, rfl⟩ (by simpa using h)
def signI (b : Bool) : Int := if b then -1 else 1
theorem sign_any (b : Bool) (w : World) : Calls Tryz.prog 47 #[.bool b] w fun e w' => e = .returned (.int .i64 (signI b)) ∧ w' = w := by
  cases b
  all_goals
    go_enter Tryz.func47, Tryz.ntmps47
    go_wp2_with fail
    go_ret
    exact ⟨rfl, rfl⟩
def lenI (a b : Nat) : Int := if a = b then 0 else if a < b then -1 else 1
theorem lenI_lt {a b : Nat} (h : a < b) : lenI a b = -1 := by unfold lenI; rw [if_neg (by omega), if_pos h]
theorem lenI_gt {a b : Nat} (h : b < a) : lenI a b = 1 := by unfold lenI; rw [if_neg (by omega), if_neg (by omega)]
theorem lenI_eq {a b : Nat} (h : a = b) : lenI a b = 0 := by unfold lenI; rw [if_pos h]
theorem lengths_any (a b : Nat) (w : World) : Calls Tryz.prog 48 #[.int .i64 a, .int .i64 b] w fun e w' => e = .returned (.int .i64 (lenI a b)) ∧ w' = w := by
  rcases Nat.lt_trichotomy a b with h | h | h
  · have hb : ((a : Int) == (b : Int)) = false := by rw [beqI']; exact decide_eq_false (by omega)
    have HR := hid (lenI_lt h)
    have HS : Hid (∀ w, Calls Tryz.prog 47 #[.bool true] w fun e w' => e = .returned (.int .i64 (-1)) ∧ w' = w) := hid fun w => sign_any true w
    have hd : decide ((a : Int) < (b : Int)) = true := decide_eq_true (by omega)
    have hlt : (a : Int) < (b : Int) := by omega
    clear h
    go_enter Tryz.func48, Tryz.ntmps48
    go_wp2_with fail
    refine (HS.out _).mono ?_
    rintro e w1 ⟨rfl, rfl⟩
    go_wp2_with fail
    go_ret
    exact ⟨ret_int HR.out.symm, rfl⟩
  · subst h
    have HR := hid (lenI_eq (a := a) rfl)
    go_enter Tryz.func48, Tryz.ntmps48
    go_wp2_with fail
    go_ret
    exact ⟨ret_int HR.out.symm, rfl⟩
  · have hb : ((a : Int) == (b : Int)) = false := by rw [beqI']; exact decide_eq_false (by omega)
    have HR := hid (lenI_gt h)
    have HS : Hid (∀ w, Calls Tryz.prog 47 #[.bool false] w fun e w' => e = .returned (.int .i64 1) ∧ w' = w) := hid fun w => sign_any false w
    have hlt : ¬ (a : Int) < (b : Int) := by omega
    have hlt' : (b : Int) ≤ (a : Int) := by omega
    clear h
    go_enter Tryz.func48, Tryz.ntmps48
    go_wp2_with fail
    refine (HS.out _).mono ?_
    rintro e w1 ⟨rfl, rfl⟩
    go_wp2_with fail
    go_ret
    exact ⟨ret_int HR.out.symm, rfl⟩
theorem lexC_lens {α : Type} (c : α → α → Int) (a b : List α) (j : Nat) (ha : j ≤ a.length) (hb : j ≤ b.length) (h : ¬ (j < a.length ∧ j < b.length)) : lexC c (a.drop j) (b.drop j) = lenI a.length b.length := by
  by_cases h1 : j < a.length
  · rw [lexC_one c a b j h1 (by omega), lenI_gt (by omega)]
  · rw [lexC_end c a b j (by omega)]
    by_cases h2 : j < b.length
    · rw [if_pos h2, lenI_lt (by omega)]
    · rw [if_neg h2, lenI_eq (by omega)]
theorem cmpI_lt {a b : Int} (h : a < b) : cmpI a b = -1 := by unfold cmpI; rw [if_pos h]
theorem cmpI_gt {a b : Int} (h : b < a) : cmpI a b = 1 := by unfold cmpI; rw [if_neg (by omega), if_pos h]
theorem cmpI_eq (a : Int) : cmpI a a = 0 := by unfold cmpI; rw [if_neg (by omega), if_neg (by omega)]
theorem tickC_eq (a b : Tk) : tickC a b = if cmpI a.process b.process ≠ 0 then cmpI a.process b.process else cmpI a.n b.n := or2_eq _ _
theorem entC_eq (a b : En) : entC a b = if strC a.name b.name ≠ 0 then strC a.name b.name else lexC tickC a.clock b.clock := or2_eq _ _
theorem cmpI_sign {a b : Int} (h : a ≠ b) : cmpI a b = signI (decide (a < b)) := by
  unfold signI
  by_cases h1 : a < b
  · rw [cmpI_lt h1, decide_eq_true h1]; rfl
  · rw [cmpI_gt (by omega), decide_eq_false h1]; rfl
theorem strC_sign {a b : ByteArray} (h : a ≠ b) : strC a b = signI (strLt a b) := by
  rcases strC_cases a b with ⟨h1, h2⟩ | ⟨h1, h2, _⟩ | ⟨h1, _⟩
  · rw [h1, h2]; rfl
  · rw [h1, h2]; rfl
  · exact absurd ((strC_zero a b).1 h1) h
theorem strNe {a b : ByteArray} (h : a ≠ b) : (a.toList == b.toList) = false := by
  rw [Lib.toList_data, Lib.toList_data, beq_eq_false_iff_ne]
  exact fun e => h (ByteArray.ext (Array.toList_inj.1 e))
theorem if_of_zero {x y : Int} (h : x = 0) : (if x ≠ 0 then x else y) = y := if_neg fun h' => h' h
theorem if_of_nz {x y : Int} (h : x ≠ 0) : (if x ≠ 0 then x else y) = x := if_pos h
theorem cmpI_nz {a b : Int} (h : a ≠ b) : cmpI a b ≠ 0 := fun h' => h ((cmpI_zero a b).1 h')
theorem strC_nz {a b : ByteArray} (h : a ≠ b) : strC a b ≠ 0 := fun h' => h ((strC_zero a b).1 h')
theorem rTicks_any (va vb : Value) (a b : List Tk) (w : World) (ha : SlRd w 2 tickRd va a) (hb : SlRd w 2 tickRd vb b) :
    Calls Tryz.prog 79 #[va, vb] w fun e w' => e = .returned (.int .i64 (lexC tickC a b)) ∧ Below w.heap.size w w' := by
  obtain ⟨aa, ca, rfl, _, hma⟩ := ha.shape
  obtain ⟨ab, cb, rfl, _, hmb⟩ := hb.shape
  have HA := hid ha
  have HBB := hid hb
  have HE : Hid (lexC tickC a b = lexC tickC (a.drop 0) (b.drop 0)) := hid rfl
  generalize lexC tickC a b = R at HE ⊢
  clear ha hb
  go_enter Tryz.func79, Tryz.ntmps79
  go_wp2_with fail
  go_loopw [5] (fun i wr => ∃ (j : Nat) (x : Ext w), j ≤ a.length ∧ j ≤ b.length ∧ i = .int .i64 j ∧ wr = x.1 ∧ Hid (R = lexC tickC (a.drop j) (b.drop j))) (fun i _ => a.length - (intOf i).toNat)
  case atStart => exact ⟨0, ⟨w, Below.refl _ _⟩, Nat.zero_le _, Nat.zero_le _, rfl, rfl, HE⟩
  case round =>
    obtain ⟨j, x, hj, hj', rfl, rfl, He⟩ := hrel
    by_cases hlt : j < a.length ∧ j < b.length
    · obtain ⟨h1, h2⟩ := hlt
      obtain ⟨s, sb, so, hs, _, hsd, _, rfl, _, hsc⟩ := tickEl HA.out j h1
      obtain ⟨t, tb, to, ht, _, htd, _, rfl, _, htc⟩ := tickEl HBB.out j h2
      have HS : Hid (R = if tickC s t ≠ 0 then tickC s t else lexC tickC (a.drop (j + 1)) (b.drop (j + 1))) := hid (by rw [He.out, hsd, htd, lexC])
      have HTC := hid (tickC_eq s t)
      obtain ⟨HS0, HS1⟩ := hsc.two
      obtain ⟨HT0, HT1⟩ := htc.two
      have s0 : ∀ y : Ext w, y.1.cell? ⟨sb, so + j * 2, none⟩ = some (.int .i64 s.process) := fun y => y.cell HS0
      have s1 : ∀ y : Ext w, y.1.cell? ⟨sb, so + j * 2 + 1, none⟩ = some (.int .i64 s.n) := fun y => y.cell HS1
      have t0 : ∀ y : Ext w, y.1.cell? ⟨tb, to + j * 2, none⟩ = some (.int .i64 t.process) := fun y => y.cell HT0
      have t1 : ∀ y : Ext w, y.1.cell? ⟨tb, to + j * 2 + 1, none⟩ = some (.int .i64 t.n) := fun y => y.cell HT1
      have HJ : Hid (j + 1 ≤ a.length ∧ j + 1 ≤ b.length) := hid ⟨h1, h2⟩
      have hd1 : decide ((j : Int) < (a.length : Int)) = true := decide_eq_true (by omega)
      have hd2 : decide ((j : Int) < (b.length : Int)) = true := decide_eq_true (by omega)
      have hi1 : (j : Int) < (a.length : Int) := by omega
      have hi2 : (j : Int) < (b.length : Int) := by omega
      clear hs hsd ht htd HS0 HS1 HT0 HT1 hsc htc He HE
      go_wp2_with fail
      by_cases hp : s.process = t.process
      · have hpb : (s.process != t.process) = false := by simp [hp]
        have HS2 : Hid (R = if cmpI s.n t.n ≠ 0 then cmpI s.n t.n else lexC tickC (a.drop (j + 1)) (b.drop (j + 1))) := hid (by rw [HS.out, HTC.out, hp, cmpI_eq, if_of_zero rfl])
        clear hp HS HTC
        refine wp_region_at (by kernel_rfl) (by kernel_rfl) _ ?_
        repeat (go_big_quiet_step (fail))
        refine wpQuiet_nil ?_
        rintro _ ⟨z, rfl⟩
        go_wp2_with fail
        clear hpb
        by_cases hn : s.n = t.n
        · have hnb : (s.n != t.n) = false := by simp [hn]
          have HR : Hid (R = lexC tickC (a.drop (j + 1)) (b.drop (j + 1))) := hid (by rw [HS2.out, hn, cmpI_eq, if_of_zero rfl])
          clear hn HS2
          refine wp_region_at (by kernel_rfl) (by kernel_rfl) _ ?_
          repeat (go_big_quiet_step (fail))
          refine wpQuiet_nil ?_
          rintro _ ⟨z, rfl⟩
          go_wp2_with fail
          go_roundw
          case rel => exact ⟨j + 1, _, HJ.out.1, HJ.out.2, by go_num, rfl, HR⟩
          case measure => have := HJ.out.1; simp [intOf]; omega
        · have hnb : (s.n != t.n) = true := by simp [hn]
          have HR : Hid (R = signI (decide (s.n < t.n))) := hid (by rw [HS2.out, if_of_nz (cmpI_nz hn), cmpI_sign hn])
          clear hn HS2
          refine wp_region_at (by kernel_rfl) (by kernel_rfl) _ ?_
          repeat (go_big_quiet_step (fail))
          refine wpQuiet_nil ?_
          rintro _ ⟨z, rfl⟩
          go_wp2_with fail
          clear hnb
          refine wp_region_at (by kernel_rfl) (by kernel_rfl) _ ?_
          repeat (go_big_quiet_step ((go_at_call 47; exact ext_same _ (sign_any _ _))))
          refine wpQuiet_nil ?_
          rintro _ ⟨z, rfl⟩
          go_wp2_with fail
          go_ret
          exact ⟨ret_int HR.out.symm, z.2⟩
      · have hpb : (s.process != t.process) = true := by simp [hp]
        have HR : Hid (R = signI (decide (s.process < t.process))) := hid (by rw [HS.out, HTC.out, if_of_nz (cmpI_nz hp), if_of_nz (cmpI_nz hp), cmpI_sign hp])
        clear hp HS HTC
        refine wp_region_at (by kernel_rfl) (by kernel_rfl) _ ?_
        repeat (go_big_quiet_step (fail))
        refine wpQuiet_nil ?_
        rintro _ ⟨z, rfl⟩
        go_wp2_with fail
        clear hpb
        refine wp_region_at (by kernel_rfl) (by kernel_rfl) _ ?_
        repeat (go_big_quiet_step ((go_at_call 47; exact ext_same _ (sign_any _ _))))
        refine wpQuiet_nil ?_
        rintro _ ⟨z, rfl⟩
        go_wp2_with fail
        go_ret
        exact ⟨ret_int HR.out.symm, z.2⟩
    · have HR : Hid (R = lenI a.length b.length) := hid (by rw [He.out, lexC_lens _ _ _ _ hj hj' hlt])
      have HLE := hid (lengths_any a.length b.length)
      clear He HE
      by_cases h1 : j < a.length
      · have h2 : ¬ j < b.length := fun h => hlt ⟨h1, h⟩
        have hi1 : (j : Int) < (a.length : Int) := by omega
        have hi2 : (b.length : Int) ≤ (j : Int) := by omega
        clear hlt h1 h2
        go_wp2_with fail
        refine (HLE.out _).mono ?_
        rintro e w1 ⟨rfl, rfl⟩
        go_wp2_with fail
        go_ret
        exact ⟨ret_int HR.out.symm, x.2⟩
      · have hi1 : (a.length : Int) ≤ (j : Int) := by omega
        clear hlt h1
        go_wp2_with fail
        refine (HLE.out _).mono ?_
        rintro e w1 ⟨rfl, rfl⟩
        go_wp2_with fail
        go_ret
        exact ⟨ret_int HR.out.symm, x.2⟩
theorem rEntries_any (a b : En) (ca cb : List Value) (w : World) (ha : entryRd w a ca) (hb : entryRd w b cb) :
    Calls Tryz.prog 49 #[.agg ca.toArray, .agg cb.toArray] w fun e w' => e = .returned (.int .i64 (entC a b)) ∧ Below w.heap.size w w' := by
  obtain ⟨va, rfl, hka, hna⟩ := ha
  obtain ⟨vb, rfl, hkb, hnb⟩ := hb
  have HT : Hid (∀ u, Below w.heap.size w u → Calls Tryz.prog 79 #[va, vb] u fun e w' => e = .returned (.int .i64 (lexC tickC a.clock b.clock)) ∧ Below u.heap.size u w') := hid fun u hu => rTicks_any va vb a.clock b.clock u (SlRd.below hka hu fun _ _ _ h => h) (SlRd.below hkb hu fun _ _ _ h => h)
  obtain ⟨aa, cca, rfl, _, _⟩ := hka.shape
  obtain ⟨ab, ccb, rfl, _, _⟩ := hkb.shape
  have HE := hid (entC_eq a b)
  generalize entC a b = R at HE ⊢
  have HB : Hid (∀ O1 O2, Below w.heap.size w ((w.alloc O1).alloc O2)) := hid fun O1 O2 => ((Below.refl _ _).alloc (Nat.le_refl _) O1).alloc (by simp) O2
  clear hka hkb hna hnb
  by_cases hn : a.name = b.name
  · have HR : Hid (R = lexC tickC a.clock b.clock) := hid (by rw [HE.out, if_of_zero ((strC_zero _ _).2 hn)])
    have hq : (a.name.toList == b.name.toList) = true := by rw [hn]; simp
    clear hn HE
    go_enter Tryz.func49, Tryz.ntmps49
    go_wp2_with fail
    refine (HT.out _ (HB.out _ _)).mono ?_
    rintro e w1 ⟨rfl, hb1⟩
    have HB1 := hid ((HB.out _ _).trans (hb1.mono (HB.out _ _).size))
    clear hb1
    go_wp2_with fail
    go_ret
    exact ⟨ret_int HR.out.symm, HB1.out⟩
  · have HR : Hid (R = signI (strLt a.name b.name)) := hid (by rw [HE.out, if_of_nz (strC_nz hn), strC_sign hn])
    have hq := strNe hn
    have hb : Op.bytesLess a.name.toList b.name.toList = strLt a.name b.name := rfl
    clear hn HE HT
    go_enter Tryz.func49, Tryz.ntmps49
    go_wp2_with fail
    refine (sign_any _ _).mono ?_
    rintro e w1 ⟨rfl, rfl⟩
    go_wp2_with fail
    go_ret
    exact ⟨ret_int HR.out.symm, HB.out _ _⟩
theorem nodesNs_eq : ∀ l : List Val, nodesNs l = (l.map nodesN).sum
  | [] => by rw [nodesNs]; rfl
  | v :: t => by rw [nodesNs, nodesNs_eq t]; rfl
theorem nodesN_eq (v : Val) : nodesN v = 1 + v.names.length + v.entries.length + nodesNs v.parts + (v.entries.map fun e => e.clock.length).sum := by
  cases v; rw [nodesN]; rfl
theorem nodesNs_drop (l : List Val) (j : Nat) (h : j < l.length) : nodesNs (l.drop j) = nodesN l[j] + nodesNs (l.drop (j + 1)) := by
  rw [drop_consS l j h, nodesNs]
theorem clocks_drop (l : List En) (j : Nat) (h : j < l.length) : ((l.drop j).map fun e => e.clock.length).sum = l[j].clock.length + ((l.drop (j + 1)).map fun e => e.clock.length).sum := by
  rw [drop_consS l j h]; rfl
theorem sizeOf_vp {v p : Val} (h : p ∈ v.parts) : SizeOf.sizeOf p < SizeOf.sizeOf v := by
  cases v
  have := List.sizeOf_lt_of_mem h
  simp only [Val.parts] at this
  simp only [Val.mk.sizeOf_spec]
  omega
theorem nodes_any (f : Nat) : ∀ (v : Val) (cs : List Value) (w : World), SizeOf.sizeOf v ≤ f → valRd w v cs → nodesN v ≤ 1000000000000 →
    Calls Tryz.prog 23 #[.agg cs.toArray] w fun e w' => e = .returned (.int .i64 (nodesN v : Nat)) ∧ Below w.heap.size w w' := by
  induction f with
  | zero => intro v cs w hn; cases v; simp at hn
  | succ f ih =>
    intro v cs w hn hv hb
    have IH := hid ih
    obtain ⟨uvn, uvp, uve, rfl, gvi, gvn, gvp, gve⟩ := (valRd_iff _ _ _).1 hv
    obtain ⟨bvn, dvn, rfl, _, nvn⟩ := gvn.shape
    obtain ⟨bvp, dvp, rfl, _, nvp⟩ := gvp.shape
    obtain ⟨bve, dve, rfl, _, nve⟩ := gve.shape
    have HIP : Hid (∀ p ∈ v.parts, SizeOf.sizeOf p ≤ f) := hid fun p hp => by have := sizeOf_vp hp; omega
    obtain ⟨n, ns, ps, es⟩ := v
    simp only [Val.n, Val.names, Val.parts, Val.entries] at gvn gvp gve nvn nvp nve HIP ⊢
    have HT : Hid (nodesN (.mk n ns ps es) = 1 + ns.length + es.length + nodesNs ps + (es.map fun e => e.clock.length).sum) := hid (nodesN_eq _)
    generalize nodesN (.mk n ns ps es) = T at HT hb ⊢
    have HP := hid gvp
    have HE := hid gve
    have HTB := hid hb
    clear hv hn ih gvn gvp gve gvi hb
    have HB : Hid (∀ x : Ext (w.alloc (.cells #[.int .i64 n, .slice bvn ns.length dvn, .slice bvp ps.length dvp, .slice bve es.length dve] 30)), Below w.heap.size w x.1) := hid fun x => ((Below.refl _ _).alloc (Nat.le_refl _) _).trans (x.2.mono (by simp))
    have HX : Hid (∀ (x : Ext (w.alloc (.cells #[.int .i64 n, .slice bvn ns.length dvn, .slice bvp ps.length dvp, .slice bve es.length dve] 30))) (i : Nat) v, #[Value.int .i64 n, .slice bvn ns.length dvn, .slice bvp ps.length dvp, .slice bve es.length dve][i]? = some v → x.1.cell? ⟨w.heap.size, i, none⟩ = some v) := hid fun x i v hv => x.cell (by rw [World.cell?_alloc_at _ _ _ _ rfl]; exact hv)
    have hw1 : wrap64 (wrap64 (1 + (ns.length : Int)) + es.length) = ((1 + ns.length + es.length : Nat) : Int) := by have := HT.out; have := HTB.out; rw [IntWalk.wrap64_in (1 + (ns.length : Int)) (by omega), IntWalk.wrap64_in _ (by omega)]; omega
    have HW1 := hid hw1
    clear hw1
    go_enter Tryz.func23, Tryz.ntmps23
    go_wp2_with fail
    generalize w.alloc (.cells #[.int .i64 n, .slice bvn ns.length dvn, .slice bvp ps.length dvp, .slice bve es.length dve] 30) = W1 at HB HX ⊢
    obtain ⟨x0, hx⟩ := ext_self W1
    rw [hx]
    clear hx
    have c1 : ∀ x : Ext W1, x.1.cell? ⟨w.heap.size, 1, none⟩ = some (.slice bvn ns.length dvn) := fun x => HX.out x 1 _ rfl
    have c2 : ∀ x : Ext W1, x.1.cell? ⟨w.heap.size, 2, none⟩ = some (.slice bvp ps.length dvp) := fun x => HX.out x 2 _ rfl
    have c3 : ∀ x : Ext W1, x.1.cell? ⟨w.heap.size, 3, none⟩ = some (.slice bve es.length dve) := fun x => HX.out x 3 _ rfl
    go_wp2_with fail
    go_loopw [3, 5, 19] (fun n _ i wr => ∃ (j m : Nat) (x : Ext W1), j ≤ ps.length ∧ i = .int .i64 j ∧ n = .int .i64 m ∧ wr = x.1 ∧ Hid (m + nodesNs (ps.drop j) + (es.map fun e => e.clock.length).sum = T)) (fun _ _ i _ => ps.length - (intOf i).toNat)
    case atStart => exact ⟨0, 1 + ns.length + es.length, x0, Nat.zero_le _, rfl, by rw [HW1.out], rfl, hid (by rw [HT.out]; rfl)⟩
    case round =>
      obtain ⟨j, m, x, hj, rfl, rfl, rfl, He⟩ := hrel
      by_cases hlt : j < ps.length
      · obtain ⟨pb, po, pcs, hpb, _, pcell, prd⟩ := (HP.out).at j hlt
        subst hpb
        have HPR := hid prd
        obtain ⟨uqn, uqp, uqe, rfl, gqi, gqn, gqp, gqe⟩ := (valRd_iff _ _ _).1 prd
        obtain ⟨bqn, dqn, rfl, _, nqn⟩ := gqn.shape
        obtain ⟨bqp, dqp, rfl, _, nqp⟩ := gqp.shape
        obtain ⟨bqe, dqe, rfl, _, nqe⟩ := gqe.shape
        have r0 : x.1.cell? ⟨pb, po + j * 4, none⟩ = some (.int .i64 ps[j].n) := (pcell.below (HB.out x)) 0 (by simp)
        have r1 : x.1.cell? ⟨pb, po + j * 4 + 1, none⟩ = some (.slice bqn ps[j].names.length dqn) := (pcell.below (HB.out x)) 1 (by simp)
        have r2 : x.1.cell? ⟨pb, po + j * 4 + 2, none⟩ = some (.slice bqp ps[j].parts.length dqp) := (pcell.below (HB.out x)) 2 (by simp)
        have r3 : x.1.cell? ⟨pb, po + j * 4 + 3, none⟩ = some (.slice bqe ps[j].entries.length dqe) := (pcell.below (HB.out x)) 3 (by simp)
        have HS : Hid (m + nodesN ps[j] + nodesNs (ps.drop (j + 1)) + (es.map fun e => e.clock.length).sum = T) := hid (by rw [← He.out, nodesNs_drop ps j hlt]; omega)
        have hmb : (m : Int) + (nodesN ps[j] : Int) ≤ 1000000000000 := by have := HS.out; have := HTB.out; omega
        clear prd gqi gqn gqp gqe pcell nqn nqp nqe
        go_wp2_with fail
        refine (IH.out ps[j] [.int .i64 ps[j].n, .slice bqn ps[j].names.length dqn, .slice bqp ps[j].parts.length dqp, .slice bqe ps[j].entries.length dqe] _ (HIP.out _ (List.getElem_mem hlt)) (valRd.below ((HB.out x).alloc (HB.out x).size _) _ _ HPR.out) (by have := HS.out; have := HTB.out; omega)).mono ?_
        rintro e w2 ⟨rfl, hb2⟩
        have HX2 : Hid (Below W1.heap.size W1 w2) := hid ((x.2.alloc x.2.size _).trans (hb2.mono (by have := x.2.size; simp; omega)))
        clear hb2
        go_wp2_with fail
        go_roundw
        case rel => exact ⟨j + 1, m + nodesN ps[j], ⟨w2, HX2.out⟩, by omega, by go_num, by go_num, rfl, HS⟩
        case measure => simp [intOf]; omega
      · have HS : Hid (m + ((es.drop 0).map fun e => e.clock.length).sum = T) := hid (by rw [← He.out, show ps.drop j = [] from List.drop_eq_nil_of_le (by omega), nodesNs]; rfl)
        go_wp2_with fail
        clear He
        go_loopw [3, 7, 31] (fun n _ i wr => ∃ (k m : Nat) (x : Ext W1), k ≤ es.length ∧ i = .int .i64 k ∧ n = .int .i64 m ∧ wr = x.1 ∧ Hid (m + ((es.drop k).map fun e => e.clock.length).sum = T)) (fun _ _ i _ => es.length - (intOf i).toNat)
        case atStart => exact ⟨0, m, x, Nat.zero_le _, rfl, rfl, rfl, HS⟩
        case round =>
          obtain ⟨k, m, x, hk, rfl, rfl, rfl, He⟩ := hrel
          by_cases hlt : k < es.length
          · obtain ⟨pb, po, pcs, hpb, _, pcell, ev, rfl, hec, hen⟩ := (HE.out).at k hlt
            subst hpb
            obtain ⟨ea, ec, rfl, _, eb⟩ := hec.shape
            have r0 : x.1.cell? ⟨pb, po + k * 2, none⟩ = some (.slice ea es[k].clock.length ec) := (pcell.below (HB.out x)) 0 (by simp)
            have r1 : x.1.cell? ⟨pb, po + k * 2 + 1, none⟩ = some (.string es[k].name) := (pcell.below (HB.out x)) 1 (by simp)
            have HS2 : Hid (m + es[k].clock.length + ((es.drop (k + 1)).map fun e => e.clock.length).sum = T) := hid (by rw [← He.out, clocks_drop es k hlt]; omega)
            have hmb : (m : Int) + (es[k].clock.length : Int) ≤ 1000000000000 := by have := HS2.out; have := HTB.out; omega
            have HUP : Hid (∀ O, Below W1.heap.size W1 (x.1.alloc O)) := hid fun O => x.2.alloc x.2.size _
            clear pcell hec
            go_wp2_with fail
            go_roundw
            case rel => exact ⟨k + 1, m + es[k].clock.length, ⟨_, HUP.out _⟩, by omega, by go_num, by go_num, rfl, HS2⟩
            case measure => simp [intOf]; omega
          · have HF : Hid (m = T) := hid (by have := He.out; rw [show es.drop k = [] from List.drop_eq_nil_of_le (by omega)] at this; simpa using this)
            go_wp2_with fail
            go_ret
            exact ⟨by rw [HF.out]; rfl, HB.out _⟩
theorem lenI_nz {a b : Nat} (h : a ≠ b) : lenI a b ≠ 0 := by
  rcases Nat.lt_or_gt_of_ne h with h | h
  · rw [lenI_lt h]; decide
  · rw [lenI_gt h]; decide
theorem rCompare_any (f : Nat) : ∀ (a b : Val) (ca cb : List Value) (w : World), SizeOf.sizeOf a ≤ f → valRd w a ca → valRd w b cb →
    Calls Tryz.prog 21 #[.agg ca.toArray, .agg cb.toArray] w fun e w' => e = .returned (.int .i64 (valC a b)) ∧ Below w.heap.size w w' := by
  induction f with
  | zero => intro a b ca cb w hn; cases a; simp at hn
  | succ f ih =>
    intro a b ca cb w hn ha hb
    have IH := hid ih
    obtain ⟨uan, uap, uae, rfl, gai, gan, gap, gae⟩ := (valRd_iff _ _ _).1 ha
    obtain ⟨ban, dan, rfl, _, nan⟩ := gan.shape
    obtain ⟨bap, dap, rfl, _, nap⟩ := gap.shape
    obtain ⟨bae, dae, rfl, _, nae⟩ := gae.shape
    obtain ⟨ubn, ubp, ube, rfl, gbi, gbn, gbp, gbe⟩ := (valRd_iff _ _ _).1 hb
    obtain ⟨bbn, dbn, rfl, _, nbn⟩ := gbn.shape
    obtain ⟨bbp, dbp, rfl, _, nbp⟩ := gbp.shape
    obtain ⟨bbe, dbe, rfl, _, nbe⟩ := gbe.shape
    have HIP : Hid (∀ p ∈ a.parts, SizeOf.sizeOf p ≤ f) := hid fun p hp => by have := sizeOf_vp hp; omega
    obtain ⟨an, ans, aps, aes⟩ := a
    obtain ⟨bn, bns, bps, bes⟩ := b
    simp only [Val.n, Val.names, Val.parts, Val.entries] at *
    have HE : Hid (valC (.mk an ans aps aes) (.mk bn bns bps bes) = if cmpI an bn ≠ 0 then cmpI an bn else if lexC strC ans bns ≠ 0 then lexC strC ans bns else if lexC valC aps bps ≠ 0 then lexC valC aps bps else lexC entC aes bes) := hid (valC_eq _ _)
    generalize valC (.mk an ans aps aes) (.mk bn bns bps bes) = R at HE ⊢
    have HAN := hid gan
    have HBN := hid gbn
    have HAP := hid gap
    have HBP := hid gbp
    have HAE := hid gae
    have HBE := hid gbe
    clear ha hb hn ih gai gbi gan gbn gap gbp gae gbe
    have HB : Hid (∀ x : Ext ((w.alloc (.cells #[.int .i64 an, .slice ban ans.length dan, .slice bap aps.length dap, .slice bae aes.length dae] 30)).alloc (.cells #[.int .i64 bn, .slice bbn bns.length dbn, .slice bbp bps.length dbp, .slice bbe bes.length dbe] 30)), Below w.heap.size w x.1) := hid fun x => (((Below.refl _ _).alloc (Nat.le_refl _) _).alloc (by simp) _).trans (x.2.mono (by simp; omega))
    have HX : Hid (∀ x : Ext ((w.alloc (.cells #[.int .i64 an, .slice ban ans.length dan, .slice bap aps.length dap, .slice bae aes.length dae] 30)).alloc (.cells #[.int .i64 bn, .slice bbn bns.length dbn, .slice bbp bps.length dbp, .slice bbe bes.length dbe] 30)), (∀ (i : Nat) q, #[.int .i64 an, .slice ban ans.length dan, .slice bap aps.length dap, .slice bae aes.length dae][i]? = some q → x.1.cell? ⟨w.heap.size, i, none⟩ = some q) ∧ (∀ (i : Nat) q, #[.int .i64 bn, .slice bbn bns.length dbn, .slice bbp bps.length dbp, .slice bbe bes.length dbe][i]? = some q → x.1.cell? ⟨w.heap.size + 1, i, none⟩ = some q)) :=
      hid fun x => two_boxes w #[.int .i64 an, .slice ban ans.length dan, .slice bap aps.length dap, .slice bae aes.length dae] #[.int .i64 bn, .slice bbn bns.length dbn, .slice bbp bps.length dbp, .slice bbe bes.length dbe] 30 30 (x.2.mono (by simp))
    have HLE := hid lengths_any
    by_cases hn : an = bn
    · have hnb : (an != bn) = false := by simp [hn]
      have HE2 : Hid (R = if lexC strC (ans.drop 0) (bns.drop 0) ≠ 0 then lexC strC (ans.drop 0) (bns.drop 0) else if lexC valC (aps.drop 0) (bps.drop 0) ≠ 0 then lexC valC (aps.drop 0) (bps.drop 0) else lexC entC (aes.drop 0) (bes.drop 0)) := hid (by rw [HE.out, if_of_zero ((cmpI_zero an bn).2 hn)]; rfl)
      clear hn HE
      go_enter Tryz.func21, Tryz.ntmps21
      go_wp2_with fail
      generalize (w.alloc (.cells #[.int .i64 an, .slice ban ans.length dan, .slice bap aps.length dap, .slice bae aes.length dae] 30)).alloc (.cells #[.int .i64 bn, .slice bbn bns.length dbn, .slice bbp bps.length dbp, .slice bbe bes.length dbe] 30) = W2 at HB HX ⊢
      obtain ⟨x0, hx⟩ := ext_self W2
      rw [hx]
      clear hx
      have a0 : ∀ x : Ext W2, x.1.cell? ⟨w.heap.size, 0, none⟩ = some (.int .i64 an) := fun x => (HX.out x).1 0 _ rfl
      have a1 : ∀ x : Ext W2, x.1.cell? ⟨w.heap.size, 1, none⟩ = some (.slice ban ans.length dan) := fun x => (HX.out x).1 1 _ rfl
      have a2 : ∀ x : Ext W2, x.1.cell? ⟨w.heap.size, 2, none⟩ = some (.slice bap aps.length dap) := fun x => (HX.out x).1 2 _ rfl
      have a3 : ∀ x : Ext W2, x.1.cell? ⟨w.heap.size, 3, none⟩ = some (.slice bae aes.length dae) := fun x => (HX.out x).1 3 _ rfl
      have b0 : ∀ x : Ext W2, x.1.cell? ⟨w.heap.size + 1, 0, none⟩ = some (.int .i64 bn) := fun x => (HX.out x).2 0 _ rfl
      have b1 : ∀ x : Ext W2, x.1.cell? ⟨w.heap.size + 1, 1, none⟩ = some (.slice bbn bns.length dbn) := fun x => (HX.out x).2 1 _ rfl
      have b2 : ∀ x : Ext W2, x.1.cell? ⟨w.heap.size + 1, 2, none⟩ = some (.slice bbp bps.length dbp) := fun x => (HX.out x).2 2 _ rfl
      have b3 : ∀ x : Ext W2, x.1.cell? ⟨w.heap.size + 1, 3, none⟩ = some (.slice bbe bes.length dbe) := fun x => (HX.out x).2 3 _ rfl
      clear hnb
      go_loopw [5] (fun i wr => ∃ (j : Nat) (x : Ext W2), j ≤ ans.length ∧ j ≤ bns.length ∧ i = .int .i64 j ∧ wr = x.1 ∧ Hid (R = if lexC strC (ans.drop j) (bns.drop j) ≠ 0 then lexC strC (ans.drop j) (bns.drop j) else if lexC valC (aps.drop 0) (bps.drop 0) ≠ 0 then lexC valC (aps.drop 0) (bps.drop 0) else lexC entC (aes.drop 0) (bes.drop 0))) (fun i _ => ans.length - (intOf i).toNat)
      case atStart => exact ⟨0, x0, Nat.zero_le _, Nat.zero_le _, rfl, rfl, HE2⟩
      case round =>
        obtain ⟨j, x, hj, hj', rfl, rfl, He⟩ := hrel
        by_cases hlt : j < ans.length ∧ j < bns.length
        · obtain ⟨h1, h2⟩ := hlt
          obtain ⟨s, sb, so, _, _, hsd, _, rfl, hsc, _⟩ := strEl HAN.out j h1
          obtain ⟨t, tb, to, _, _, htd, _, rfl, htc, _⟩ := strEl HBN.out j h2
          have HS : Hid (lexC strC (ans.drop j) (bns.drop j) = if strC s t ≠ 0 then strC s t else lexC strC (ans.drop (j + 1)) (bns.drop (j + 1))) := hid (by rw [hsd, htd, lexC])
          have s0 : ∀ y : Ext W2, y.1.cell? ⟨sb, so + j, none⟩ = some (.string s) := fun y => ((HB.out y).cell (World.block_lt_of_cell? w _ hsc)).trans hsc
          have t0 : ∀ y : Ext W2, y.1.cell? ⟨tb, to + j, none⟩ = some (.string t) := fun y => ((HB.out y).cell (World.block_lt_of_cell? w _ htc)).trans htc
          have HJ : Hid (j + 1 ≤ ans.length ∧ j + 1 ≤ bns.length) := hid ⟨h1, h2⟩
          have hd1 : (j : Int) < (ans.length : Int) := by omega
          have hd2 : (j : Int) < (bns.length : Int) := by omega
          clear hsd htd hsc htc
          by_cases hst : s = t
          · have hq : (s.toList == t.toList) = true := by rw [hst]; simp
            have HR := He
            rw [HS.out, if_of_zero ((strC_zero s t).2 hst)] at HR
            clear hst He HS HE2
            go_wp2_with fail
            refine wp_region_at (by kernel_rfl) (by kernel_rfl) _ ?_
            repeat (go_big_quiet_step (fail))
            refine wpQuiet_nil ?_
            rintro _ ⟨z, rfl⟩
            go_wp2_with fail
            go_roundw
            case rel => exact ⟨j + 1, _, HJ.out.1, HJ.out.2, by go_num, rfl, HR⟩
            case measure => have := HJ.out.1; simp [intOf]; omega
          · have hq := strNe hst
            have hbl : Op.bytesLess s.toList t.toList = strLt s t := rfl
            have HR : Hid (R = signI (strLt s t)) := hid (by rw [He.out, HS.out, if_of_nz (strC_nz hst), if_of_nz (strC_nz hst), strC_sign hst])
            clear hst He HS HE2
            go_wp2_with fail
            refine wp_region_at (by kernel_rfl) (by kernel_rfl) _ ?_
            repeat (go_big_quiet_step (fail))
            refine wpQuiet_nil ?_
            rintro _ ⟨z, rfl⟩
            go_wp2_with fail
            refine wp_region_at (by kernel_rfl) (by kernel_rfl) _ ?_
            repeat (go_big_quiet_step ((go_at_call 47; exact ext_same _ (sign_any _ _))))
            refine wpQuiet_nil ?_
            rintro _ ⟨z, rfl⟩
            go_wp2_with fail
            go_ret
            exact ⟨ret_int HR.out.symm, HB.out _⟩
        · have HLX : Hid (lexC strC (ans.drop j) (bns.drop j) = lenI ans.length bns.length) := hid (lexC_lens _ _ _ _ hj hj' hlt)
          have HN := He
          rw [HLX.out] at HN
          by_cases hln : ans.length = bns.length
          · have hlb : ((ans.length : Int) != (bns.length : Int)) = false := by simp [hln]
            have HR : Hid (R = if lexC valC (aps.drop 0) (bps.drop 0) ≠ 0 then lexC valC (aps.drop 0) (bps.drop 0) else lexC entC (aes.drop 0) (bes.drop 0)) := hid (by rw [HN.out, if_of_zero (lenI_eq hln)])
            have hi1 : (ans.length : Int) ≤ (j : Int) := by omega
            clear hlt He HN HLX HE2 hln
            go_wp2_with fail
            clear hi1 hlb
            go_loopw [6, 7] (fun i _ wr => ∃ (j : Nat) (x : Ext W2), j ≤ aps.length ∧ j ≤ bps.length ∧ i = .int .i64 j ∧ wr = x.1 ∧ Hid (R = if lexC valC (aps.drop j) (bps.drop j) ≠ 0 then lexC valC (aps.drop j) (bps.drop j) else lexC entC (aes.drop 0) (bes.drop 0))) (fun i _ _ => aps.length - (intOf i).toNat)
            case atStart => exact ⟨0, _, Nat.zero_le _, Nat.zero_le _, rfl, rfl, HR⟩
            case round =>
              obtain ⟨j, x, hj, hj', rfl, rfl, He⟩ := hrel
              by_cases hlt : j < aps.length ∧ j < bps.length
              · obtain ⟨h1, h2⟩ := hlt
                obtain ⟨x', xb, xo, bxn, dxn, bxp, dxp, bxe, dxe, _, hxm, hsd, _, rfl, hxr, hxc⟩ := valEl HAP.out j h1
                obtain ⟨y', yb, yo, byn, dyn, byp, dyp, bye, dye, _, _, htd, _, rfl, hyr, hyc⟩ := valEl HBP.out j h2
                have HS : Hid (lexC valC (aps.drop j) (bps.drop j) = if valC x' y' ≠ 0 then valC x' y' else lexC valC (aps.drop (j + 1)) (bps.drop (j + 1))) := hid (by rw [hsd, htd, lexC])
                have HC : Hid (∀ y : Ext W2, Calls Tryz.prog 21 #[.agg #[.int .i64 x'.n, .slice bxn x'.names.length dxn, .slice bxp x'.parts.length dxp, .slice bxe x'.entries.length dxe], .agg #[.int .i64 y'.n, .slice byn y'.names.length dyn, .slice byp y'.parts.length dyp, .slice bye y'.entries.length dye]] y.1 fun e w' => e = .returned (.int .i64 (valC x' y')) ∧ ∃ z : Ext W2, w' = z.1) := hid fun y => ext_call y (IH.out x' y' [.int .i64 x'.n, .slice bxn x'.names.length dxn, .slice bxp x'.parts.length dxp, .slice bxe x'.entries.length dxe] [.int .i64 y'.n, .slice byn y'.names.length dyn, .slice byp y'.parts.length dyp, .slice bye y'.entries.length dye] y.1 (HIP.out _ hxm) (valRd.below (HB.out y) _ _ hxr) (valRd.below (HB.out y) _ _ hyr))
                have HXC := hid fun y : Ext W2 => (hxc.below (HB.out y)).four
                have HYC := hid fun y : Ext W2 => (hyc.below (HB.out y)).four
                have x0' := fun y : Ext W2 => (HXC.out y).1
                have x1' := fun y : Ext W2 => (HXC.out y).2.1
                have x2' := fun y : Ext W2 => (HXC.out y).2.2.1
                have x3' := fun y : Ext W2 => (HXC.out y).2.2.2
                have y0' := fun y : Ext W2 => (HYC.out y).1
                have y1' := fun y : Ext W2 => (HYC.out y).2.1
                have y2' := fun y : Ext W2 => (HYC.out y).2.2.1
                have y3' := fun y : Ext W2 => (HYC.out y).2.2.2
                have HJ : Hid (j + 1 ≤ aps.length ∧ j + 1 ≤ bps.length) := hid ⟨h1, h2⟩
                have hd1 : (j : Int) < (aps.length : Int) := by omega
                have hd2 : (j : Int) < (bps.length : Int) := by omega
                clear hsd htd hxr hxc hyr hyc hxm
                generalize valC x' y' = C at HS HC
                go_wp2_with fail
                refine wp_region_at (by kernel_rfl) (by kernel_rfl) _ ?_
                repeat (go_big_quiet_step ((go_at_call 21; exact HC.out _)))
                refine wpQuiet_nil ?_
                rintro _ ⟨z, rfl⟩
                clear x0' x1' x2' x3' y0' y1' y2' y3'
                by_cases hc : C = 0
                · have hcb : (C != 0) = false := by simp [hc]
                  have HR2 := He
                  rw [HS.out, if_of_zero hc] at HR2
                  clear hc He HS
                  go_wp2_with fail
                  go_roundw
                  case rel => exact ⟨j + 1, _, HJ.out.1, HJ.out.2, by go_num, rfl, HR2⟩
                  case measure => have := HJ.out.1; simp [intOf]; omega
                · have hcb : (C != 0) = true := by simp [hc]
                  have HR2 : Hid (R = C) := hid (by rw [He.out, HS.out, if_of_nz hc, if_of_nz hc])
                  clear hc He HS
                  go_wp2_with fail
                  go_ret
                  exact ⟨ret_int HR2.out.symm, HB.out _⟩
              · have HLX : Hid (lexC valC (aps.drop j) (bps.drop j) = lenI aps.length bps.length) := hid (lexC_lens _ _ _ _ hj hj' hlt)
                have HN := He
                rw [HLX.out] at HN
                by_cases hln : aps.length = bps.length
                · have hlb : ((aps.length : Int) != (bps.length : Int)) = false := by simp [hln]
                  have HR : Hid (R = lexC entC (aes.drop 0) (bes.drop 0)) := hid (by rw [HN.out, if_of_zero (lenI_eq hln)])
                  have hi1 : (aps.length : Int) ≤ (j : Int) := by omega
                  clear hlt He HN HLX hln
                  go_wp2_with fail
                  clear hi1 hlb
                  go_loopw [8, 9] (fun i _ wr => ∃ (j : Nat) (x : Ext W2), j ≤ aes.length ∧ j ≤ bes.length ∧ i = .int .i64 j ∧ wr = x.1 ∧ Hid (R = lexC entC (aes.drop j) (bes.drop j))) (fun i _ _ => aes.length - (intOf i).toNat)
                  case atStart => exact ⟨0, _, Nat.zero_le _, Nat.zero_le _, rfl, rfl, HR⟩
                  case round =>
                    obtain ⟨j, x, hj, hj', rfl, rfl, He⟩ := hrel
                    by_cases hlt : j < aes.length ∧ j < bes.length
                    · obtain ⟨h1, h2⟩ := hlt
                      obtain ⟨e, eb, eo, ea, ec, _, _, hsd, _, rfl, hek, hen, hec⟩ := entEl HAE.out j h1
                      obtain ⟨g, gb, go, ga, gc, _, _, htd, _, rfl, hgk, hgn, hgc⟩ := entEl HBE.out j h2
                      have HS : Hid (lexC entC (aes.drop j) (bes.drop j) = if entC e g ≠ 0 then entC e g else lexC entC (aes.drop (j + 1)) (bes.drop (j + 1))) := hid (by rw [hsd, htd, lexC])
                      have HC : Hid (∀ y : Ext W2, Calls Tryz.prog 49 #[.agg #[.slice ea e.clock.length ec, .string e.name], .agg #[.slice ga g.clock.length gc, .string g.name]] y.1 fun r w' => r = .returned (.int .i64 (entC e g)) ∧ ∃ z : Ext W2, w' = z.1) := hid fun y => ext_call y (rEntries_any e g [.slice ea e.clock.length ec, .string e.name] [.slice ga g.clock.length gc, .string g.name] y.1 ⟨_, rfl, SlRd.below hek (HB.out y) fun _ _ _ h => h, hen⟩ ⟨_, rfl, SlRd.below hgk (HB.out y) fun _ _ _ h => h, hgn⟩)
                      have HEC := hid fun y : Ext W2 => (hec.below (HB.out y)).two
                      have HGC := hid fun y : Ext W2 => (hgc.below (HB.out y)).two
                      have e0 := fun y : Ext W2 => (HEC.out y).1
                      have e1 := fun y : Ext W2 => (HEC.out y).2
                      have g0 := fun y : Ext W2 => (HGC.out y).1
                      have g1 := fun y : Ext W2 => (HGC.out y).2
                      have HJ : Hid (j + 1 ≤ aes.length ∧ j + 1 ≤ bes.length) := hid ⟨h1, h2⟩
                      have hd1 : (j : Int) < (aes.length : Int) := by omega
                      have hd2 : (j : Int) < (bes.length : Int) := by omega
                      clear hsd htd hek hen hec hgk hgn hgc
                      generalize entC e g = C at HS HC
                      go_wp2_with fail
                      refine wp_region_at (by kernel_rfl) (by kernel_rfl) _ ?_
                      repeat (go_big_quiet_step ((go_at_call 49; exact HC.out _)))
                      refine wpQuiet_nil ?_
                      rintro _ ⟨z, rfl⟩
                      clear e0 e1 g0 g1
                      by_cases hc : C = 0
                      · have hcb : (C != 0) = false := by simp [hc]
                        have HR2 := He
                        rw [HS.out, if_of_zero hc] at HR2
                        clear hc He HS
                        go_wp2_with fail
                        go_roundw
                        case rel => exact ⟨j + 1, _, HJ.out.1, HJ.out.2, by go_num, rfl, HR2⟩
                        case measure => have := HJ.out.1; simp [intOf]; omega
                      · have hcb : (C != 0) = true := by simp [hc]
                        have HR2 : Hid (R = C) := hid (by rw [He.out, HS.out, if_of_nz hc])
                        clear hc He HS
                        go_wp2_with fail
                        go_ret
                        exact ⟨ret_int HR2.out.symm, HB.out _⟩
                    · have HR2 : Hid (R = lenI aes.length bes.length) := hid (by rw [He.out, lexC_lens _ _ _ _ hj hj' hlt])
                      clear He
                      by_cases h1 : j < aes.length
                      · have hi2 : (bes.length : Int) ≤ (j : Int) := by omega
                        have hi1 : (j : Int) < (aes.length : Int) := by omega
                        clear h1 hlt
                        go_wp2_with fail
                        refine (HLE.out _ _ _).mono ?_
                        rintro e w1 ⟨rfl, rfl⟩
                        go_wp2_with fail
                        go_ret
                        exact ⟨ret_int HR2.out.symm, HB.out _⟩
                      · have hi1 : (aes.length : Int) ≤ (j : Int) := by omega
                        clear h1 hlt
                        go_wp2_with fail
                        refine (HLE.out _ _ _).mono ?_
                        rintro e w1 ⟨rfl, rfl⟩
                        go_wp2_with fail
                        go_ret
                        exact ⟨ret_int HR2.out.symm, HB.out _⟩
                · have hlb : ((aps.length : Int) != (bps.length : Int)) = true := by simp; omega
                  have HR2 : Hid (R = lenI aps.length bps.length) := hid (by rw [HN.out, if_of_nz (lenI_nz hln)])
                  clear HN HLX hln He
                  by_cases h1 : j < aps.length
                  · have hi2 : (bps.length : Int) ≤ (j : Int) := by omega
                    have hi1 : (j : Int) < (aps.length : Int) := by omega
                    clear h1 hlt
                    go_wp2_with fail
                    refine (HLE.out _ _ _).mono ?_
                    rintro e w1 ⟨rfl, rfl⟩
                    go_wp2_with fail
                    go_ret
                    exact ⟨ret_int HR2.out.symm, HB.out _⟩
                  · have hje : j = aps.length := by omega
                    subst hje
                    clear h1 hlt
                    go_wp2_with fail
                    refine (HLE.out _ _ _).mono ?_
                    rintro e w1 ⟨rfl, rfl⟩
                    go_wp2_with fail
                    go_ret
                    exact ⟨ret_int HR2.out.symm, HB.out _⟩
          · have hlb : ((ans.length : Int) != (bns.length : Int)) = true := by simp; omega
            have HR2 : Hid (R = lenI ans.length bns.length) := hid (by rw [HN.out, if_of_nz (lenI_nz hln)])
            clear HN HLX hln He HE2
            by_cases h1 : j < ans.length
            · have hi2 : (bns.length : Int) ≤ (j : Int) := by omega
              have hi1 : (j : Int) < (ans.length : Int) := by omega
              clear h1 hlt
              go_wp2_with fail
              refine (HLE.out _ _ _).mono ?_
              rintro e w1 ⟨rfl, rfl⟩
              go_wp2_with fail
              go_ret
              exact ⟨ret_int HR2.out.symm, HB.out _⟩
            · have hje : j = ans.length := by omega
              subst hje
              clear h1 hlt
              go_wp2_with fail
              refine (HLE.out _ _ _).mono ?_
              rintro e w1 ⟨rfl, rfl⟩
              go_wp2_with fail
              go_ret
              exact ⟨ret_int HR2.out.symm, HB.out _⟩
    · have hnb : (an != bn) = true := by simp [hn]
      have HR : Hid (R = signI (decide (an < bn))) := hid (by rw [HE.out, if_of_nz (cmpI_nz hn), cmpI_sign hn])
      clear hn HE
      have HBB : Hid (∀ O1 O2, Below w.heap.size w ((w.alloc O1).alloc O2)) := hid fun O1 O2 => ((Below.refl _ _).alloc (Nat.le_refl _) O1).alloc (by simp) O2
      go_enter Tryz.func21, Tryz.ntmps21
      go_wp2_with fail
      refine (sign_any _ _).mono ?_
      rintro e w1 ⟨rfl, rfl⟩
      go_wp2_with fail
      go_ret
      exact ⟨ret_int HR.out.symm, HBB.out _ _⟩
theorem rEqual_any (a b : Val) (ca cb : List Value) (w : World) (ha : valRd w a ca) (hb : valRd w b cb) :
    Calls Tryz.prog 19 #[.agg ca.toArray, .agg cb.toArray] w fun e w' => e = .returned (.bool (decide (valC a b = 0))) ∧ Below w.heap.size w w' := by
  have HC : Hid (∀ W, Below w.heap.size w W → Calls Tryz.prog 21 #[.agg ca.toArray, .agg cb.toArray] W fun e w' => e = .returned (.int .i64 (valC a b)) ∧ Below W.heap.size W w') :=
    hid fun W h => rCompare_any _ a b ca cb W (Nat.le_refl _) (valRd.below h _ _ ha) (valRd.below h _ _ hb)
  have HZ : Hid ((valC a b == 0) = decide (valC a b = 0)) := hid (beqI' _ _)
  obtain ⟨uan, uap, uae, rfl, gai, gan, gap, gae⟩ := (valRd_iff _ _ _).1 ha
  obtain ⟨ban, dan, rfl, _, nan⟩ := gan.shape
  obtain ⟨bap, dap, rfl, _, nap⟩ := gap.shape
  obtain ⟨bae, dae, rfl, _, nae⟩ := gae.shape
  obtain ⟨ubn, ubp, ube, rfl, gbi, gbn, gbp, gbe⟩ := (valRd_iff _ _ _).1 hb
  obtain ⟨bbn, dbn, rfl, _, nbn⟩ := gbn.shape
  obtain ⟨bbp, dbp, rfl, _, nbp⟩ := gbp.shape
  obtain ⟨bbe, dbe, rfl, _, nbe⟩ := gbe.shape
  clear ha hb gai gbi gan gbn gap gbp gae gbe
  generalize decide (valC a b = 0) = D at HZ ⊢
  generalize valC a b = E at HC HZ
  have HB : Hid (∀ O1 O2, Below w.heap.size w ((w.alloc O1).alloc O2)) := hid fun O1 O2 => ((Below.refl _ _).alloc (Nat.le_refl _) O1).alloc (by simp) O2
  go_enter Tryz.func19, Tryz.ntmps19
  go_wp2_with fail
  refine (HC.out _ (HB.out _ _)).mono ?_
  rintro e w1 ⟨rfl, hb1⟩
  have HB1 := hid ((HB.out _ _).trans (hb1.mono (HB.out _ _).size))
  clear hb1
  go_wp2_with fail
  go_ret
  exact ⟨ret_bool HZ.out, HB1.out⟩
def roomI (n m : Nat) : Int := if n ≤ m then ((m - n : Nat) : Int) else -1
theorem roomI_no {n m : Nat} (h : m < n) : roomI n m = -1 := if_neg (by omega)
theorem roomI_step {n m k : Nat} (h : k ≤ m) : roomI (k + n) m = roomI n (m - k) := by
  unfold roomI
  by_cases h1 : k + n ≤ m
  · rw [if_pos h1, if_pos (by omega)]; congr 1; omega
  · rw [if_neg h1, if_neg (by omega)]
theorem room_wrap {m n M : Nat} (hm : m ≤ 1000000) (h : n + 1 ≤ m) (hM : M = m - (1 + n)) : ∃ A K : Nat, wrap64 ((m : Int) - 1) = (A : Int) ∧ (n : Int) ≤ (A : Int) ∧ wrap64 (1 + (n : Int)) = (K : Int) ∧ wrap64 ((m : Int) - (K : Int)) = (M : Int) ∧ M ≤ 1000000 ∧ (1 : Int) ≤ (m : Int) := by
  have h1 : (m : Int) - ((1 + n : Nat) : Int) = (M : Int) := by omega
  exact ⟨m - 1, 1 + n, (IntWalk.wrap64_in _ (by omega)).trans (by omega), by omega, (IntWalk.wrap64_in _ (by omega)).trans (by omega), (IntWalk.wrap64_in _ (by omega)).trans h1, by omega, by omega⟩
theorem room_small {m n : Nat} (hm : m ≤ 1000000) (h1 : 1 ≤ m) (h : ¬ (1 ≤ m ∧ n + 1 ≤ m)) : ∃ A : Nat, wrap64 ((m : Int) - 1) = (A : Int) ∧ (A : Int) < (n : Int) ∧ (1 : Int) ≤ (m : Int) := ⟨m - 1, (IntWalk.wrap64_in _ (by omega)).trans (by omega), by omega, by omega⟩
def entsN : List En → Nat
  | [] => 0
  | e :: t => 1 + e.clock.length + entsN t
theorem entsN_eq : ∀ l : List En, entsN l = l.length + (l.map fun e => e.clock.length).sum
  | [] => rfl
  | e :: t => by rw [entsN, entsN_eq t, List.length_cons, List.map_cons, List.sum_cons]; omega
theorem room_any (f : Nat) : ∀ (v : Val) (cs : List Value) (m : Nat) (w : World), SizeOf.sizeOf v ≤ f → valRd w v cs → m ≤ 1000000 →
    Calls Tryz.prog 35 #[.agg cs.toArray, .int .i64 m] w fun e w' => e = .returned (.int .i64 (roomI (nodesN v) m)) ∧ Below w.heap.size w w' := by
  induction f with
  | zero => intro v cs m w hn; cases v; simp at hn
  | succ f ih =>
    intro v cs m w hn hv hm
    have IH := hid ih
    obtain ⟨uvn, uvp, uve, rfl, gvi, gvn, gvp, gve⟩ := (valRd_iff _ _ _).1 hv
    obtain ⟨bvn, dvn, rfl, _, nvn⟩ := gvn.shape
    obtain ⟨bvp, dvp, rfl, _, nvp⟩ := gvp.shape
    obtain ⟨bve, dve, rfl, _, nve⟩ := gve.shape
    have HIP : Hid (∀ p ∈ v.parts, SizeOf.sizeOf p ≤ f) := hid fun p hp => by have := sizeOf_vp hp; omega
    have HT : Hid (nodesN v = (1 + v.names.length) + (entsN v.entries + nodesNs v.parts)) := hid (by rw [nodesN_eq, entsN_eq]; omega)
    obtain ⟨vn, vns, vps, ves⟩ := v
    simp only [Val.n, Val.names, Val.parts, Val.entries] at gvn gvp gve nvn nvp nve HIP HT ⊢
    generalize nodesN (.mk vn vns vps ves) = T at HT ⊢
    have HP := hid gvp
    have HE := hid gve
    have HM := hid hm
    have HR0 : Hid (roomI T m = roomI ((1 + vns.length) + (entsN (ves.drop 0) + nodesNs (vps.drop 0))) m) := hid (by rw [HT.out]; rfl)
    generalize roomI T m = R at HR0 ⊢
    clear hv hn ih gvn gvp gve gvi hm HT
    have HB : Hid (∀ x : Ext (w.alloc (.cells #[.int .i64 vn, .slice bvn vns.length dvn, .slice bvp vps.length dvp, .slice bve ves.length dve] 30)), Below w.heap.size w x.1) := hid fun x => ((Below.refl _ _).alloc (Nat.le_refl _) _).trans (x.2.mono (by simp))
    have HX : Hid (∀ (x : Ext (w.alloc (.cells #[.int .i64 vn, .slice bvn vns.length dvn, .slice bvp vps.length dvp, .slice bve ves.length dve] 30))) (i : Nat) q, #[.int .i64 vn, .slice bvn vns.length dvn, .slice bvp vps.length dvp, .slice bve ves.length dve][i]? = some q → x.1.cell? ⟨w.heap.size, i, none⟩ = some q) := hid fun x i q hq => x.cell (by rw [World.cell?_alloc_at _ _ _ _ rfl]; exact hq)
    by_cases h1 : 1 ≤ m ∧ vns.length + 1 ≤ m
    · obtain ⟨h1, h2⟩ := h1
      obtain ⟨M, hM⟩ : ∃ M : Nat, M = m - (1 + vns.length) := ⟨_, rfl⟩
      have HR1 : Hid (R = roomI (entsN (ves.drop 0) + nodesNs (vps.drop 0)) M) := hid (by rw [HR0.out, roomI_step (by omega), hM])
      obtain ⟨A, K, hw1, hi2, hw2, hw3, hm1, hi1⟩ := room_wrap HM.out h2 hM
      have HM1 := hid hm1
      clear hm1
      clear h1 h2 HR0 hM
      go_enter Tryz.func35, Tryz.ntmps35
      go_wp2_with fail
      generalize w.alloc (.cells #[.int .i64 vn, .slice bvn vns.length dvn, .slice bvp vps.length dvp, .slice bve ves.length dve] 30) = W1 at HB HX ⊢
      obtain ⟨x0, hx⟩ := ext_self W1
      rw [hx]
      clear hx hw1 hw2 hw3 hi1 hi2
      have c2 : ∀ x : Ext W1, x.1.cell? ⟨w.heap.size, 2, none⟩ = some (.slice bvp vps.length dvp) := fun x => HX.out x 2 _ rfl
      have c3 : ∀ x : Ext W1, x.1.cell? ⟨w.heap.size, 3, none⟩ = some (.slice bve ves.length dve) := fun x => HX.out x 3 _ rfl
      go_loopw [1, 5] (fun q i wr => ∃ (j M : Nat) (x : Ext W1), j ≤ ves.length ∧ i = .int .i64 j ∧ q = .int .i64 M ∧ wr = x.1 ∧ Hid (M ≤ 1000000) ∧ Hid (R = roomI (entsN (ves.drop j) + nodesNs (vps.drop 0)) M)) (fun _ i _ => ves.length - (intOf i).toNat)
      case atStart => exact ⟨0, M, x0, Nat.zero_le _, rfl, rfl, rfl, HM1, HR1⟩
      case round =>
        obtain ⟨j, M, x, hj, rfl, rfl, rfl, HMM, He⟩ := hrel
        by_cases hlt : j < ves.length
        · obtain ⟨e, eb, eo, ea, ec, _, _, hed, _, rfl, _, _, hec⟩ := entEl HE.out j hlt
          have hed2 : entsN (ves.drop j) = 1 + e.clock.length + entsN (ves.drop (j + 1)) := by rw [hed, entsN]
          have HR2 : Hid (R = roomI ((1 + e.clock.length) + (entsN (ves.drop (j + 1)) + nodesNs (vps.drop 0))) M) := hid (by rw [He.out, hed2, Nat.add_assoc])
          have HEC := hid fun y : Ext W1 => (hec.below (HB.out y)).two
          have e0 := fun y : Ext W1 => (HEC.out y).1
          have HJ : Hid (j + 1 ≤ ves.length) := hid hlt
          clear hed hed2 hec He
          by_cases h1 : 1 ≤ M ∧ e.clock.length + 1 ≤ M
          · obtain ⟨h1, h2⟩ := h1
            obtain ⟨M2, hM⟩ : ∃ M2 : Nat, M2 = M - (1 + e.clock.length) := ⟨_, rfl⟩
            have HR3 : Hid (R = roomI (entsN (ves.drop (j + 1)) + nodesNs (vps.drop 0)) M2) := hid (by rw [HR2.out, roomI_step (by omega), hM])
            obtain ⟨A, K, hw1, hi2, hw2, hw3, hm1, hi1⟩ := room_wrap HMM.out h2 hM
            have HM1 := hid hm1
            clear hm1
            clear h1 h2 HR2 hM
            go_wp2_with fail
            go_roundw
            case rel => exact ⟨j + 1, M2, x, HJ.out, by go_num, by rw [hw3], rfl, HM1, HR3⟩
            case measure => have := HJ.out; simp [intOf]; omega
          · have HR3 : Hid (R = -1) := hid (by rw [HR2.out, roomI_no (by omega)])
            by_cases hm1 : 1 ≤ M
            · obtain ⟨A, hw1, hi2, hi1⟩ := room_small HMM.out hm1 h1
              clear h1 hm1 HR2
              go_wp2_with fail
              go_ret
              exact ⟨ret_int HR3.out.symm, HB.out _⟩
            · have hi1 : (M : Int) < 1 := by omega
              clear h1 hm1 HR2
              go_wp2_with fail
              go_ret
              exact ⟨ret_int HR3.out.symm, HB.out _⟩
        · have HR2 : Hid (R = roomI (nodesNs (vps.drop 0)) M) := hid (by rw [He.out, show ves.drop j = [] from List.drop_eq_nil_of_le (by omega), entsN, Nat.zero_add])
          have hje : j = ves.length := by omega
          subst hje
          clear hlt He HR1
          go_wp2_with fail
          go_loopw [1, 6] (fun q i wr => ∃ (j M : Nat) (x : Ext W1), j ≤ vps.length ∧ i = .int .i64 j ∧ q = .int .i64 M ∧ wr = x.1 ∧ Hid (M ≤ 1000000) ∧ Hid (R = roomI (nodesNs (vps.drop j)) M)) (fun _ i _ => vps.length - (intOf i).toNat)
          case atStart => exact ⟨0, M, x, Nat.zero_le _, rfl, rfl, rfl, HMM, HR2⟩
          case round =>
            obtain ⟨k, M, x, hk, rfl, rfl, rfl, HMM, He⟩ := hrel
            by_cases hlt : k < vps.length
            · obtain ⟨p, pb, po, bxn, dxn, bxp, dxp, bxe, dxe, _, hpm, hpd, _, rfl, hpr, hpc⟩ := valEl HP.out k hlt
              have HR3 : Hid (R = roomI (nodesN p + nodesNs (vps.drop (k + 1))) M) := hid (by rw [He.out, hpd, nodesNs])
              have HC : Hid (∀ y : Ext W1, Calls Tryz.prog 35 #[.agg #[.int .i64 p.n, .slice bxn p.names.length dxn, .slice bxp p.parts.length dxp, .slice bxe p.entries.length dxe], .int .i64 M] y.1 fun r w' => r = .returned (.int .i64 (roomI (nodesN p) M)) ∧ Below y.1.heap.size y.1 w') := hid fun y => IH.out p [.int .i64 p.n, .slice bxn p.names.length dxn, .slice bxp p.parts.length dxp, .slice bxe p.entries.length dxe] M y.1 (HIP.out _ hpm) (valRd.below (HB.out y) _ _ hpr) HMM.out
              obtain ⟨p0, p1, p2, p3⟩ := (hpc.below (HB.out x)).four
              have HJ : Hid (k + 1 ≤ vps.length) := hid hlt
              clear hpm hpd hpr hpc He
              go_wp2_with fail
              refine (HC.out _).mono ?_
              rintro r w1 ⟨rfl, hb1⟩
              have HX1 : Hid (Below W1.heap.size W1 w1) := hid (x.2.trans (hb1.mono x.2.size))
              clear hb1 p0 p1 p2 p3
              by_cases hn : nodesN p ≤ M
              · have hr : roomI (nodesN p) M = ((M - nodesN p : Nat) : Int) := if_pos hn
                have HR4 : Hid (R = roomI (nodesNs (vps.drop (k + 1))) (M - nodesN p)) := hid (by rw [HR3.out, roomI_step hn])
                have HM1 : Hid (M - nodesN p ≤ 1000000) := hid (by have := HMM.out; omega)
                rw [hr]
                clear hn hr HR3
                generalize M - nodesN p = M2 at HR4 HM1 ⊢
                have hi0 : (0 : Int) ≤ (M2 : Int) := by omega
                go_wp2_with fail
                go_roundw
                case rel => exact ⟨k + 1, M2, ⟨w1, HX1.out⟩, HJ.out, by go_num, rfl, rfl, HM1, HR4⟩
                case measure => have := HJ.out; simp [intOf]; omega
              · have hr : roomI (nodesN p) M = -1 := roomI_no (by omega)
                have HR4 : Hid (R = -1) := hid (by rw [HR3.out, roomI_no (by omega)])
                rw [hr]
                clear hn hr HR3
                go_wp2_with fail
                go_ret
                exact ⟨ret_int HR4.out.symm, HB.out ⟨w1, HX1.out⟩⟩
            · have hke : k = vps.length := by omega
              subst hke
              have HR3 : Hid (R = M) := hid (by rw [He.out, List.drop_length, nodesNs]; exact if_pos (Nat.zero_le _))
              clear He hlt
              go_wp2_with fail
              go_ret
              exact ⟨ret_int HR3.out.symm, HB.out _⟩
    · have HR1 : Hid (R = -1) := hid (by rw [HR0.out, roomI_no (by omega)])
      by_cases hm1 : 1 ≤ m
      · obtain ⟨A, hw1, hi2, hi1⟩ := room_small HM.out hm1 h1
        have HBB : Hid (∀ O, Below w.heap.size w (w.alloc O)) := hid fun O => (Below.refl _ _).alloc (Nat.le_refl _) O
        clear h1 hm1 HR0
        go_enter Tryz.func35, Tryz.ntmps35
        go_wp2_with fail
        go_ret
        exact ⟨ret_int HR1.out.symm, HBB.out _⟩
      · have hi1 : (m : Int) < 1 := by omega
        have HBB : Hid (∀ O, Below w.heap.size w (w.alloc O)) := hid fun O => (Below.refl _ _).alloc (Nat.le_refl _) O
        clear h1 hm1 HR0
        go_enter Tryz.func35, Tryz.ntmps35
        go_wp2_with fail
        go_ret
        exact ⟨ret_int HR1.out.symm, HBB.out _⟩
theorem small_ref (v : Val) (cs : List Value) (m : Nat) (w : World) (hv : valRd w v cs) (hm : m ≤ 1000000) :
    Calls Tryz.prog 13 #[.agg cs.toArray, .int .i64 m] w fun e w' => e = .returned (.bool (decide (nodesN v ≤ m))) ∧ Below w.heap.size w w' := by
  have HC : Hid (∀ W, Below w.heap.size w W → Calls Tryz.prog 35 #[.agg cs.toArray, .int .i64 m] W fun e w' => e = .returned (.int .i64 (roomI (nodesN v) m)) ∧ Below W.heap.size W w') := hid fun W h => room_any _ v cs m W (Nat.le_refl _) (valRd.below h _ _ hv) hm
  have HZ : Hid (decide ((0 : Int) ≤ roomI (nodesN v) m) = decide (nodesN v ≤ m)) := hid (by
    unfold roomI
    by_cases h : nodesN v ≤ m
    · rw [if_pos h, decide_eq_true h]; exact decide_eq_true (by omega)
    · rw [if_neg h, decide_eq_false h]; rfl)
  obtain ⟨uvn, uvp, uve, rfl, gvi, gvn, gvp, gve⟩ := (valRd_iff _ _ _).1 hv
  obtain ⟨bvn, dvn, rfl, _, nvn⟩ := gvn.shape
  obtain ⟨bvp, dvp, rfl, _, nvp⟩ := gvp.shape
  obtain ⟨bve, dve, rfl, _, nve⟩ := gve.shape
  clear hv gvi gvn gvp gve
  generalize decide (nodesN v ≤ m) = D at HZ ⊢
  generalize roomI (nodesN v) m = E at HC HZ
  have HB : Hid (∀ O, Below w.heap.size w (w.alloc O)) := hid fun O => (Below.refl _ _).alloc (Nat.le_refl _) O
  go_enter Tryz.func13, Tryz.ntmps13
  go_wp2_with fail
  refine (HC.out _ (HB.out _)).mono ?_
  rintro e w1 ⟨rfl, hb1⟩
  have HB1 := hid ((HB.out _).trans (hb1.mono (HB.out _).size))
  clear hb1
  go_wp2_with fail
  go_ret
  exact ⟨ret_bool HZ.out, HB1.out⟩
theorem byteEl {w : World} {a : Option Addr} {n cap : Nat} {l : List UInt8} (h : SlRd w 1 byteRd (.slice a n cap) l) (i : Nat) (hi : i < l.length) :
    ∃ c b o, l.drop i = c :: l.drop (i + 1) ∧ a = some ⟨b, o, none⟩ ∧ w.cell? ⟨b, o + i, none⟩ = some (.int .u8 c.toNat) := by
  obtain ⟨b, o, cs, h1, _, hc, rfl⟩ := h.at i hi
  exact ⟨l[i], b, o, drop_at l i hi, h1, by have := hc 0 (by simp); simp only [List.getElem_cons_zero, Nat.mul_one, Nat.add_zero] at this; exact this⟩
theorem bytes_any (va vb : Value) (a b : List UInt8) (w : World) (ha : SlRd w 1 byteRd va a) (hb : SlRd w 1 byteRd vb b) :
    Calls Tryz.prog 26 #[va, vb] w fun e w' => e = .returned (.bool (decide (a = b))) ∧ Below w.heap.size w w' := by
  obtain ⟨aa, ca, rfl, _, hma⟩ := ha.shape
  obtain ⟨ab, cb, rfl, _, hmb⟩ := hb.shape
  have HA := hid ha
  have HBB := hid hb
  clear ha hb
  by_cases hl : a.length = b.length
  · have hlb : ((a.length : Int) != (b.length : Int)) = false := by simp [hl]
    have HLL := hid hl
    have HE : Hid (decide (a = b) = decide (a.drop 0 = b.drop 0)) := hid rfl
    generalize decide (a = b) = R at HE ⊢
    clear hl
    go_enter Tryz.func26, Tryz.ntmps26
    go_wp2_with fail
    clear hlb
    go_loopw [5] (fun i wr => ∃ (j : Nat) (x : Ext w), j ≤ a.length ∧ i = .int .i64 j ∧ wr = x.1 ∧ Hid (R = decide (a.drop j = b.drop j))) (fun i _ => a.length - (intOf i).toNat)
    case atStart => exact ⟨0, ⟨w, Below.refl _ _⟩, Nat.zero_le _, rfl, rfl, HE⟩
    case round =>
      obtain ⟨j, x, hj, rfl, rfl, He⟩ := hrel
      by_cases hlt : j < a.length
      · have h2 : j < b.length := by have := HLL.out; omega
        obtain ⟨s, sb, so, hsd, rfl, hsc⟩ := byteEl HA.out j hlt
        obtain ⟨t, tb, to, htd, rfl, htc⟩ := byteEl HBB.out j h2
        have HS : Hid (R = decide (s :: a.drop (j + 1) = t :: b.drop (j + 1))) := hid (by rw [He.out, hsd, htd])
        have s0 : ∀ y : Ext w, y.1.cell? ⟨sb, so + j, none⟩ = some (.int .u8 s.toNat) := fun y => y.cell hsc
        have t0 : ∀ y : Ext w, y.1.cell? ⟨tb, to + j, none⟩ = some (.int .u8 t.toNat) := fun y => y.cell htc
        have hd1 : (j : Int) < (a.length : Int) := by omega
        have hd2 : (j : Int) < (b.length : Int) := by omega
        have HJ : Hid (j + 1 ≤ a.length) := hid hlt
        clear hsd htd hsc htc He
        by_cases hst : s = t
        · have HR : Hid (R = decide (a.drop (j + 1) = b.drop (j + 1))) := hid (by rw [HS.out, hst]; simp)
          have hq : ((s.toNat : Int) != (t.toNat : Int)) = false := by simp [hst]
          clear hst HS
          go_wp2_with fail
          refine wp_region_at (by kernel_rfl) (by kernel_rfl) _ ?_
          repeat (go_big_quiet_step (fail))
          refine wpQuiet_nil ?_
          rintro _ ⟨z, rfl⟩
          go_wp2_with fail
          go_roundw
          case rel => exact ⟨j + 1, z, HJ.out, by go_num, rfl, HR⟩
          case measure => have := HJ.out; simp [intOf]; omega
        · have HR : Hid (R = false) := hid (by rw [HS.out, decide_eq_false]; intro e; injection e with e _; exact hst e)
          have hq : ((s.toNat : Int) != (t.toNat : Int)) = true := by
            simp only [bne_iff_ne, ne_eq]
            intro e
            exact hst (UInt8.toNat_inj.1 (by omega))
          clear hst HS
          go_wp2_with fail
          refine wp_region_at (by kernel_rfl) (by kernel_rfl) _ ?_
          repeat (go_big_quiet_step (fail))
          refine wpQuiet_nil ?_
          rintro _ ⟨z, rfl⟩
          go_wp2_with fail
          go_ret
          exact ⟨ret_bool HR.out.symm, z.2⟩
      · have HR : Hid (R = true) := hid (by rw [He.out, show a.drop j = [] from List.drop_eq_nil_of_le (by omega), show b.drop j = [] from List.drop_eq_nil_of_le (by have := HLL.out; omega)]; rfl)
        have hje : j = a.length := by omega
        subst hje
        clear hlt He
        go_wp2_with fail
        go_ret
        exact ⟨ret_bool HR.out.symm, x.2⟩
  · have hlb : ((a.length : Int) != (b.length : Int)) = true := by simp; omega
    have HR : Hid (decide (a = b) = false) := hid (decide_eq_false fun h => hl (by rw [h]))
    clear hl
    go_enter Tryz.func26, Tryz.ntmps26
    go_wp2_with fail
    go_ret
    exact ⟨ret_bool HR.out.symm, Below.refl _ _⟩
def s1 (a : UInt8) : ByteArray := ⟨#[a]⟩
def L0 : Lat := .mk 6 0 0 [s1 99, s1 97] [.mk 2 0 9 [] [] [], .mk 4 0 0 [] [] []] []
def V0 : Val := .mk 0 [] [.mk 3 [] [] [], .mk 0 [s1 120, s1 121] [] []] []
def M0 : Lat := .mk 5 0 0 [] [.mk 2 0 5 [] [] []] []
def K0 : Val := .mk 0 [s1 107] [zeroV] []
theorem s1_list (a : UInt8) : (s1 a).toList = [a] := Lib.toList_data _
theorem chk_L0 : chkE L0 = 0 := by decide +kernel
theorem chk_M0 : chkE M0 = 0 := by decide +kernel
theorem lt_xy : strLt (s1 120) (s1 121) = true := by unfold strLt; rw [s1_list, s1_list]; rfl
theorem el_V0 : elemB L0 V0 = true := by
  rw [L0, isE_67 (.inl rfl)]
  refine ⟨⟨rfl, rfl, rfl⟩, rfl, ?_⟩
  show elemsB [_, _] [_, _] = true
  rw [elemsB, elemsB, elemsB, Bool.and_true, Bool.and_eq_true]
  refine ⟨(isE_23 (.inl rfl)).2 ⟨by decide, rfl, rfl, rfl⟩, isE_4.2 ⟨⟨rfl, rfl, rfl⟩, ?_⟩⟩
  show allowedB [] [s1 120, s1 121] = true
  show ((strLt (s1 120) (s1 121) && true) && [s1 120, s1 121].all (memB [])) = true
  rw [lt_xy]
  decide +kernel
theorem put_V0 : putV L0 V0 = [6, 2, 1, 120, 1, 121] := by
  rw [L0, putV_67 (.inl rfl)]
  show putVs [_, _] [_, _] = _
  rw [putVs, putVs, putVs, putV_23 (.inl rfl), putV_410 (.inl rfl)]
  show intE 3 ++ (uintE 2 ++ ([s1 120, s1 121].flatMap textE) ++ []) = _
  unfold intE textE
  rw [show zz 3 = 6 from rfl, uintE_lt (by decide), uintE_lt (by decide)]
  simp only [List.flatMap_cons, List.flatMap_nil]
  rw [show (s1 120).size = 1 from rfl, show (s1 121).size = 1 from rfl, uintE_lt (by decide)]
  rfl
theorem enc_V0 : encodeE L0 V0 = ([6, 2, 1, 120, 1, 121], 0) := by
  unfold encodeE
  rw [if_neg (fun h => h chk_L0), if_neg (by rw [el_V0]; decide), put_V0]
theorem dec_V0 : decodeV L0 [6, 2, 1, 120, 1, 121] = (V0, 0) := (decodeV_iff chk_L0 _ _ (by decide)).2 ⟨el_V0, put_V0.symm⟩
theorem txt_V0 : textE' L0 V0 = ([40, 99, 58, 32, 51, 44, 32, 97, 58, 32, 123, 120, 44, 121, 125, 41], 0) := by
  unfold textE'
  rw [if_neg (fun h => h chk_L0), if_neg (by rw [el_V0]; decide)]
  have h3 : Lib.itoa 3 = [51] := by unfold Lib.itoa; rw [if_neg (by decide)]; rw [Lib.decDigits_one (by decide)]; rfl
  have hl : textV (.mk 2 0 9 [] [] []) (.mk 3 [] [] []) = [51] := by rw [textV, if_neg (by decide), if_pos (by decide)]; exact h3
  have hs : textV (.mk 4 0 0 [] [] []) (.mk 0 [s1 120, s1 121] [] []) = [123, 120, 44, 121, 125] := by
    rw [textV, if_neg (by decide), if_neg (by decide), if_pos (by decide)]
    rfl
  have e : textV L0 V0 = 40 :: (Lib.join [bsOf (s1 99) ++ 58 :: 32 :: [51], bsOf (s1 97) ++ 58 :: 32 :: [123, 120, 44, 121, 125]] [44, 32] ++ [41]) := by
    rw [L0, textV, if_neg (by decide), if_neg (by decide), if_neg (by decide), if_neg (by decide), if_neg (by decide), if_neg (by decide), if_pos (by decide)]
    show 40 :: (Lib.join (textProd [_, _] [_, _] [_, _]) _ ++ _) = _
    rw [textProd, textProd, textProd, hl, hs]
  rw [e]
  rfl
theorem top_L0 : topE L0 = (zeroV, 14) := by
  unfold topE
  rw [if_pos chk_L0]
  have : topV L0 = (zeroV, false) := by
    rw [L0, topV, if_neg (by decide), if_neg (by decide), if_neg (by decide), if_neg (by decide), if_neg (by decide), if_neg (by decide), if_neg (by decide), if_neg]
    rw [topOk, topOk, topOk, topV, topV]
    decide
  rw [this]
  rfl
theorem val_V0 : validB L0 V0 = true := by unfold validB; rw [el_V0, chk_L0]; rfl
theorem val_Z0 : validB L0 zeroV = false := by
  unfold validB
  have : elemB L0 zeroV = false := by
    cases h : elemB L0 zeroV
    · rfl
    · rw [L0, isE_67 (.inl rfl)] at h
      exact absurd h.2.1 (by decide)
  rw [this, Bool.and_false]
theorem val_K0 : validB M0 K0 = false := by
  unfold validB
  have : elemB M0 K0 = false := by
    cases h : elemB M0 K0
    · rfl
    · rw [M0, isE_5] at h
      have h2 := ((mapB_one _ _).1 h.2.2.2 zeroV (by simp [K0, Val.parts])).2
      exact absurd ((valC_zero _ _).2 (by rw [botV]; rfl)) h2
  rw [this, Bool.and_false]
theorem nod_V0 : nodesN V0 = 5 := by
  rw [V0, nodesN, nodesNs, nodesNs, nodesNs, nodesN, nodesN, nodesNs]
  rfl
theorem cmp_V0 : valC zeroV V0 = -1 := by
  have h1 : cmpI zeroV.n V0.n = 0 := rfl
  have h2 : lexC strC zeroV.names V0.names = 0 := rfl
  have h3 : lexC valC zeroV.parts V0.parts = -1 := rfl
  rw [valC_eq, if_of_zero h1, if_of_zero h2, if_of_nz (by rw [h3]; decide), h3]
end Go.Proofs.YtmdjnaobllajmaaGreatDoor
