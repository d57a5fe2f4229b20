/-
  The walks of the functions of the quorum package and of its reference that only read: sized, Faults, Need, Overlap, Valid, inside, long, has.
-/
import Derived.Test.YtaifmlbhglfbeaaBase
namespace Go.Proofs.Ytaifmlbhglfbeaa
open Go.RowKit

def sizedB (mode n : Int) : Bool := decide ((mode = 1 ∨ mode = 2) ∧ 1 ≤ n ∧ n ≤ 12)

set_option maxHeartbeats 400000 in
theorem sized_any (m n : Int) (w : World) :
    Calls Try.prog 34 #[.int .i64 m, .int .i64 n] w fun e w' => e = .returned (.bool (sizedB m n)) ∧ w' = w := by
  have h : m = 1 ∨ m = 2 ∨ ((m == 1) = false ∧ (m == 2) = false) := by
    simp; omega
  rcases h with rfl | rfl | ⟨h1, h2⟩
  all_goals
    go_enter Try.func34, Try.ntmps34
    go_wp2
    all_goals go_ret
    all_goals refine ⟨?_, rfl⟩
    all_goals simp_all [sizedB] <;> omega

set_option maxHeartbeats 400000 in
theorem size_any (m n : Int) (w : World) :
    Calls Try.prog 35 #[.int .i64 m, .int .i64 n] w fun e w' => e = .returned (.bool (sizedB m n)) ∧ w' = w := by
  have h : m = 1 ∨ m = 2 ∨ ((m == 1) = false ∧ (m == 2) = false) := by
    simp; omega
  rcases h with rfl | rfl | ⟨h1, h2⟩
  all_goals
    go_enter Try.func35, Try.ntmps35
    go_wp2
    all_goals go_ret
    all_goals refine ⟨?_, rfl⟩
    all_goals simp_all [sizedB] <;> omega

def faultsI (m n : Int) : Int := if sizedB m n then (if m = 2 then (n - 1) / 3 else (n - 1) / 2) else 0
def needI (m n : Int) : Int := if sizedB m n then n - faultsI m n else 0
def overlapI (m n : Int) : Int := if sizedB m n then (if 2 * needI m n - n < 0 then 0 else 2 * needI m n - n) else 0

theorem sizedB_true {m n : Int} (h : sizedB m n = true) : (m = 1 ∨ m = 2) ∧ 1 ≤ n ∧ n ≤ 12 := by simpa [sizedB] using h

theorem faults_bd (m n : Int) : 0 ≤ faultsI m n ∧ faultsI m n ≤ 5 := by
  unfold faultsI
  split
  · have := sizedB_true ‹_›; split <;> omega
  · omega
theorem need_bd (m n : Int) : 0 ≤ needI m n ∧ needI m n ≤ 12 := by
  have := faults_bd m n
  unfold needI
  split
  · rename_i h
    have h2 := sizedB_true h
    unfold faultsI
    rw [if_pos h]
    split <;> omega
  · omega

set_option maxHeartbeats 400000 in
theorem faults_any (m n : Int) (w : World) :
    Calls Try.prog 13 #[.int .i64 m, .int .i64 n] w fun e w' => e = .returned (.int .i64 (faultsI m n)) ∧ w' = w := by
  cases hs : sizedB m n
  · have H := hid hs; clear hs
    go_enter Try.func13, Try.ntmps13
    go_wp2_with (go_at_call 34; refine (sized_any _ _ _).mono ?_; rintro e w' ⟨rfl, rfl⟩; rw [H.out])
    go_ret
    exact ⟨by simp [faultsI, H.out], rfl⟩
  · obtain ⟨hm, h1, h2⟩ := sizedB_true hs
    have H := hid hs; clear hs
    rcases hm with rfl | rfl
    all_goals
      go_enter Try.func13, Try.ntmps13
      go_wp2_with (go_at_call 34; refine (sized_any _ _ _).mono ?_; rintro e w' ⟨rfl, rfl⟩; rw [H.out])
      go_ret
      exact ⟨by simp [faultsI, H.out], rfl⟩

set_option maxHeartbeats 400000 in
theorem rfaults_any (m n : Int) (w : World) :
    Calls Try.prog 14 #[.int .i64 m, .int .i64 n] w fun e w' => e = .returned (.int .i64 (faultsI m n)) ∧ w' = w := by
  cases hs : sizedB m n
  · have H := hid hs; clear hs
    go_enter Try.func14, Try.ntmps14
    go_wp2_with (go_at_call 35; refine (size_any _ _ _).mono ?_; rintro e w' ⟨rfl, rfl⟩; rw [H.out])
    go_ret
    exact ⟨by simp [faultsI, H.out], rfl⟩
  · obtain ⟨hm, h1, h2⟩ := sizedB_true hs
    have H := hid hs; clear hs
    rcases hm with rfl | rfl
    all_goals
      go_enter Try.func14, Try.ntmps14
      go_wp2_with (go_at_call 35; refine (size_any _ _ _).mono ?_; rintro e w' ⟨rfl, rfl⟩; rw [H.out])
      go_ret
      exact ⟨by simp [faultsI, H.out], rfl⟩

set_option maxHeartbeats 400000 in
theorem need_any (m n : Int) (w : World) :
    Calls Try.prog 15 #[.int .i64 m, .int .i64 n] w fun e w' => e = .returned (.int .i64 (needI m n)) ∧ w' = w := by
  cases hs : sizedB m n
  · have H := hid hs; clear hs
    go_enter Try.func15, Try.ntmps15
    go_wp2_with (go_at_call 34; refine (sized_any _ _ _).mono ?_; rintro e w' ⟨rfl, rfl⟩; rw [H.out])
    go_ret
    exact ⟨by simp [needI, H.out], rfl⟩
  · obtain ⟨hm, h1, h2⟩ := sizedB_true hs
    have hf := faults_bd m n
    have H := hid hs; clear hs
    go_enter Try.func15, Try.ntmps15
    go_wp2_with (first | (go_at_call 34; refine (sized_any _ _ _).mono ?_; rintro e w' ⟨rfl, rfl⟩; rw [H.out]) | (go_at_call 13; refine (faults_any _ _ _).mono ?_; rintro e w' ⟨rfl, rfl⟩))
    go_ret
    exact ⟨by simp [needI, H.out], rfl⟩

set_option maxHeartbeats 400000 in
theorem rneed_any (m n : Int) (w : World) :
    Calls Try.prog 16 #[.int .i64 m, .int .i64 n] w fun e w' => e = .returned (.int .i64 (needI m n)) ∧ w' = w := by
  cases hs : sizedB m n
  · have H := hid hs; clear hs
    go_enter Try.func16, Try.ntmps16
    go_wp2_with (go_at_call 35; refine (size_any _ _ _).mono ?_; rintro e w' ⟨rfl, rfl⟩; rw [H.out])
    go_ret
    exact ⟨by simp [needI, H.out], rfl⟩
  · obtain ⟨hm, h1, h2⟩ := sizedB_true hs
    have hf := faults_bd m n
    have H := hid hs; clear hs
    go_enter Try.func16, Try.ntmps16
    go_wp2_with (first | (go_at_call 35; refine (size_any _ _ _).mono ?_; rintro e w' ⟨rfl, rfl⟩; rw [H.out]) | (go_at_call 14; refine (rfaults_any _ _ _).mono ?_; rintro e w' ⟨rfl, rfl⟩))
    go_ret
    exact ⟨by simp [needI, H.out], rfl⟩

set_option maxHeartbeats 400000 in
theorem overlap_any (m n : Int) (w : World) :
    Calls Try.prog 17 #[.int .i64 m, .int .i64 n] w fun e w' => e = .returned (.int .i64 (overlapI m n)) ∧ w' = w := by
  cases hs : sizedB m n
  · have H := hid hs; clear hs
    go_enter Try.func17, Try.ntmps17
    go_wp2_with (go_at_call 34; refine (sized_any _ _ _).mono ?_; rintro e w' ⟨rfl, rfl⟩; rw [H.out])
    go_ret
    exact ⟨by simp [overlapI, H.out], rfl⟩
  · obtain ⟨hm, h1, h2⟩ := sizedB_true hs
    have hf := need_bd m n
    have H := hid hs; clear hs
    go_enter Try.func17, Try.ntmps17
    go_wp2_with (first | (go_at_call 34; refine (sized_any _ _ _).mono ?_; rintro e w' ⟨rfl, rfl⟩; rw [H.out]) | (go_at_call 15; refine (need_any _ _ _).mono ?_; rintro e w' ⟨rfl, rfl⟩))
    all_goals go_ret
    all_goals exact ⟨ret_int (by unfold overlapI; rw [if_pos H.out]; split <;> omega), rfl⟩

set_option maxHeartbeats 400000 in
theorem roverlap_any (m n : Int) (w : World) :
    Calls Try.prog 18 #[.int .i64 m, .int .i64 n] w fun e w' => e = .returned (.int .i64 (overlapI m n)) ∧ w' = w := by
  cases hs : sizedB m n
  · have H := hid hs; clear hs
    go_enter Try.func18, Try.ntmps18
    go_wp2_with (go_at_call 35; refine (size_any _ _ _).mono ?_; rintro e w' ⟨rfl, rfl⟩; rw [H.out])
    go_ret
    exact ⟨by simp [overlapI, H.out], rfl⟩
  · obtain ⟨hm, h1, h2⟩ := sizedB_true hs
    have hf := need_bd m n
    have H := hid hs; clear hs
    go_enter Try.func18, Try.ntmps18
    go_wp2_with (first | (go_at_call 35; refine (size_any _ _ _).mono ?_; rintro e w' ⟨rfl, rfl⟩; rw [H.out]) | (go_at_call 16; refine (rneed_any _ _ _).mono ?_; rintro e w' ⟨rfl, rfl⟩))
    all_goals go_ret
    all_goals exact ⟨ret_int (by unfold overlapI; rw [if_pos H.out]; split <;> omega), rfl⟩

end Go.Proofs.Ytaifmlbhglfbeaa
