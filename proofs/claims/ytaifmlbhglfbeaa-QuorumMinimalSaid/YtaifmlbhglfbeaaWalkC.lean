/-
  The walks of inside, Is, Blocks, Survives of the quorum package.
-/
import Derived.Test.YtaifmlbhglfbeaaWalkB
namespace Go.Proofs.Ytaifmlbhglfbeaa
open Go.RowKit

def insideN : List Int → List Int → Nat
  | [], _ => 0
  | r :: t, x => (if hasB x r then 1 else 0) + insideN t x
theorem insideN_le (ms x : List Int) : insideN ms x ≤ ms.length := by
  induction ms with
  | nil => simp [insideN]
  | cons r t ih => simp only [insideN, List.length_cons]; split <;> omega

theorem insideN_yes (ms x : List Int) (k : Nat) (h : k < ms.length) (hy : hasB x ms[k] = true) : insideN (ms.drop k) x = insideN (ms.drop (k + 1)) x + 1 := by
  rw [drop_cons ms k h, insideN, if_pos hy]; omega
theorem insideN_no (ms x : List Int) (k : Nat) (h : k < ms.length) (hy : hasB x ms[k] = false) : insideN (ms.drop k) x = insideN (ms.drop (k + 1)) x := by
  rw [drop_cons ms k h, insideN, if_neg (by simp [hy])]; omega

set_option maxHeartbeats 1000000 in
theorem inside_any (v u : Value) (ms x : List Int) (w : World) (hv : Ints w v ms) (hu : Ints w u x) :
    Calls Try.prog 36 #[v, u] w fun e w' => e = .returned (.int .i64 (insideN ms x : Nat)) ∧ w' = w := by
  obtain ⟨a, cap, rfl, _hnn, hmax, hc⟩ := hv
  obtain ⟨a2, cap2, rfl, _hnn2, hmax2, hc2⟩ := hu
  have hle := insideN_le ms x
  go_enter Try.func36, Try.ntmps36
  go_wp2
  go_loop [5, 12] (fun n i => ∃ (k c : Nat), k ≤ ms.length ∧ i = .int .i64 k ∧ n = .int .i64 c ∧ c ≤ k ∧ insideN ms x = c + insideN (ms.drop k) x) (fun _ i => ms.length - (intOf i).toNat)
  case atStart => exact ⟨0, 0, Nat.zero_le _, rfl, rfl, by omega, by simp⟩
  case round =>
    obtain ⟨k, c, hk, rfl, rfl, hck, he⟩ := hrel
    have He := hid he; clear he
    by_cases hlt : k < ms.length
    · obtain ⟨b, off, rfl, hcell⟩ := hc k hlt
      clear hc
      go_wp2
      go_loop [5, 18] (fun n i => ∃ (j : Nat), j ≤ x.length ∧ i = .int .i64 j ∧ n = .int .i64 c ∧ hasB x ms[k] = hasB (x.drop j) ms[k]) (fun _ i => x.length - (intOf i).toNat)
      case atStart => exact ⟨0, Nat.zero_le _, rfl, rfl, by simp⟩
      case round =>
        obtain ⟨j, hj, rfl, rfl, hej⟩ := hrel
        have Hej := hid hej; clear hej
        by_cases hlt2 : j < x.length
        · obtain ⟨b2, off2, rfl, hcell2⟩ := hc2 j hlt2
          clear hc2
          have HD := hid (drop_cons x j hlt2)
          go_wp2
          · have ht : (ms[k] == x[j]) = true := by assumption
            have hy : hasB x ms[k] = true := by rw [Hej.out, HD.out, hasB, Bool.beq_comm, ht]; rfl
            go_round
            case rel => exact ⟨k + 1, c + 1, by omega, by go_num, by go_num, by omega, by rw [He.out, insideN_yes ms x k hlt hy]; omega⟩
            case measure => simp [intOf]; omega
          · have ht : (ms[k] == x[j]) = false := by assumption
            go_round
            case rel => exact ⟨j + 1, by omega, by go_num, rfl, by rw [Hej.out, HD.out, hasB, Bool.beq_comm, ht]; rfl⟩
            case measure => simp [intOf]; omega
        · go_wp2
          have hn : hasB x ms[k] = false := by rw [Hej.out, List.drop_eq_nil_of_le (by omega)]; rfl
          go_round
          case rel => exact ⟨k + 1, c, by omega, by go_num, rfl, by omega, by rw [He.out, insideN_no ms x k hlt hn]⟩
          case measure => simp [intOf]; omega
    · go_wp2
      go_ret
      exact ⟨ret_int (by rw [He.out, List.drop_eq_nil_of_le (by omega)]; simp [insideN]), rfl⟩

def isB (m : Int) (ms x : List Int) : Bool := validB m ms && decide (needI m ms.length ≤ insideN ms x)
def blocksB (m : Int) (ms x : List Int) : Bool := validB m ms && decide ((ms.length : Int) - insideN ms x < needI m ms.length)
def survivesB (m : Int) (ms x : List Int) : Bool := validB m ms && decide (needI m ms.length ≤ (ms.length : Int) - insideN ms x)

set_option maxHeartbeats 1000000 in
theorem is_any (m : Int) (v u : Value) (ms x : List Int) (w : World) (hv : Ints w v ms) (hu : Ints w u x) :
    Calls Try.prog 22 #[.int .i64 m, v, u] w fun e w' => e = .returned (.bool (isB m ms x)) ∧ w' = w := by
  have HI := inside_any v u ms x w hv hu
  have HV := valid_any m v ms w hv
  obtain ⟨a, cap, rfl, _hnn, hmax, hc⟩ := hv
  clear hc
  have hle := insideN_le ms x
  have hnd := need_bd m ms.length
  cases hs : validB m ms
  all_goals
    have H := hid hs; clear hs
    go_enter Try.func22, Try.ntmps22
    go_wp2_with (first | (go_at_call 20; refine HV.mono ?_; rintro e w' ⟨rfl, rfl⟩; rw [H.out]) | (go_at_call 36; refine HI.mono ?_; rintro e w' ⟨rfl, rfl⟩) | (go_at_call 15; refine (need_any _ _ _).mono ?_; rintro e w' ⟨rfl, rfl⟩))
    go_ret
    exact ⟨by simp [isB, H.out], rfl⟩

set_option maxHeartbeats 1000000 in
theorem blocks_any (m : Int) (v u : Value) (ms x : List Int) (w : World) (hv : Ints w v ms) (hu : Ints w u x) :
    Calls Try.prog 31 #[.int .i64 m, v, u] w fun e w' => e = .returned (.bool (blocksB m ms x)) ∧ w' = w := by
  have HI := inside_any v u ms x w hv hu
  have HV := valid_any m v ms w hv
  obtain ⟨a, cap, rfl, _hnn, hmax, hc⟩ := hv
  clear hc
  have hle := insideN_le ms x
  have hnd := need_bd m ms.length
  cases hs : validB m ms
  all_goals
    have H := hid hs; clear hs
    go_enter Try.func31, Try.ntmps31
    go_wp2_with (first | (go_at_call 20; refine HV.mono ?_; rintro e w' ⟨rfl, rfl⟩; rw [H.out]) | (go_at_call 36; refine HI.mono ?_; rintro e w' ⟨rfl, rfl⟩) | (go_at_call 15; refine (need_any _ _ _).mono ?_; rintro e w' ⟨rfl, rfl⟩))
    go_ret
    exact ⟨by simp [blocksB, H.out], rfl⟩

set_option maxHeartbeats 1000000 in
theorem survives_any (m : Int) (v u : Value) (ms x : List Int) (w : World) (hv : Ints w v ms) (hu : Ints w u x) :
    Calls Try.prog 24 #[.int .i64 m, v, u] w fun e w' => e = .returned (.bool (survivesB m ms x)) ∧ w' = w := by
  have HI := inside_any v u ms x w hv hu
  have HV := valid_any m v ms w hv
  obtain ⟨a, cap, rfl, _hnn, hmax, hc⟩ := hv
  clear hc
  have hle := insideN_le ms x
  have hnd := need_bd m ms.length
  cases hs : validB m ms
  all_goals
    have H := hid hs; clear hs
    go_enter Try.func24, Try.ntmps24
    go_wp2_with (first | (go_at_call 20; refine HV.mono ?_; rintro e w' ⟨rfl, rfl⟩; rw [H.out]) | (go_at_call 36; refine HI.mono ?_; rintro e w' ⟨rfl, rfl⟩) | (go_at_call 15; refine (need_any _ _ _).mono ?_; rintro e w' ⟨rfl, rfl⟩))
    go_ret
    exact ⟨by simp [survivesB, H.out], rfl⟩

end Go.Proofs.Ytaifmlbhglfbeaa
