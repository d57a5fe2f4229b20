/-
  The walks of Valid, inside, long, has: functions that read lists of ints.
-/
import Derived.Test.YtaifmlbhglfbeaaWalkA
namespace Go.Proofs.Ytaifmlbhglfbeaa
open Go.RowKit

def validFrom : Int → List Int → Bool
  | _, [] => true
  | last, r :: t => if r ≤ last ∨ 12 ≤ r then false else validFrom r t
def validB (mode : Int) (xs : List Int) : Bool := sizedB mode xs.length && validFrom (-1) xs

theorem drop_cons (xs : List Int) (k : Nat) (h : k < xs.length) : xs.drop k = xs[k] :: xs.drop (k + 1) := List.drop_eq_getElem_cons h

set_option maxHeartbeats 400000 in
theorem valid_any (m : Int) (v : Value) (xs : List Int) (w : World) (hv : Ints w v xs) :
    Calls Try.prog 20 #[.int .i64 m, v] w fun e w' => e = .returned (.bool (validB m xs)) ∧ w' = w := by
  obtain ⟨a, cap, rfl, _hnn, hmax, hc⟩ := hv
  cases hs : sizedB m xs.length
  · have H := hid hs; clear hs
    go_enter Try.func20, Try.ntmps20
    go_wp2_with (go_at_call 34; refine (sized_any _ _ _).mono ?_; rintro e w' ⟨rfl, rfl⟩; rw [H.out])
    go_ret
    exact ⟨by simp [validB, H.out], rfl⟩
  · have H := hid hs; clear hs
    go_enter Try.func20, Try.ntmps20
    go_wp2_with (go_at_call 34; refine (sized_any _ _ _).mono ?_; rintro e w' ⟨rfl, rfl⟩; rw [H.out])
    go_loop [5, 15] (fun l i => ∃ (k : Nat) (last : Int), k ≤ xs.length ∧ i = .int .i64 k ∧ l = .int .i64 last ∧ validFrom (-1) xs = validFrom last (xs.drop k)) (fun _ i => xs.length - (intOf i).toNat)
    case atStart => exact ⟨0, -1, Nat.zero_le _, rfl, rfl, by simp⟩
    case round =>
      obtain ⟨k, last, hk, rfl, rfl, he⟩ := hrel
      have He := hid he; clear he
      by_cases hlt : k < xs.length
      · obtain ⟨b, off, rfl, hcell⟩ := hc k hlt
        clear hc
        have HD := hid (drop_cons xs k hlt)
        go_wp2
        · go_ret
          exact ⟨ret_bool (by rw [validB, H.out, He.out, HD.out, validFrom, if_pos ‹_›]; rfl), rfl⟩
        · go_round
          case rel => exact ⟨k + 1, xs[k], by omega, by go_num, rfl, by rw [He.out, HD.out, validFrom, if_neg (by omega)]⟩
          case measure => simp [intOf]; omega
        · go_ret
          exact ⟨ret_bool (by rw [validB, H.out, He.out, HD.out, validFrom, if_pos (by omega)]; rfl), rfl⟩
      · go_wp2
        go_ret
        exact ⟨ret_bool (by rw [validB, H.out, He.out, List.drop_eq_nil_of_le (by omega)]; rfl), rfl⟩

def hasB : List Int → Int → Bool
  | [], _ => false
  | x :: t, r => x == r || hasB t r
theorem hasB_eq (xs : List Int) (r : Int) : hasB xs r = decide (r ∈ xs) := by
  induction xs with
  | nil => rfl
  | cons x t ih => simp [hasB, ih, Bool.decide_or, eq_comm, Bool.beq_eq_decide_eq]

set_option maxHeartbeats 400000 in
theorem has_any (v : Value) (xs : List Int) (r : Int) (w : World) (hv : Ints w v xs) :
    Calls Try.prog 42 #[v, .int .i64 r] w fun e w' => e = .returned (.bool (hasB xs r)) ∧ w' = w := by
  obtain ⟨a, cap, rfl, _hnn, hmax, hc⟩ := hv
  go_enter Try.func42, Try.ntmps42
  go_wp2
  go_loop [5] (fun i => ∃ (k : Nat), k ≤ xs.length ∧ i = .int .i64 k ∧ hasB xs r = hasB (xs.drop k) r) (fun i => xs.length - (intOf i).toNat)
  case atStart => exact ⟨0, Nat.zero_le _, rfl, by simp⟩
  case round =>
    obtain ⟨k, hk, rfl, he⟩ := hrel
    have He := hid he; clear he
    by_cases hlt : k < xs.length
    · obtain ⟨b, off, rfl, hcell⟩ := hc k hlt
      clear hc
      have HD := hid (drop_cons xs k hlt)
      go_wp2
      · have ht : (xs[k] == r) = true := by assumption
        go_ret
        exact ⟨ret_bool (by rw [He.out, HD.out, hasB, ht]; rfl), rfl⟩
      · have ht : (xs[k] == r) = false := by assumption
        go_round
        case rel => exact ⟨k + 1, by omega, by go_num, by rw [He.out, HD.out, hasB, ht]; rfl⟩
        case measure => simp [intOf]; omega
    · go_wp2
      go_ret
      exact ⟨ret_bool (by rw [He.out, List.drop_eq_nil_of_le (by omega)]; rfl), rfl⟩

set_option maxHeartbeats 400000 in
theorem long_any (v : Value) (xs : List Int) (w : World) (hv : Ints w v xs) :
    Calls Try.prog 19 #[v] w fun e w' => e = .returned (.bool (decide (100 < xs.length))) ∧ w' = w := by
  obtain ⟨a, cap, rfl, _hnn, hmax, hc⟩ := hv
  go_enter Try.func19, Try.ntmps19
  go_wp2
  go_ret
  exact ⟨ret_bool (by simp; omega), rfl⟩

/-- The check of one element in the reference. -/
def badAt (xs : List Int) (k : Nat) : Bool := decide (xs.getD k 0 < 0) || decide (12 ≤ xs.getD k 0) || (decide (0 < k) && decide (xs.getD k 0 ≤ xs.getD (k - 1) 0))

def goodFrom : List Int → Nat → Nat → Bool
  | _, _, 0 => true
  | xs, k, n + 1 => !badAt xs k && goodFrom xs (k + 1) n

theorem valid_good (xs : List Int) (n : Nat) : ∀ k, k + n = xs.length → goodFrom xs k n = validFrom (if k = 0 then -1 else xs.getD (k - 1) 0) (xs.drop k) ∨ (0 < k ∧ xs.getD (k - 1) 0 < 0) := by
  induction n with
  | zero =>
    intro k hk
    left
    rw [List.drop_eq_nil_of_le (by omega)]
    rfl
  | succ n ih =>
    intro k hk
    have hlt : k < xs.length := by omega
    have hg : xs.getD k 0 = xs[k] := by simp [List.getD, hlt]
    rw [drop_cons xs k hlt, goodFrom, validFrom]
    by_cases hneg : 0 < k ∧ xs.getD (k - 1) 0 < 0
    · exact .inr hneg
    · left
      have := ih (k + 1) (by omega)
      simp only [Nat.add_sub_cancel, Nat.add_one_ne_zero, if_false, hg] at this
      by_cases hb : badAt xs k = true
      · rw [hb]
        simp only [badAt, hg, Bool.or_eq_true, decide_eq_true_eq, Bool.and_eq_true] at hb
        rw [if_pos]
        · simp
        · split <;> rename_i h0
          · subst h0; omega
          · omega
      · have hb' : badAt xs k = false := by simpa using hb
        rw [hb']
        simp only [badAt, hg, Bool.or_eq_false_iff, decide_eq_false_iff_not, Bool.and_eq_false_iff] at hb'
        rw [if_neg]
        · rcases this with h | h
          · rw [h]; rfl
          · omega
        · split <;> omega

theorem valid_good0 (xs : List Int) : goodFrom xs 0 xs.length = validFrom (-1) xs := by
  rcases valid_good xs xs.length 0 (by omega) with h | h
  · simpa using h
  · omega

theorem goodFrom_step (xs : List Int) (k : Nat) (h : k < xs.length) : goodFrom xs k (xs.length - k) = (!badAt xs k && goodFrom xs (k + 1) (xs.length - (k + 1))) := by
  rw [show xs.length - k = (xs.length - (k + 1)) + 1 by omega, goodFrom]
theorem getD_lt (xs : List Int) (k : Nat) (h : k < xs.length) : xs.getD k 0 = xs[k] := by simp [List.getD, h]
theorem badAt_1 (xs : List Int) (k : Nat) (h : k < xs.length) (h1 : xs[k] < 0 ∨ 12 ≤ xs[k]) : badAt xs k = true := by
  unfold badAt
  rw [getD_lt xs k h]
  rcases h1 with h1 | h1 <;> simp [h1]
theorem badAt_2 (xs : List Int) (k : Nat) (h : k < xs.length) (h0 : 0 < k) (h1 : xs[k] ≤ xs[k-1]) : badAt xs k = true := by
  unfold badAt
  rw [getD_lt xs k h, getD_lt xs (k-1) (by omega)]
  simp [h0, h1]
theorem badAt_no (xs : List Int) (k : Nat) (h : k < xs.length) (h1 : 0 ≤ xs[k]) (h2 : xs[k] < 12) (h3 : ∀ (_ : 0 < k), xs[k-1] < xs[k]) : badAt xs k = false := by
  unfold badAt
  rw [getD_lt xs k h, getD_lt xs (k-1) (by omega)]
  simp only [Bool.or_eq_false_iff, Bool.and_eq_false_iff, decide_eq_false_iff_not]
  refine ⟨⟨by omega, by omega⟩, ?_⟩
  by_cases h0 : 0 < k
  · right; have := h3 h0; omega
  · left; exact h0

end Go.Proofs.Ytaifmlbhglfbeaa
