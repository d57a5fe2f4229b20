/-
  The walk of the reference's Valid.
-/
import Derived.Test.YtaifmlbhglfbeaaWalkB
namespace Go.Proofs.Ytaifmlbhglfbeaa
open Go.RowKit

set_option maxHeartbeats 8000000 in
theorem rvalid_any (m : Int) (v : Value) (xs : List Int) (w : World) (hv : Ints w v xs) :
    Calls Try.prog 21 #[.int .i64 m, v] w fun e w' => e = .returned (.bool (validB m xs)) ∧ ∃ n, w' = w.drewN n := by
  obtain ⟨a, cap, rfl, _hnn, hmax, hc⟩ := hv
  cases hs : sizedB m xs.length
  · have h : (m = 1 ∧ (xs.length < 1 ∨ 12 < xs.length)) ∨ (m = 2 ∧ (xs.length < 1 ∨ 12 < xs.length)) ∨ ((m == 1) = false ∧ (m == 2) = false ∧ (m != 1) = true ∧ (m != 2) = true) := by
      have hs' := of_decide_eq_false hs
      by_cases m1 : m = 1
      · left; exact ⟨m1, by omega⟩
      · by_cases m2 : m = 2
        · right; left; exact ⟨m2, by omega⟩
        · right; right; simp [m1, m2]
    have H := hid hs; clear hs
    rcases h with ⟨rfl, h⟩ | ⟨rfl, h⟩ | ⟨h1, h2, h3, h4⟩
    · rcases h with h | h
      all_goals
        go_enter Try.func21, Try.ntmps21
        go_wp2
        go_ret
        exact ⟨by simp [validB, H.out], 0, rfl⟩
    · rcases h with h | h
      all_goals
        go_enter Try.func21, Try.ntmps21
        go_wp2
        go_ret
        exact ⟨by simp [validB, H.out], 0, rfl⟩
    · go_enter Try.func21, Try.ntmps21
      go_wp2
      go_ret
      exact ⟨by simp [validB, H.out], 0, rfl⟩
  · obtain ⟨hm, hs1, hs2⟩ := sizedB_true hs
    have H := hid hs; clear hs
    rcases hm with rfl | rfl
    all_goals
      go_enter Try.func21, Try.ntmps21
      go_wp2
      go_loopw [5] (fun i wr => ∃ (k n : Nat), wr = w.drewN n ∧ k ≤ xs.length ∧ i = .int .i64 k ∧ goodFrom xs 0 xs.length = goodFrom xs k (xs.length - k)) (fun i _ => xs.length - (intOf i).toNat)
      case atStart => exact ⟨0, 0, rfl, Nat.zero_le _, rfl, by simp⟩
      case round =>
        obtain ⟨k, n, rfl, hk, rfl, he⟩ := hrel
        have He := hid he; clear he
        by_cases hlt : k < xs.length
        · obtain ⟨b, off, rfl, hcell⟩ := hc k hlt
          have hprev : Hid (∀ _ : 0 < k, w.cell? ⟨b, off + (k - 1), none⟩ = some (.int .i64 (xs[k-1]'(by omega)))) := hid fun h0 => by
            obtain ⟨b', off', e, hcell'⟩ := hc (k - 1) (by omega)
            cases e
            exact hcell'
          clear hc
          have HS := hid (goodFrom_step xs k hlt)
          by_cases h0 : xs[k] < 0
          · clear hprev
            have hd0 : decide (xs[k] < 0) = true := decide_eq_true h0
            go_wp2
            go_quiet (fail)
            go_wp2
            go_ret
            exact ⟨ret_bool (by rw [validB, H.out, ← valid_good0, He.out, HS.out, badAt_1 xs k hlt (by omega)]; rfl), n + nq, by first | rfl | rw [World.drewN_drewN]⟩
          · have hd0 : decide (xs[k] < 0) = false := decide_eq_false h0
            replace h0 : 0 ≤ xs[k] := by omega
            by_cases h1 : 12 ≤ xs[k]
            · clear hprev
              have hd1 : decide (12 ≤ xs[k]) = true := decide_eq_true h1
              go_wp2
              go_quiet (fail)
              go_wp2
              go_ret
              exact ⟨ret_bool (by rw [validB, H.out, ← valid_good0, He.out, HS.out, badAt_1 xs k hlt (by omega)]; rfl), n + nq, by first | rfl | rw [World.drewN_drewN]⟩
            · have hd1 : decide (12 ≤ xs[k]) = false := decide_eq_false h1
              replace h1 : xs[k] < 12 := by omega
              by_cases hk0 : 0 < k
              · have hp := hprev.out hk0
                have hkp : (0 : Int) < (k : Int) := by omega
                have hkp1 : (1 : Int) ≤ (k : Int) := by omega
                have hk1 : (0 : Int) ≤ (k : Int) - 1 := by omega
                have hkw : IntKind.i64.wrap ((k : Int) - 1) = (k : Int) - 1 := IntWalk.i64_in _ (by omega)
                have hkn : ((k : Int) - 1).toNat = k - 1 := by omega
                have hkl : (k : Int) - 1 < (xs.length : Int) := by omega
                have hki : (k : Int) < (xs.length : Int) := by omega
                clear hprev
                by_cases h2 : xs[k] ≤ xs[k-1]'(by omega)
                · go_wp2
                  go_quiet (fail)
                  go_wp2
                  go_ret
                  exact ⟨ret_bool (by rw [validB, H.out, ← valid_good0, He.out, HS.out, badAt_2 xs k hlt hk0 (by omega)]; rfl), n + nq, by first | rfl | rw [World.drewN_drewN]⟩
                · replace h2 : xs[k-1]'(by omega) < xs[k] := by omega
                  go_wp2
                  go_quiet (fail)
                  go_wp2
                  go_roundw
                  case rel => exact ⟨k + 1, n + nq, by first | rfl | rw [World.drewN_drewN], by omega, by go_num, by rw [He.out, HS.out, badAt_no xs k hlt (by omega) (by omega) (fun _ => by omega)]; rfl⟩
                  case measure => simp [intOf]; omega
              · have hd : decide ((0 : Int) < (k : Int)) = false := by simp; omega
                have hd2 : decide (0 < k) = false := by simp; omega
                have Hk0 := hid hk0; clear hk0 hprev
                go_wp2
                go_quiet (fail)
                go_wp2
                go_roundw
                case rel => exact ⟨k + 1, n + nq, by first | rfl | rw [World.drewN_drewN], by omega, by go_num, by rw [He.out, HS.out, badAt_no xs k hlt (by omega) (by omega) (fun h => absurd h Hk0.out)]; rfl⟩
                case measure => simp [intOf]; omega
        · go_wp2
          go_ret
          exact ⟨ret_bool (by rw [validB, H.out, ← valid_good0, He.out, show xs.length - k = 0 by omega]; rfl), n, rfl⟩
end Go.Proofs.Ytaifmlbhglfbeaa
