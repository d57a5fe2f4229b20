/-
  The walks of Minimal, Blocking, and of the examples (awake).
-/
import Derived.Test.YtaifmlbhglfbeaaWalkH
namespace Go.Proofs.Ytaifmlbhglfbeaa
open Go.RowKit

theorem comb_len (ms : List Int) : ∀ k, (comb k ms).length ≤ 2 ^ ms.length := by
  induction ms with
  | nil => intro k; cases k <;> simp [comb]
  | cons x t ih =>
    intro k
    cases k with
    | zero => simp [comb]; exact Nat.one_le_two_pow
    | succ n =>
      have h1 := ih n
      have h2 := ih (n + 1)
      simp only [comb, List.length_append, List.length_map, List.length_cons, Nat.pow_succ]
      omega

theorem valid_len {m : Int} {ms : List Int} (h : validB m ms = true) : (m = 1 ∨ m = 2) ∧ 1 ≤ ms.length ∧ ms.length ≤ 12 := by
  unfold validB at h
  rw [Bool.and_eq_true] at h
  have := sizedB_true h.1
  exact ⟨this.1, by omega, by omega⟩

theorem comb_small {m : Int} {ms : List Int} (h : validB m ms = true) (k : Nat) : (comb k ms).length ≤ 99999 := by
  have h1 := (valid_len h).2.2
  have h2 : 2 ^ ms.length ≤ 2 ^ 12 := Nat.pow_le_pow_right (by omega) h1
  have h3 := comb_len ms k
  have h4 : (2 : Nat) ^ 12 = 4096 := by decide
  omega

def minL (m : Int) (ms : List Int) : List (List Int) := if validB m ms then comb (needI m ms.length).toNat ms else []
def blkL (m : Int) (ms : List Int) : List (List Int) := if validB m ms then comb (faultsI m ms.length + 1).toNat ms else []

/-- A list of lists is handed back, in memory of the call's own. -/
def LLPost (xss : List (List Int)) (w : World) (e : Ending) (w' : World) : Prop :=
  ∃ ao co us, e = .returned (.slice ao us.length co) ∧ OwnLL w.heap.size w' (.slice ao us.length co) us xss ∧ Below w.heap.size w w'

set_option maxHeartbeats 1000000 in
theorem minimal_any (m : Int) (v : Value) (ms : List Int) (w : World) (hv : Ints w v ms) :
    Calls Try.prog 27 #[.int .i64 m, v] w (LLPost (minL m ms) w) := by
  have HV := valid_any m v ms w hv
  have hv0 := hv
  obtain ⟨a, cap, rfl, _hnn, hmax, hc⟩ := hv
  clear hc
  cases hs : validB m ms
  · have H := hid hs; clear hs
    go_enter Try.func27, Try.ntmps27
    go_wp2_with fail
    refine HV.mono ?_
    rintro e w' ⟨rfl, rfl⟩
    rw [H.out]
    go_wp2_with fail
    go_ret
    exact ⟨none, 0, [], rfl, by unfold minL; rw [H.out]; exact ⟨World.ownsRow_nil _ _ _ _, rfl, fun i u x hu _ => by simp at hu⟩, Below.refl _ _⟩
  · have hl := valid_len hs
    have hn := need_bd m ms.length
    have hc := comb_small hs (needI m ms.length).toNat
    have H := hid hs; clear hs
    go_enter Try.func27, Try.ntmps27
    go_wp2_with fail
    refine HV.mono ?_
    rintro e w' ⟨rfl, rfl⟩
    rw [H.out]
    go_wp2_with fail
    refine (need_any _ _ _).mono ?_
    rintro e w' ⟨rfl, rfl⟩
    go_wp2_with fail
    refine (subsets_any _ ms (needI m ms.length).toNat _ (by omega) _ hv0 (by omega) (by omega) hc).mono ?_
    rintro e w1 ⟨ao, co, us, rfl, hll, hb⟩
    go_wp2_with fail
    go_ret
    exact ⟨ao, co, us, rfl, by unfold minL; rw [H.out]; exact hll, hb⟩

set_option maxHeartbeats 1000000 in
theorem blocking_any (m : Int) (v : Value) (ms : List Int) (w : World) (hv : Ints w v ms) :
    Calls Try.prog 29 #[.int .i64 m, v] w (LLPost (blkL m ms) w) := by
  have HV := valid_any m v ms w hv
  have hv0 := hv
  obtain ⟨a, cap, rfl, _hnn, hmax, hc⟩ := hv
  clear hc
  cases hs : validB m ms
  · have H := hid hs; clear hs
    go_enter Try.func29, Try.ntmps29
    go_wp2_with fail
    refine HV.mono ?_
    rintro e w' ⟨rfl, rfl⟩
    rw [H.out]
    go_wp2_with fail
    go_ret
    exact ⟨none, 0, [], rfl, by unfold blkL; rw [H.out]; exact ⟨World.ownsRow_nil _ _ _ _, rfl, fun i u x hu _ => by simp at hu⟩, Below.refl _ _⟩
  · have hl := valid_len hs
    have hn := faults_bd m ms.length
    have hc := comb_small hs (faultsI m ms.length + 1).toNat
    have H := hid hs; clear hs
    go_enter Try.func29, Try.ntmps29
    go_wp2_with fail
    refine HV.mono ?_
    rintro e w' ⟨rfl, rfl⟩
    rw [H.out]
    go_wp2_with fail
    refine (faults_any _ _ _).mono ?_
    rintro e w' ⟨rfl, rfl⟩
    go_wp2_with fail
    refine (subsets_any _ ms (faultsI m ms.length + 1).toNat _ (by omega) _ hv0 (by omega) (by omega) hc).mono ?_
    rintro e w1 ⟨ao, co, us, rfl, hll, hb⟩
    go_wp2_with fail
    go_ret
    exact ⟨ao, co, us, rfl, by unfold blkL; rw [H.out]; exact hll, hb⟩

theorem ints_made {w : World} {g E : Nat} (xs : List Int) (n : Nat) (hn : xs.length = n) (hm : n ≤ 1000) (hg : w.heap[g]? = some (.cells (xs.map (Value.int .i64)).toArray E (0, 0))) : Ints w (.slice (some ⟨g, 0, none⟩) n n) xs := by
  subst hn
  have := owns_made (base := 0) (w := w) (E := E) (g := g) (xs.map (Value.int .i64)).toArray xs.length hg (Nat.zero_le _) (by simp) (by unfold maxLen; omega)
  exact Ints.of_owns (by simpa using this)

set_option maxRecDepth 100000 in
set_option maxHeartbeats 3200000 in
theorem awake_any (w : World) : Calls Try.prog 12 #[] w fun e w' => e = .returned (.bool true) ∧ Below w.heap.size w w' := by
  go_enter Try.func12, Try.ntmps12
  go_wp2_with fail
  have hb0 : Below w.heap.size w (w.alloc (.cells #[.int .i64 2, .int .i64 5, .int .i64 7] 3)) := (Below.refl _ _).alloc (Nat.le_refl _) _
  have hi0 : Ints (w.alloc (.cells #[.int .i64 2, .int .i64 5, .int .i64 7] 3)) (.slice (some ⟨w.heap.size, 0, none⟩) 3 3) [2, 5, 7] := ints_made [2, 5, 7] 3 rfl (by decide) (heap_alloc_new w _)
  generalize w.alloc (.cells #[.int .i64 2, .int .i64 5, .int .i64 7] 3) = W at hb0 hi0 ⊢
  refine (valid_any 1 _ [2, 5, 7] W hi0).mono ?_
  rintro e W ⟨rfl, rfl⟩
  rw [show validB 1 [2, 5, 7] = true from by decide]
  go_wp2_with fail
  refine (faults_any _ _ _).mono ?_
  rintro e W ⟨rfl, rfl⟩
  rw [show faultsI 1 5 = 2 from by decide]
  go_wp2_with fail
  refine (need_any _ _ _).mono ?_
  rintro e W ⟨rfl, rfl⟩
  rw [show needI 2 5 = 4 from by decide]
  go_wp2_with fail
  have hb1 : Below W.heap.size W (W.alloc (.cells #[.int .i64 7, .int .i64 7, .int .i64 9, .int .i64 2] 3)) := (Below.refl _ _).alloc (Nat.le_refl _) _
  have hi1 : Ints (W.alloc (.cells #[.int .i64 7, .int .i64 7, .int .i64 9, .int .i64 2] 3)) (.slice (some ⟨W.heap.size, 0, none⟩) 4 4) [7, 7, 9, 2] := ints_made [7, 7, 9, 2] 4 rfl (by decide) (heap_alloc_new W _)
  replace hb0 := hb0.trans (hb1.mono hb0.size)
  replace hi0 := hi0.below hb1
  clear hb1
  generalize W.alloc (.cells #[.int .i64 7, .int .i64 7, .int .i64 9, .int .i64 2] 3) = W2 at hb0 hi0 hi1 ⊢
  refine (is_any 1 _ _ [2, 5, 7] [7, 7, 9, 2] W2 hi0 hi1).mono ?_
  rintro e W ⟨rfl, rfl⟩
  rw [show isB 1 [2, 5, 7] [7, 7, 9, 2] = true from by decide]
  clear hi1
  go_wp2_with fail
  have hb1 : Below W.heap.size W (W.alloc (.cells #[.int .i64 7, .int .i64 7, .int .i64 9] 3)) := (Below.refl _ _).alloc (Nat.le_refl _) _
  have hi1 : Ints (W.alloc (.cells #[.int .i64 7, .int .i64 7, .int .i64 9] 3)) (.slice (some ⟨W.heap.size, 0, none⟩) 3 3) [7, 7, 9] := ints_made [7, 7, 9] 3 rfl (by decide) (heap_alloc_new W _)
  replace hb0 := hb0.trans (hb1.mono hb0.size)
  replace hi0 := hi0.below hb1
  clear hb1
  generalize W.alloc (.cells #[.int .i64 7, .int .i64 7, .int .i64 9] 3) = W2 at hb0 hi0 hi1 ⊢
  refine (is_any 1 _ _ [2, 5, 7] [7, 7, 9] W2 hi0 hi1).mono ?_
  rintro e W ⟨rfl, rfl⟩
  rw [show isB 1 [2, 5, 7] [7, 7, 9] = false from by decide]
  clear hi1
  go_wp2_with fail
  refine (minimal_any 1 _ [2, 5, 7] _ hi0).mono ?_
  rintro e W2 ⟨ao, co, us, rfl, hll, hb1⟩
  have hus : ((us.length : Int) == 3) = true := by rw [hll.len]; decide
  replace hb0 := hb0.trans (hb1.mono hb0.size)
  replace hi0 := hi0.below hb1
  clear hb1 hll
  go_wp2_with fail
  clear hus
  refine (overlap_any _ _ _).mono ?_
  rintro e W ⟨rfl, rfl⟩
  rw [show overlapI 1 4 = 2 from by decide]
  go_wp2_with fail
  have hb1 : Below W.heap.size W (W.alloc (.cells #[.int .i64 0, .int .i64 1, .int .i64 2, .int .i64 3] 3)) := (Below.refl _ _).alloc (Nat.le_refl _) _
  have hi1 : Ints (W.alloc (.cells #[.int .i64 0, .int .i64 1, .int .i64 2, .int .i64 3] 3)) (.slice (some ⟨W.heap.size, 0, none⟩) 4 4) [0, 1, 2, 3] := ints_made [0, 1, 2, 3] 4 rfl (by decide) (heap_alloc_new W _)
  have hb2 : Below (W.alloc (.cells #[.int .i64 0, .int .i64 1, .int .i64 2, .int .i64 3] 3)).heap.size (W.alloc (.cells #[.int .i64 0, .int .i64 1, .int .i64 2, .int .i64 3] 3)) ((W.alloc (.cells #[.int .i64 0, .int .i64 1, .int .i64 2, .int .i64 3] 3)).alloc (.cells #[.int .i64 3, .int .i64 0] 3)) := (Below.refl _ _).alloc (Nat.le_refl _) _
  have hi2 : Ints ((W.alloc (.cells #[.int .i64 0, .int .i64 1, .int .i64 2, .int .i64 3] 3)).alloc (.cells #[.int .i64 3, .int .i64 0] 3)) (.slice (some ⟨W.heap.size + 1, 0, none⟩) 2 2) [3, 0] := ints_made [3, 0] 2 rfl (by decide) (heap_new_at _ _ _ (by simp))
  replace hi1 := hi1.below hb2
  replace hb1 := hb1.trans (hb2.mono hb1.size)
  replace hb0 := hb0.trans (hb1.mono hb0.size)
  replace hi0 := hi0.below hb1
  clear hb1 hb2
  generalize (W.alloc (.cells #[.int .i64 0, .int .i64 1, .int .i64 2, .int .i64 3] 3)).alloc (.cells #[.int .i64 3, .int .i64 0] 3) = W2 at hb0 hi0 hi1 hi2 ⊢
  refine (blocks_any 2 _ _ [0, 1, 2, 3] [3, 0] W2 hi1 hi2).mono ?_
  rintro e W ⟨rfl, rfl⟩
  rw [show blocksB 2 [0, 1, 2, 3] [3, 0] = true from by decide]
  clear hi1 hi2
  go_wp2_with fail
  refine (blocking_any 1 _ [2, 5, 7] _ hi0).mono ?_
  rintro e W2 ⟨ao2, co2, us2, rfl, hll, hb1⟩
  have hus : ((us2.length : Int) == 3) = true := by rw [hll.len]; decide
  replace hb0 := hb0.trans (hb1.mono hb0.size)
  replace hi0 := hi0.below hb1
  clear hb1 hll
  go_wp2_with fail
  clear hus
  have hb1 : Below W2.heap.size W2 (W2.alloc (.cells #[.int .i64 5] 3)) := (Below.refl _ _).alloc (Nat.le_refl _) _
  have hi1 : Ints (W2.alloc (.cells #[.int .i64 5] 3)) (.slice (some ⟨W2.heap.size, 0, none⟩) 1 1) [5] := ints_made [5] 1 rfl (by decide) (heap_alloc_new W2 _)
  replace hb0 := hb0.trans (hb1.mono hb0.size)
  replace hi0 := hi0.below hb1
  clear hb1
  generalize W2.alloc (.cells #[.int .i64 5] 3) = W3 at hb0 hi0 hi1 ⊢
  refine (survives_any 1 _ _ [2, 5, 7] [5] W3 hi0 hi1).mono ?_
  rintro e W ⟨rfl, rfl⟩
  rw [show survivesB 1 [2, 5, 7] [5] = true from by decide]
  clear hi1
  go_wp2_with fail
  go_ret
  exact ⟨rfl, hb0⟩
end Go.Proofs.Ytaifmlbhglfbeaa
