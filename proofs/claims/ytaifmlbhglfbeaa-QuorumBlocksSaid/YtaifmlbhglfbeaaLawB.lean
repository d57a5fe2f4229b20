/-
  The plain laws of quorums: what the counts of members say.
-/
import Derived.Test.YtaifmlbhglfbeaaWalkI
namespace Go.Proofs.Ytaifmlbhglfbeaa
open Go.RowKit

theorem hasB_part (ms x : List Int) (b : Bool) (r : Int) : hasB (partL ms x b) r = (hasB ms r && (hasB x r == b)) := by
  induction ms with
  | nil => simp [partL, hasB]
  | cons a t ih =>
    simp only [partL]
    by_cases har : a = r
    · subst har
      cases h : (hasB x a == b)
      · simp [ih, h]
      · simp [hasB]
    · have : (a == r) = false := by simpa using har
      split <;> simp [hasB, ih, this]

theorem inside_congr (l x y : List Int) (h : ∀ r, hasB l r = true → hasB x r = hasB y r) : insideN l x = insideN l y := by
  induction l with
  | nil => rfl
  | cons a t ih =>
    rw [insideN, insideN, h a (by simp [hasB]), ih (fun r hr => h r (by simp [hasB, hr]))]

theorem inside_compl (l x y : List Int) (h : ∀ r, hasB l r = true → hasB y r = !hasB x r) : insideN l y = l.length - insideN l x := by
  induction l with
  | nil => rfl
  | cons a t ih =>
    have := insideN_le t x
    rw [insideN, insideN, h a (by simp [hasB]), ih (fun r hr => h r (by simp [hasB, hr]))]
    cases hasB x a <;> simp <;> omega

theorem inside_out (ms x : List Int) : insideN ms (partL ms x false) = ms.length - insideN ms x :=
  inside_compl ms x _ fun r hr => by rw [hasB_part, hr]; cases hasB x r <;> rfl

theorem survives_eq (m : Int) (ms x : List Int) : survivesB m ms x = (validB m ms && isB m ms (partL ms x false)) := by
  have := insideN_le ms x
  unfold survivesB isB
  rw [inside_out]
  cases validB m ms
  · rfl
  · simp only [Bool.true_and]
    exact decide_eq_decide.2 (by omega)

theorem valid_faults {m : Int} {ms : List Int} (h : validB m ms = true) : 0 ≤ faultsI m ms.length ∧ 2 * faultsI m ms.length < ms.length ∧ (m = 2 → 3 * faultsI m ms.length < ms.length) ∧ needI m ms.length = ms.length - faultsI m ms.length ∧ overlapI m ms.length = ms.length - 2 * faultsI m ms.length := by
  unfold validB at h
  rw [Bool.and_eq_true] at h
  have h1 := h.1
  have h2 := sizedB_true h1
  have hf : faultsI m ms.length = if m = 2 then ((ms.length : Int) - 1) / 3 else ((ms.length : Int) - 1) / 2 := by unfold faultsI; rw [if_pos h1]
  have hn : needI m ms.length = ms.length - faultsI m ms.length := by unfold needI; rw [if_pos h1]
  have ho : overlapI m ms.length = if 2 * needI m ms.length - ms.length < 0 then 0 else 2 * needI m ms.length - ms.length := by unfold overlapI; rw [if_pos h1]
  have hb : 0 ≤ faultsI m ms.length ∧ 2 * faultsI m ms.length < ms.length ∧ (m = 2 → 3 * faultsI m ms.length < ms.length) := by
    rw [hf]; split <;> refine ⟨by omega, by omega, fun _ => by omega⟩
  refine ⟨hb.1, hb.2.1, hb.2.2, hn, ?_⟩
  rw [ho, hn, if_neg (by omega)]
  omega

theorem tolerates_eq (m : Int) (ms x : List Int) (h : validB m ms = true) : survivesB m ms x = decide (((partL ms x true).length : Int) ≤ faultsI m ms.length) := by
  have h1 := valid_faults h
  have h2 := insideN_le ms x
  unfold survivesB
  rw [h, part_inside, Bool.true_and]
  exact decide_eq_decide.2 (by omega)

theorem dual_eq (m : Int) (ms x : List Int) (h : validB m ms = true) : blocksB m ms x = !isB m ms (partL ms x false) := by
  have h2 := insideN_le ms x
  unfold blocksB isB
  rw [inside_out, h, Bool.true_and, Bool.true_and, ← decide_not]
  exact decide_eq_decide.2 (by omega)

theorem hasB_append (l1 l2 : List Int) (r : Int) : hasB (l1 ++ l2) r = (hasB l1 r || hasB l2 r) := by
  induction l1 with
  | nil => rfl
  | cons a t ih => simp [hasB, ih, Bool.or_assoc]
theorem inside_mono (l x y : List Int) (h : ∀ r, hasB x r = true → hasB y r = true) : insideN l x ≤ insideN l y := by
  induction l with
  | nil => exact Nat.le_refl _
  | cons a t ih =>
    rw [insideN, insideN]
    cases hx : hasB x a
    · simp; omega
    · rw [h a hx]; simp; exact ih
theorem is_grows (m : Int) (ms more x : List Int) (h : isB m ms x = true) : isB m ms (more ++ x) = true := by
  unfold isB at h ⊢
  have := inside_mono ms x (more ++ x) (fun r hr => by rw [hasB_append, hr, Bool.or_true])
  simp only [Bool.and_eq_true, decide_eq_true_eq] at h ⊢
  exact ⟨h.1, by omega⟩
theorem blocks_grows (m : Int) (ms more x : List Int) (h : blocksB m ms x = true) : blocksB m ms (more ++ x) = true := by
  unfold blocksB at h ⊢
  have := inside_mono ms x (more ++ x) (fun r hr => by rw [hasB_append, hr, Bool.or_true])
  simp only [Bool.and_eq_true, decide_eq_true_eq] at h ⊢
  exact ⟨h.1, by omega⟩

theorem inter_len (ms x y : List Int) : insideN ms x + insideN ms y ≤ ms.length + (partL (partL ms x true) y true).length := by
  induction ms with
  | nil => simp [insideN, partL]
  | cons a t ih =>
    simp only [insideN, partL, List.length_cons]
    cases hx : hasB x a <;> cases hy : hasB y a <;> simp [partL, hx, hy] <;> omega

theorem is_true {m : Int} {ms x : List Int} (h : isB m ms x = true) : validB m ms = true ∧ needI m ms.length ≤ insideN ms x := by
  unfold isB at h
  simpa only [Bool.and_eq_true, decide_eq_true_eq] using h

end Go.Proofs.Ytaifmlbhglfbeaa
