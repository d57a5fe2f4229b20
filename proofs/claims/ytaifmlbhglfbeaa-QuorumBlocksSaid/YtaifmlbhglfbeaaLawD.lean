/-
  The plain laws of minimal sets: the least sets of the reference are the combinations that the program lists.
-/
import Derived.Test.YtaifmlbhglfbeaaLawB
namespace Go.Proofs.Ytaifmlbhglfbeaa
open Go.RowKit

/-- The reference's Subsets: all sublists, lexicographically. -/
def subsL : List Int → List (List Int)
  | [] => [[]]
  | x :: t => [] :: ((subsL t).map (x :: ·) ++ (subsL t).tail)

theorem subsL_cons (l : List Int) : ∃ r, subsL l = [] :: r := by
  cases l with
  | nil => exact ⟨[], rfl⟩
  | cons x t => exact ⟨_, rfl⟩

/-- comb n l: the members of subsL with n elements, in the same order. -/
theorem filter_subs (l : List Int) : ∀ n, (subsL l).filter (fun s => s.length == n) = comb n l := by
  induction l with
  | nil => intro n; cases n <;> rfl
  | cons x t ih =>
    intro n
    obtain ⟨r, hr⟩ := subsL_cons t
    have htail : (subsL t).tail = r := by rw [hr]; rfl
    rw [subsL, htail]
    cases n with
    | zero =>
      have h0 := ih 0
      rw [hr] at h0
      simp [comb] at h0 ⊢
      exact h0
    | succ n =>
      have h1 := ih (n + 1)
      have h2 := ih n
      have e1 : ([] :: ((subsL t).map (x :: ·) ++ r)).filter (fun s => s.length == n + 1) = ((subsL t).map (x :: ·)).filter (fun s => s.length == n + 1) ++ r.filter (fun s => s.length == n + 1) := by
        simp [List.filter_cons, List.filter_append]
      have e2 : r.filter (fun s => s.length == n + 1) = (subsL t).filter (fun s => s.length == n + 1) := by rw [hr]; simp [List.filter_cons]
      rw [e1, e2, h1, comb, List.filter_map]
      congr 1
      rw [← h2]
      congr 1
      apply List.filter_congr
      intro a _
      simp [Function.comp]
theorem filter_subs0 (l : List Int) (r : List (List Int)) (hr : subsL l = [] :: r) (h0 : (subsL l).filter (fun s => s.length == 0) = [[]]) : ∀ a ∈ r, a.length ≠ 0 := by
  rw [hr] at h0
  simp only [List.filter_cons, List.length_nil, beq_self_eq_true, if_true, List.cons.injEq, true_and, List.filter_eq_nil_iff] at h0
  intro a ha hl
  exact h0 a ha (by simp [hl])

theorem mem_subs (l : List Int) : ∀ s, s ∈ subsL l ↔ s.Sublist l := by
  induction l with
  | nil => intro s; simp [subsL]
  | cons x t ih =>
    intro s
    obtain ⟨r, hr⟩ := subsL_cons t
    have htail : (subsL t).tail = r := by rw [hr]; rfl
    rw [subsL, htail, List.mem_cons, List.mem_append, List.mem_map]
    constructor
    · rintro (rfl | ⟨a, ha, rfl⟩ | h)
      · exact List.nil_sublist _
      · exact ((ih a).1 ha).cons_cons x
      · exact ((ih s).1 (by rw [hr]; exact List.mem_cons_of_mem _ h)).cons x
    · intro h
      cases h with
      | cons _ h =>
        have := (ih s).2 h
        rw [hr] at this
        rcases List.mem_cons.1 this with h | h
        · exact .inl h
        · exact .inr (.inr h)
      | cons_cons _ h => exact .inr (.inl ⟨_, (ih _).2 h, rfl⟩)

def leastOk (list : List (List Int)) (s : List Int) : Bool := !(list.any fun t => decide (t.length < s.length) && ((partL t s false).length == 0))
def leastL (list : List (List Int)) : List (List Int) := list.filter (leastOk list)

theorem hasB_mem (l : List Int) (r : Int) : hasB l r = true ↔ r ∈ l := by
  induction l with
  | nil => simp [hasB]
  | cons a t ih => rw [hasB, Bool.or_eq_true, ih, List.mem_cons, beq_iff_eq, eq_comm]

theorem part_nil (t s : List Int) (h : ∀ r ∈ t, r ∈ s) : partL t s false = [] := by
  induction t with
  | nil => rfl
  | cons a t ih =>
    rw [partL, if_neg, ih (fun r hr => h r (List.mem_cons_of_mem _ hr))]
    have : hasB s a = true := (hasB_mem s a).2 (h a List.mem_cons_self)
    rw [this]; decide

theorem inside_sub (ms s : List Int) (hn : ms.Nodup) (hs : s.Sublist ms) : insideN ms s = s.length := by
  induction hs with
  | slnil => rfl
  | @cons l1 l2 a h ih =>
    have h1 := List.nodup_cons.1 hn
    rw [insideN, ih h1.2, if_neg]
    · omega
    · intro hc
      exact h1.1 (h.subset ((hasB_mem _ _).1 hc))
  | @cons_cons l1 l2 a h ih =>
    have h1 := List.nodup_cons.1 hn
    rw [insideN, if_pos (by simp [hasB]), List.length_cons]
    have : insideN l2 (a :: l1) = insideN l2 l1 := by
      have key : ∀ l : List Int, a ∉ l → insideN l (a :: l1) = insideN l l1 := by
        intro l hl
        induction l with
        | nil => rfl
        | cons b l ihl =>
          have hb : ¬ a = b := fun e => hl (by rw [e]; exact List.mem_cons_self)
          have hb' : (a == b) = false := by simpa using hb
          rw [insideN, insideN, ihl (fun h => hl (List.mem_cons_of_mem _ h)), hasB, hb', Bool.false_or]
      exact key l2 h1.1
    rw [this, ih h1.2]
    omega

/-- The least sets of those sublists that have at least t elements are the sublists with t elements. -/
theorem least_comb (ms : List Int) (P : List Int → Bool) (t : Nat) (h : ∀ s, s.Sublist ms → P s = decide (t ≤ s.length)) :
    leastL ((subsL ms).filter P) = comb t ms := by
  rw [← filter_subs ms t]
  unfold leastL
  rw [List.filter_filter]
  apply List.filter_congr
  intro s hs
  have hsub := (mem_subs ms s).1 hs
  rw [h s hsub]
  by_cases hle : t ≤ s.length
  · rw [decide_eq_true hle, Bool.and_true]
    by_cases heq : s.length = t
    · rw [show (s.length == t) = true by simpa using heq]
      unfold leastOk
      rw [Bool.not_eq_true', List.any_eq_false]
      intro q hq
      obtain ⟨hq1, hq2⟩ := List.mem_filter.1 hq
      rw [h q ((mem_subs ms q).1 hq1)] at hq2
      have := of_decide_eq_true hq2
      simp only [Bool.and_eq_true, decide_eq_true_eq]
      omega
    · rw [show (s.length == t) = false by simpa using heq]
      unfold leastOk
      rw [Bool.not_eq_false', List.any_eq_true]
      refine ⟨s.take t, List.mem_filter.2 ⟨(mem_subs ms _).2 ((List.take_sublist t s).trans hsub), ?_⟩, ?_⟩
      · rw [h _ ((List.take_sublist t s).trans hsub)]
        simp; omega
      · rw [part_nil _ _ (fun r hr => List.mem_of_mem_take hr)]
        simp; omega
  · rw [decide_eq_false hle, Bool.and_false]
    have : (s.length == t) = false := by simp; omega
    rw [this]
theorem validFrom_lt (l : List Int) : ∀ last, validFrom last l = true → (∀ r ∈ l, last < r) ∧ l.Nodup := by
  induction l with
  | nil => intro last _; simp
  | cons a t ih =>
    intro last h
    rw [validFrom] at h
    split at h
    · cases h
    · obtain ⟨h1, h2⟩ := ih a h
      refine ⟨fun r hr => ?_, List.nodup_cons.2 ⟨fun hm => ?_, h2⟩⟩
      · rcases List.mem_cons.1 hr with rfl | hr
        · omega
        · have := h1 r hr; omega
      · have := h1 a hm; omega
theorem valid_nodup {m : Int} {ms : List Int} (h : validB m ms = true) : ms.Nodup := by
  unfold validB at h
  rw [Bool.and_eq_true] at h
  exact (validFrom_lt ms (-1) h.2).2

def quorumsL (m : Int) (ms : List Int) : List (List Int) := (subsL ms).filter (isB m ms)
def rblocksL (m : Int) (ms x : List Int) : Bool := validB m ms && (quorumsL m ms).all fun q => !((partL q x true).length == 0)
def rminL (m : Int) (ms : List Int) : List (List Int) := if validB m ms then leastL (quorumsL m ms) else []
def rblkL (m : Int) (ms : List Int) : List (List Int) := if validB m ms then leastL ((subsL ms).filter (rblocksL m ms)) else []

theorem part_sub (ms x : List Int) (b : Bool) : (partL ms x b).Sublist ms := by
  induction ms with
  | nil => exact List.Sublist.slnil
  | cons a t ih =>
    rw [partL]
    split
    · exact ih.cons_cons a
    · exact ih.cons a
theorem part_none (q x : List Int) : (partL q x true).length = 0 ↔ insideN q x = 0 := by rw [part_inside]

theorem inside_sub_le (q ms x : List Int) (h : q.Sublist ms) : q.length ≤ insideN q x + (ms.length - insideN ms x) := by
  induction h with
  | slnil => simp
  | @cons l1 l2 a h ih =>
    have := insideN_le l2 x
    rw [insideN, List.length_cons]
    split <;> omega
  | @cons_cons l1 l2 a h ih =>
    have := insideN_le l2 x
    rw [insideN, insideN, List.length_cons, List.length_cons]
    split <;> omega

theorem rblocks_eq (m : Int) (ms x : List Int) : rblocksL m ms x = blocksB m ms x := by
  unfold rblocksL blocksB
  cases hv : validB m ms
  · rfl
  · rw [Bool.true_and, Bool.true_and]
    have hnd := valid_nodup hv
    have hle := insideN_le ms x
    by_cases h : (ms.length : Int) - insideN ms x < needI m ms.length
    · rw [decide_eq_true h, List.all_eq_true]
      intro q hq
      obtain ⟨h1, h2⟩ := List.mem_filter.1 hq
      have hsub := (mem_subs ms q).1 h1
      have h3 := (is_true h2).2
      rw [inside_sub ms q hnd hsub] at h3
      have h4 := inside_sub_le q ms x hsub
      rw [Bool.not_eq_true', beq_eq_false_iff_ne, Ne, part_none]
      omega
    · rw [decide_eq_false h, List.all_eq_false]
      refine ⟨partL ms x false, List.mem_filter.2 ⟨(mem_subs ms _).2 (part_sub ms x false), ?_⟩, ?_⟩
      · unfold isB
        rw [hv, Bool.true_and, inside_sub ms _ hnd (part_sub ms x false), part_out_len]
        exact decide_eq_true (by omega)
      · have : (partL (partL ms x false) x true).length = 0 := by
          rw [part_none]
          have : ∀ l : List Int, insideN (partL l x false) x = 0 := by
            intro l
            induction l with
            | nil => rfl
            | cons a t ih => cases h : hasB x a <;> simp [partL, insideN, h, ih]
          exact this ms
        rw [this]
        simp

theorem rmin_eq (m : Int) (ms : List Int) : rminL m ms = minL m ms := by
  unfold rminL minL
  cases hv : validB m ms
  · rfl
  · simp only [if_true]
    unfold quorumsL
    refine least_comb ms _ _ fun s hs => ?_
    unfold isB
    rw [hv, Bool.true_and, inside_sub ms s (valid_nodup hv) hs]
    have := need_bd m ms.length
    exact decide_eq_decide.2 (by omega)

theorem rblk_eq (m : Int) (ms : List Int) : rblkL m ms = blkL m ms := by
  unfold rblkL blkL
  cases hv : validB m ms
  · rfl
  · simp only [if_true]
    refine least_comb ms _ _ fun s hs => ?_
    rw [rblocks_eq]
    unfold blocksB
    rw [hv, Bool.true_and, inside_sub ms s (valid_nodup hv) hs]
    have h1 := valid_faults hv
    have h2 : s.length ≤ ms.length := hs.length_le
    exact decide_eq_decide.2 (by omega)

/-! ### The members of the minimal lists -/
theorem comb_mem (n : Nat) (l s : List Int) (h : s ∈ comb n l) : s.Sublist l ∧ s.length = n := by
  rw [← filter_subs, List.mem_filter] at h
  exact ⟨(mem_subs l s).1 h.1, by simpa using h.2⟩
theorem comb_pos (l : List Int) : ∀ n, n ≤ l.length → 0 < (comb n l).length := by
  induction l with
  | nil => intro n hn; simp at hn; subst hn; decide
  | cons a t ih =>
    intro n hn
    cases n with
    | zero => simp [comb]
    | succ n =>
      have := ih n (by simpa using hn)
      simp only [comb, List.length_append, List.length_map]
      omega

theorem min_mem {m : Int} {ms s : List Int} (hv : validB m ms = true) (h : s ∈ minL m ms) :
    (s.length : Int) = needI m ms.length ∧ 1 ≤ s.length ∧ isB m ms s = true ∧ isB m ms s.tail = false := by
  unfold minL at h
  rw [if_pos hv] at h
  obtain ⟨h1, h2⟩ := comb_mem _ _ _ h
  have hnd := valid_nodup hv
  have hf := valid_faults hv
  have ht : s.tail.Sublist ms := (List.tail_sublist s).trans h1
  refine ⟨by omega, by omega, ?_, ?_⟩
  · unfold isB
    rw [hv, inside_sub ms s hnd h1, Bool.true_and]
    exact decide_eq_true (by omega)
  · unfold isB
    rw [hv, inside_sub ms _ hnd ht, Bool.true_and, List.length_tail]
    exact decide_eq_false (by omega)
theorem blk_mem {m : Int} {ms s : List Int} (hv : validB m ms = true) (h : s ∈ blkL m ms) :
    (s.length : Int) = faultsI m ms.length + 1 ∧ 1 ≤ s.length ∧ blocksB m ms s = true ∧ blocksB m ms s.tail = false := by
  unfold blkL at h
  rw [if_pos hv] at h
  obtain ⟨h1, h2⟩ := comb_mem _ _ _ h
  have hnd := valid_nodup hv
  have hf := valid_faults hv
  have ht : s.tail.Sublist ms := (List.tail_sublist s).trans h1
  have hle : s.length ≤ ms.length := h1.length_le
  refine ⟨by omega, by omega, ?_, ?_⟩
  · unfold blocksB
    rw [hv, inside_sub ms s hnd h1, Bool.true_and]
    exact decide_eq_true (by omega)
  · unfold blocksB
    rw [hv, inside_sub ms _ hnd ht, Bool.true_and, List.length_tail]
    exact decide_eq_false (by omega)
theorem min_pos {m : Int} {ms : List Int} (hv : validB m ms = true) : 0 < (minL m ms).length := by
  unfold minL
  rw [if_pos hv]
  have := valid_faults hv
  exact comb_pos ms _ (by omega)
theorem blk_pos {m : Int} {ms : List Int} (hv : validB m ms = true) : 0 < (blkL m ms).length := by
  unfold blkL
  rw [if_pos hv]
  have := valid_faults hv
  exact comb_pos ms _ (by omega)
theorem subs_len (l : List Int) : (subsL l).length = 2 ^ l.length := by
  induction l with
  | nil => rfl
  | cons x t ih =>
    obtain ⟨r, hr⟩ := subsL_cons t
    have h1 : (subsL t).tail.length = (subsL t).length - 1 := List.length_tail
    rw [subsL, List.length_cons, List.length_append, List.length_map, h1, ih, List.length_cons, Nat.pow_succ]
    have : 0 < 2 ^ t.length := Nat.two_pow_pos _
    omega
end Go.Proofs.Ytaifmlbhglfbeaa
