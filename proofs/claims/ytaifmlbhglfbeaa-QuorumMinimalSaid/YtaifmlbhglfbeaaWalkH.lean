/-
  The walks of subsets, Minimal and Blocking of the quorum package.
-/
import Derived.Test.YtaifmlbhglfbeaaWalkG
import Derived.Laws.EntriesVeiled
namespace Go.Proofs.Ytaifmlbhglfbeaa
open Go.RowKit

theorem IntsLow.below {B : Nat} {w w' : World} {v : Value} {xs : List Int} (h : IntsLow B w v xs) (hb : Below w.heap.size w w') : IntsLow B w' v xs := ⟨h.1.below hb, h.2⟩

theorem ints_low {w : World} {v : Value} {xs : List Int} (h : Ints w v xs) : IntsLow w.heap.size w v xs := by
  refine ⟨h, fun a n cap hv => ?_⟩
  obtain ⟨a', cap', hv', hn, hm, hc⟩ := h
  rw [hv] at hv'
  cases hv'
  by_cases h0 : xs.length = 0
  · exact .inl h0
  · obtain ⟨b, off, e, hcell⟩ := hc 0 (by omega)
    cases e
    exact .inr (World.block_lt_of_cell? w _ hcell)

/-- What subsets hands back. -/
def SubsPost (ms : List Int) (k : Nat) (w : World) (e : Ending) (w' : World) : Prop :=
  ∃ ao co us, e = .returned (.slice ao us.length co) ∧ OwnLL w.heap.size w' (.slice ao us.length co) us (comb k ms) ∧ Below w.heap.size w w'

theorem OwnLL.base {base base' : Nat} {w : World} {vo : Value} {us : List Value} {xss : List (List Int)} (h : OwnLL base w vo us xss) (hb : base' ≤ base) : OwnLL base' w vo us xss :=
  ⟨owns_base h.own hb, h.len, fun i u x hu hx => owns_base (h.els i u x hu hx) hb⟩

/-- The four variables of subsets, just made. -/
def W4 (w : World) (v : Value) (k : Nat) : World :=
  ((((w.alloc (.cells #[v] 25)).alloc (.cells #[.int .i64 k] 3)).alloc (.cells #[.slice none 0 0] 30)).alloc
    (.cells #[.func (.func 43) #[] #[.pointer (some ⟨w.heap.size + 1, 0, none⟩), .pointer (some ⟨w.heap.size + 2, 0, none⟩), .pointer (some ⟨w.heap.size, 0, none⟩), .pointer (some ⟨w.heap.size + 3, 0, none⟩)]] 40))

theorem W4_below (w : World) (v : Value) (k : Nat) : Below w.heap.size w (W4 w v k) := by
  unfold W4
  exact ((((Below.refl _ _).alloc (Nat.le_refl _) _).alloc (by simp) _).alloc (by simp <;> omega) _).alloc (by simp <;> omega) _

theorem W4_ps (w : World) (v : Value) (k : Nat) (ms : List Int) : PS w.heap.size k v ms (W4 w v k) (.slice none 0 0) [] [] := by
  have hs : (W4 w v k).heap.size = w.heap.size + 4 := by unfold W4; simp
  refine ⟨?_, ?_, ?_, ?_, ⟨World.ownsRow_nil _ _ _ _, rfl, fun i u x hu _ => by simp at hu⟩, by omega⟩
  · unfold W4
    rw [Below.heap_alloc _ _ _ (by simp <;> omega), Below.heap_alloc _ _ _ (by simp <;> omega), Below.heap_alloc _ _ _ (by simp)]
    exact heap_new_at _ _ _ rfl
  · unfold W4
    rw [Below.heap_alloc _ _ _ (by simp <;> omega), Below.heap_alloc _ _ _ (by simp)]
    exact heap_new_at _ _ _ (by simp)
  · unfold W4
    rw [Below.heap_alloc _ _ _ (by simp)]
    exact heap_new_at _ _ _ (by simp)
  · unfold W4
    exact heap_new_at _ _ _ (by simp)

set_option maxRecDepth 100000 in
set_option maxHeartbeats 3200000 in
theorem subsets_any (v : Value) (ms : List Int) (k : Nat) (ki : Int) (hki : ki = k) (w : World) (hv : Ints w v ms) (hk : k ≤ 100) (hms : ms.length ≤ 100) (hb : (comb k ms).length ≤ 99999) :
    Calls Try.prog 38 #[v, .int .i64 ki] w (SubsPost ms k w) := by
  subst hki
  have HP := hid (pick_any w.heap.size k v ms hk hms ms.length 0 0 [] (.slice none 0 0))
  have hmf : ∀ (fn : Fn) (first cap : Array Value) (w : World), (Instr.makeFunc fn first cap).run Try.prog w = .ok (.func fn first cap) w := fun _ _ _ _ => rfl
  have HV := hid (ints_low hv)
  obtain ⟨a, cap, rfl, hnn, hmax, hcells⟩ := hv
  clear hnn hcells
  go_enter Try.func38, Try.ntmps38
  go_wp2_with fail
  simp only [Nat.add_assoc, Nat.reduceAdd]
  refine (HP.out (.slice none 0 0) [] [] (W4 w (.slice a ms.length cap) k) rfl (Nat.zero_le _) (Nat.le_refl _) (Nat.zero_le _) (W4_ps _ _ _ _) (HV.out.below (W4_below _ _ _)) (World.ownsRow_nil _ _ _ _) (by simpa using hb)).mono ?_
  rintro e w1 ⟨rfl, vo, us, hp, hk1⟩
  simp only [List.nil_append, List.length_nil, Nat.sub_zero, List.drop_zero, List.map_id'] at hp
  have hcO := cell_of_blk hp.O
  have hbel : Below w.heap.size w w1 := (W4_below w (.slice a ms.length cap) k).trans ⟨hk1.os, hk1.tape, hk1.output, hk1.size, fun b hb' => hk1.low b (by omega) (by omega)⟩
  have hll := hp.ll.base (base' := w.heap.size) (by omega)
  clear hp hk1
  obtain ⟨ao, co, rfl⟩ := owns_shape hll.own
  go_wp2
  go_ret
  exact ⟨ao, co, us, rfl, hll, hbel⟩
end Go.Proofs.Ytaifmlbhglfbeaa
