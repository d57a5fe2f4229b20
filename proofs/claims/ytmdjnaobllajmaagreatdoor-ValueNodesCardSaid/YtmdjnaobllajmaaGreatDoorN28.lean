/-
  What the statements of the chapter share, part 28: VBox, VRows.
-/
import Derived.Test.YtmdjnaobllajmaaGreatDoorN21
import Derived.Test.YtmdjnaobllajmaaGreatDoorN22
set_option linter.unusedVariables false
set_option linter.unusedSimpArgs false
set_option maxRecDepth 100000
set_option maxHeartbeats 8000000
namespace Go.Proofs.YtmdjnaobllajmaaGreatDoor
open Go.RowKit
def Box (W : World) (b : Nat) (cs : Array Value) : Prop := ∀ (i : Nat) q, cs[i]? = some q → W.cell? ⟨b, i, none⟩ = some q
theorem Box.ext {W : World} {b : Nat} {cs : Array Value} (h : Box W b cs) (x : Ext W) : Box x.1 b cs := fun i q hq => x.cell (h i q hq)
theorem Box.below {W W' : World} {b : Nat} {cs : Array Value} (h : Box W b cs) (hb : Below W.heap.size W W') : Box W' b cs := h.ext ⟨W', hb⟩
theorem Box.new (W : World) (cs : Array Value) (t : TypeId) (b : Nat) (h : b = W.heap.size) : Box (W.alloc (.cells cs t)) b cs := fun i q hq => by subst h; rw [World.cell?_alloc_at _ _ _ _ rfl]; exact hq
theorem Box.alloc {W : World} {b : Nat} {cs : Array Value} (h : Box W b cs) (O : Obj) : Box (W.alloc O) b cs := h.below ((Below.refl _ _).alloc (Nat.le_refl _) O)
theorem SlRd.of_rows {α : Type} {w : World} {base E sz : Nat} {v : Value} {l : List α} {css : List (List Value)} {R : α → List Value → Prop} (h : w.ownsRow base E sz v l.length css.flatten) (hl : css.length = l.length) (he : ∀ cs ∈ css, cs.length = sz)
    (hR : ∀ i (h : i < l.length) (h' : i < css.length), R l[i] css[i]) : SlRd w sz R v l := by
  obtain ⟨hx, hr⟩ := h
  rcases hr with ⟨rfl, hn⟩ | ⟨g, cap, cur, rfl, hb, hg, hn, hcap, hsz, htake⟩
  · have : l = [] := List.length_eq_zero_iff.1 hn
    subst this
    exact ⟨none, 0, rfl, ⟨fun _ => rfl, by simp⟩, by decide, fun i hi => by simp at hi⟩
  · refine ⟨some ⟨g, 0, none⟩, cap, rfl, ⟨by simp, hn⟩, hcap, fun i hi => ⟨g, 0, css[i]'(by omega), rfl, he _ (List.getElem_mem _), ?_, hR i hi (by omega)⟩⟩
    intro j hj
    have hcl := he _ (List.getElem_mem (show i < css.length by omega))
    rw [Nat.zero_add, cell_of_row w g _ cur E (0, 0) hg]
    have hlt : i * sz + j < l.length * sz := by
      have : (i + 1) * sz ≤ l.length * sz := Nat.mul_le_mul_right _ hi
      rw [Nat.succ_mul] at this
      omega
    have e1 : (cur.toList.take (l.length * sz))[i * sz + j]? = cur[i * sz + j]? := by
      rw [List.getElem?_take, if_pos hlt]; simp
    rw [← e1, htake, flatten_at sz css he i (by omega) j (by omega), List.getElem?_eq_getElem hj]
theorem Src.of_sl {α : Type} {w : World} {sz : Nat} {R : α → List Value → Prop} {a : Option Addr} {n cap : Nat} {l : List α} (h : SlRd w sz R (.slice a n cap) l)
    (h1 : ∀ x cs, R x cs → ∀ q ∈ cs, q.oneCell' = true) : ∃ css : List (List Value), css.length = l.length ∧ (∀ cs ∈ css, cs.length = sz) ∧ (∀ i (h : i < l.length) (h' : i < css.length), R l[i] css[i]) ∧ Src w sz (.slice a n cap) l.length css.flatten := by
  obtain ⟨a', cap', hv, hn, hm, hc⟩ := h
  cases hv
  have hex : ∀ i, i < l.length → ∃ cs, ∀ h : i < l.length, ∃ b o, a = some ⟨b, o, none⟩ ∧ cs.length = sz ∧ CellsAt w b (o + i * sz) cs ∧ R l[i] cs := fun i hi => by
    obtain ⟨b, o, cs, h1, h2, h3, h4⟩ := hc i hi
    exact ⟨cs, fun _ => ⟨b, o, h1, h2, h3, h4⟩⟩
  obtain ⟨css, hcl, hcp⟩ := list_of l.length hex
  have heach : ∀ cs ∈ css, cs.length = sz := fun cs hcs => by
    obtain ⟨i, hi, rfl⟩ := List.getElem_of_mem hcs
    obtain ⟨_, _, _, h2, _⟩ := hcp i hi (by omega)
    exact h2
  refine ⟨css, hcl, heach, fun i hi hi' => by obtain ⟨_, _, _, _, _, h4⟩ := hcp i hi' hi; exact h4, a, cap, rfl, ?_, ?_, ?_, ?_⟩
  · rw [List.length_flatten, ← hcl]
    have : ∀ css : List (List Value), (∀ cs ∈ css, cs.length = sz) → (css.map List.length).sum = css.length * sz := fun css => by
      induction css with
      | nil => intro _; simp
      | cons x t ih => intro h; rw [List.map_cons, List.sum_cons, h x (by simp), ih fun cs hcs => h cs (by simp [hcs]), List.length_cons, Nat.succ_mul]; omega
    exact this css heach
  · intro h0
    have h1 := hn.1 h0
    subst h1
    cases l with
    | nil => exact ⟨rfl, rfl⟩
    | cons x t => simp at hn
  · intro ad had j q hq
    subst had
    by_cases hs0 : sz = 0
    · exfalso
      have : css.flatten = [] := by
        rw [List.flatten_eq_nil_iff]
        intro cs hcs
        exact List.length_eq_zero_iff.1 (by rw [heach cs hcs, hs0])
      rw [this] at hq
      simp at hq
    · have hjl : j < css.flatten.length := by
        rcases Nat.lt_or_ge j css.flatten.length with h | h
        · exact h
        · rw [List.getElem?_eq_none h] at hq; cases hq
      have hfl : css.flatten.length = css.length * sz := by
        rw [List.length_flatten]
        have : ∀ css : List (List Value), (∀ cs ∈ css, cs.length = sz) → (css.map List.length).sum = css.length * sz := fun css => by
          induction css with
          | nil => intro _; simp
          | cons x t ih => intro h; rw [List.map_cons, List.sum_cons, h x (by simp), ih fun cs hcs => h cs (by simp [hcs]), List.length_cons, Nat.succ_mul]; omega
        exact this css heach
      have hi : j / sz < css.length := by
        rw [Nat.div_lt_iff_lt_mul (by omega)]
        omega
      have hj2 : j % sz < sz := Nat.mod_lt _ (by omega)
      have hd : j = j / sz * sz + j % sz := by rw [Nat.mul_comm]; exact (Nat.div_add_mod j sz).symm
      obtain ⟨b, o, h1, h2, h3, _⟩ := hcp (j / sz) hi (by omega)
      cases h1
      have hf := flatten_at sz css heach (j / sz) hi (j % sz) hj2
      rw [← hd, hq] at hf
      have hlen : j % sz < (css[j / sz]'hi).length := by rw [h2]; exact hj2
      rw [List.getElem?_eq_getElem hlen] at hf
      have := h3 (j % sz) hlen
      rw [addr_add, hd]
      have e : o + (j / sz * sz + j % sz) = o + j / sz * sz + j % sz := by omega
      rw [e, this]
      exact hf.symm
  · intro q hq
    obtain ⟨cs, hcs, hqc⟩ := List.mem_flatten.1 hq
    obtain ⟨i, hi, rfl⟩ := List.getElem_of_mem hcs
    obtain ⟨_, _, _, _, _, h4⟩ := hcp i hi (by omega)
    exact h1 _ _ h4 q hqc
theorem val_one {w : World} (x : Val) (cs : List Value) (h : valRd w x cs) : ∀ q ∈ cs, q.oneCell' = true := by
  obtain ⟨vn, vp, ve, rfl, _, h2, h3, h4⟩ := (valRd_iff _ _ _).1 h
  obtain ⟨_, _, rfl, _, _⟩ := h2.shape
  obtain ⟨_, _, rfl, _, _⟩ := h3.shape
  obtain ⟨_, _, rfl, _, _⟩ := h4.shape
  intro q hq
  simp at hq
  rcases hq with rfl | rfl | rfl | rfl <;> rfl
theorem ent_one {w : World} (x : En) (cs : List Value) (h : entryRd w x cs) : ∀ q ∈ cs, q.oneCell' = true := by
  obtain ⟨v, rfl, h2, _⟩ := h
  obtain ⟨_, _, rfl, _, _⟩ := h2.shape
  intro q hq
  simp at hq
  rcases hq with rfl | rfl <;> rfl
end Go.Proofs.YtmdjnaobllajmaaGreatDoor
