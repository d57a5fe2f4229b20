/-
  Lists of lists of ints, as they are read and as they are built; the walk of the reference's Subsets.
-/
import Derived.Test.YtaifmlbhglfbeaaLawD
namespace Go.Proofs.Ytaifmlbhglfbeaa
open Go.RowKit

/-- A row of ints that some call has made. -/
abbrev RowOf (w : World) (u : Value) (x : List Int) : Prop := w.ownsRow 0 3 1 u x.length (x.map (Value.int .i64))

/-- The slice value v reads as the values us, and each of these as a list of ints. -/
structure LLt (w : World) (v : Value) (us : List Value) (xss : List (List Int)) : Prop where
  len : us.length = xss.length
  max : us.length ≤ 9223372036854775807
  shape : ∃ a cap, v = .slice a us.length cap ∧ ∀ i (_h : i < us.length), ∃ b off, a = some ⟨b, off, none⟩ ∧ w.cell? ⟨b, off + i, none⟩ = some us[i]
  els : ∀ (i : Nat) (u : Value) (x : List Int), us[i]? = some u → xss[i]? = some x → RowOf w u x

/-- .. and its own row is the call's own, from block bo on. -/
structure OLL (bo : Nat) (w : World) (vo : Value) (us : List Value) (xss : List (List Int)) : Prop where
  own : w.ownsRow bo 25 1 vo us.length us
  len : us.length = xss.length
  els : ∀ (i : Nat) (u : Value) (x : List Int), us[i]? = some u → xss[i]? = some x → RowOf w u x

theorem RowOf.below {w w' : World} {u : Value} {x : List Int} (h : RowOf w u x) (hb : Below w.heap.size w w') : RowOf w' u x :=
  owns_of_block h fun g hg => hb.block g (h.lt g hg).2

theorem LLt.below {w w' : World} {v : Value} {us : List Value} {xss : List (List Int)} (h : LLt w v us xss) (hb : Below w.heap.size w w') : LLt w' v us xss := by
  obtain ⟨a, cap, hv, hc⟩ := h.shape
  refine ⟨h.len, h.max, ⟨a, cap, hv, fun i hi => ?_⟩, fun i u x hu hx => (h.els i u x hu hx).below hb⟩
  obtain ⟨b, off, ha, hcell⟩ := hc i hi
  exact ⟨b, off, ha, (hb.cell (World.block_lt_of_cell? w _ hcell)).trans hcell⟩

theorem OLL.below {bo : Nat} {w w' : World} {v : Value} {us : List Value} {xss : List (List Int)} (h : OLL bo w v us xss) (hb : Below w.heap.size w w') : OLL bo w' v us xss :=
  ⟨owns_of_block h.own fun g hg => hb.block g (h.own.lt g hg).2, h.len, fun i u x hu hx => (h.els i u x hu hx).below hb⟩

theorem OLL.base {bo bo' : Nat} {w : World} {v : Value} {us : List Value} {xss : List (List Int)} (h : OLL bo w v us xss) (hb : bo' ≤ bo) : OLL bo' w v us xss :=
  ⟨owns_base h.own hb, h.len, h.els⟩

theorem OwnLL.oll {bo : Nat} {w : World} {v : Value} {us : List Value} {xss : List (List Int)} (h : OwnLL bo w v us xss) : OLL bo w v us xss :=
  ⟨h.own, h.len, fun i u x hu hx => owns_base (h.els i u x hu hx) (Nat.zero_le _)⟩

theorem OLL.llt {bo : Nat} {w : World} {v : Value} {us : List Value} {xss : List (List Int)} (h : OLL bo w v us xss) : LLt w v us xss := by
  refine ⟨h.len, ?_, ?_, h.els⟩
  · rcases h.own.2 with ⟨_, hn⟩ | ⟨g, cap, cur, _, _, _, hn, hcap, _⟩
    · omega
    · unfold maxLen at hcap; omega
  · rcases h.own.2 with ⟨hv, hn⟩ | ⟨g, cap, cur, hv, hb, hg, hn, hcap, hsz, htake⟩
    · exact ⟨none, 0, by rw [hv, hn], fun i hi => by omega⟩
    · refine ⟨some ⟨g, 0, none⟩, cap, hv, fun i hi => ⟨g, 0, rfl, ?_⟩⟩
      rw [Nat.zero_add, cell_of_row w g i cur 25 (0, 0) hg]
      have : (cur.toList.take (us.length * 1))[i]? = some us[i] := by rw [htake]; simp [hi]
      rw [List.getElem?_take, if_pos (by omega)] at this
      simpa using this

/-- One more list is appended. -/
theorem OLL.append {bo : Nat} {wr w1 : World} {o : Obj} {vo v' u : Value} {us : List Value} {xss : List (List Int)} {x : List Int} (h : OLL bo wr vo us xss) (hu : RowOf wr u x)
    (hown : w1.ownsRow bo 25 1 v' (us.length + 1) (us ++ [u])) (hg : (wr.alloc o).grownBy w1 vo.ownBlock) : OLL bo w1 v' (us ++ [u]) (xss ++ [x]) := by
  have keep : ∀ {u : Value} {x : List Int}, RowOf wr u x → RowOf w1 u x := fun {u x} hr => owns_of_block hr fun g hgg => by
    have hlt := (hr.lt g hgg).2
    refine (hg.block g (by simp; omega) fun e => ?_).trans (Below.heap_alloc wr _ _ hlt)
    obtain ⟨_, cur, hc⟩ := owns_tag hr hgg
    obtain ⟨_, cur', hc'⟩ := owns_tag h.own e.symm
    rw [hc] at hc'
    cases hc'
  refine ⟨by simpa using hown, by simp [h.len], fun i u' x' hu' hx' => ?_⟩
  have hl := h.len
  by_cases hi : i < us.length
  · rw [List.getElem?_append_left hi] at hu'
    rw [List.getElem?_append_left (by omega)] at hx'
    exact keep (h.els i u' x' hu' hx')
  · rw [List.getElem?_append_right (by omega)] at hu'
    rw [List.getElem?_append_right (by omega)] at hx'
    have h0 : i - us.length = 0 := by
      rcases Nat.eq_zero_or_pos (i - us.length) with h | h
      · exact h
      · rw [List.getElem?_eq_none (by simp; omega)] at hu'; cases hu'
    rw [h0] at hu'
    rw [show i - xss.length = 0 by omega] at hx'
    simp at hu' hx'
    subst hu'; subst hx'
    exact keep hu

theorem OLL.nil (bo : Nat) (w : World) : OLL bo w (.slice none 0 0) [] [] := ⟨World.ownsRow_nil _ _ _ _, rfl, fun i u x hu _ => by simp at hu⟩

theorem RowOf.src {w : World} {u : Value} {x : List Int} (h : RowOf w u x) : ∃ ax c, u = .slice ax x.length c ∧ (x.map (Value.int .i64)).length = x.length * 1 ∧ (ax = none → x.length = 0 ∧ c = 0) ∧
    (∀ ad, ax = some ad → ∀ j q, (x.map (Value.int .i64))[j]? = some q → w.cell? (ad.add j) = some q) ∧ ∀ q ∈ x.map (Value.int .i64), q.oneCell' = true := (Ints.of_owns h).src

/-- A list of lists is handed back, its own row in memory of the call's own. -/
def OPost (xss : List (List Int)) (w : World) (e : Ending) (w' : World) : Prop :=
  ∃ ao co us, e = .returned (.slice ao us.length co) ∧ OLL w.heap.size w' (.slice ao us.length co) us xss ∧ Below w.heap.size w w'
end Go.Proofs.Ytaifmlbhglfbeaa
