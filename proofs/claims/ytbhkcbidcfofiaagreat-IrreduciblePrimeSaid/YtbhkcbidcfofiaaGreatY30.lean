/-
  What the statements of the chapter share, part 30: SB1.
-/
import Derived.Test.YtbhkcbidcfofiaaGreatY15
import Derived.Shelf.GgSortFunc.RowK
set_option linter.unusedVariables false
set_option linter.unusedSimpArgs false
set_option maxRecDepth 100000
set_option maxHeartbeats 8000000
namespace Go.Proofs.YtbhkcbidcfofiaaGreat
open _root_.Array renaming getElem?_eq_getElem → Z0
open Go.RowKit
section
theorem rd_low0 {hd : List Value} {h : List Ob} {W : World} (hl : hd.length = h.length) {d : D} {u : Value} (l : low 0 d) (q : rd hd h W d u) : rd [] [] W d u := by
 have := Zf1 (m := 0) hl d u l q
 simpa using this
theorem rdL_low0 {hd : List Value} {h : List Ob} {W : World} (hl : hd.length = h.length) {ds : List D} {us : List Value} (l : lowL 0 ds) (q : rdL hd h W ds us) : rdL [] [] W ds us := by
 have := Vb (m := 0) hl ds us l q
 simpa using this
theorem evo_grow {w w' : World} {hd' : List Value} {h' : List Ob} {p p' : Nat → Bool} (e : Evo w [] [] p w' hd' h' p') : ∃ q os, w' = Go.Sort.grow (w.drewN q) os := by
 refine ⟨w'.drawn - w.drawn, w'.heap.extract w.heap.size w'.heap.size, ?_⟩
 have hh : w'.heap = w.heap ++ w'.heap.extract w.heap.size w'.heap.size := by
  apply Array.ext
  · simp; have := e.size; omega
  · intro i h1 h2
    have hs := e.size
    by_cases hi : i < w.heap.size
    · rw [Array.getElem_append_left hi]
      have := e.keep i hi (fun ⟨j, ob, u, q, _⟩ => by simp at q)
      rw [Z0 h1, Z0 hi] at this
      exact Option.some.inj this
    · rw [Array.getElem_append_right (by omega)]
      simp
      congr 1; omega
 obtain ⟨heap', tape', drawn', os', output'⟩ := w'
 have h1 : os' = w.os := e.os.1
 have h2 : w.drawn ≤ drawn' := e.os.2
 have h3 : tape' = w.tape := e.tape
 have h4 : output' = w.output := e.output
 subst h1 h3 h4
 have h5 : heap' = w.heap ++ heap'.extract w.heap.size heap'.size := hh
 show World.mk heap' w.tape drawn' w.os w.output = World.mk (w.heap ++ heap'.extract w.heap.size heap'.size) w.tape (w.drawn + (drawn' - w.drawn)) w.os w.output
 rw [← h5, show w.drawn + (drawn' - w.drawn) = drawn' by omega]
end
end Go.Proofs.YtbhkcbidcfofiaaGreat
