/-
  The walk of the closure of subsets, and of subsets: all subsets with k elements, in lexicographic order, as a slice of slices of the call's own.
-/
import Derived.Test.YtaifmlbhglfbeaaWalkD
namespace Go.Proofs.Ytaifmlbhglfbeaa
open Go.RowKit

theorem Try.infoSl : (Try.prog.info? 25).map (fun i => (i.zero, i.size, i.bytes)) = some (some (.slice none 0 0), 1, 24) := by kernel_rfl

def comb : Nat → List Int → List (List Int)
  | 0, _ => [[]]
  | _ + 1, [] => []
  | n + 1, x :: t => (comb n t).map (x :: ·) ++ comb (n + 1) t

/-- The list of lists that a slice of the call's own holds: each element owns its own row. -/
structure OwnLL (base : Nat) (w : World) (vo : Value) (us : List Value) (xss : List (List Int)) : Prop where
  own : w.ownsRow base 25 1 vo us.length us
  len : us.length = xss.length
  els : ∀ (i : Nat) (u : Value) (x : List Int), us[i]? = some u → xss[i]? = some x → w.ownsRow base 3 1 u x.length (x.map (Value.int .i64))

/-- What the closure leaves alone: the blocks below 'base' but for the variable 'Bo', and every row of ints. -/
structure Kp (base Bo : Nat) (w w' : World) : Prop where
  os : w'.os = w.os
  tape : w'.tape = w.tape
  output : w'.output = w.output
  size : w.heap.size ≤ w'.heap.size
  low : ∀ b, b < base → b ≠ Bo → w'.heap[b]? = w.heap[b]?
  rows : ∀ b cur fr, base ≤ b → w.heap[b]? = some (.cells cur 3 fr) → w'.heap[b]? = w.heap[b]?

theorem Kp.refl (base Bo : Nat) (w : World) : Kp base Bo w w := ⟨rfl, rfl, rfl, Nat.le_refl _, fun _ _ _ => rfl, fun _ _ _ _ _ => rfl⟩
theorem Kp.trans {base Bo : Nat} {a b c : World} (h : Kp base Bo a b) (k : Kp base Bo b c) : Kp base Bo a c :=
  ⟨k.os.trans h.os, k.tape.trans h.tape, k.output.trans h.output, Nat.le_trans h.size k.size, fun i hi hn => (k.low i hi hn).trans (h.low i hi hn),
   fun i cur fr hi hc => (k.rows i cur fr hi ((h.rows i cur fr hi hc).trans hc)).trans (h.rows i cur fr hi hc)⟩
theorem Kp.drew {base Bo : Nat} {a w : World} (h : Kp base Bo a w) : Kp base Bo a w.drew := ⟨h.os, h.tape, h.output, h.size, h.low, h.rows⟩
theorem Kp.alloc {base Bo : Nat} {a w : World} (h : Kp base Bo a w) (hB : base ≤ w.heap.size) (o : Obj) : Kp base Bo a (w.alloc o) :=
  h.trans ⟨rfl, rfl, rfl, by simp, fun k hk _ => Below.heap_alloc _ _ _ (by omega), fun k cur fr hk hc => Below.heap_alloc _ _ _ (by rw [Array.getElem?_eq_some_iff] at hc; exact hc.1)⟩
theorem Kp.grown {base Bo : Nat} {a w w' : World} {row : Option Nat} (h : Kp base Bo a w) (hg : w.grownBy w' row) (hB : base ≤ w.heap.size)
    (hr : ∀ k, row = some k → base ≤ k ∧ ∀ cur fr, w.heap[k]? ≠ some (.cells cur 3 fr)) : Kp base Bo a w' :=
  h.trans ⟨hg.os, hg.tape, hg.output, hg.size, fun k hk _ => hg.block k (by omega) (fun e => by have := (hr k e.symm).1; omega),
    fun k cur fr hk hc => hg.block k (by rw [Array.getElem?_eq_some_iff] at hc; exact hc.1) (fun e => (hr k e.symm).2 cur fr hc)⟩
/-- An append to a row of ints that was made after 'a'. -/
theorem Kp.grownNew {base Bo : Nat} {a w w' : World} {row : Option Nat} (h : Kp base Bo a w) (hg : w.grownBy w' row) (hB : base ≤ a.heap.size) (hr : ∀ k, row = some k → a.heap.size ≤ k) : Kp base Bo a w' :=
  ⟨hg.os.trans h.os, hg.tape.trans h.tape, hg.output.trans h.output, Nat.le_trans h.size hg.size,
   fun k hk hn => (hg.block k (by have := h.size; omega) (fun e => by have := hr k e.symm; omega)).trans (h.low k hk hn),
   fun k cur fr hk hc => by
     have hlt : k < a.heap.size := by rw [Array.getElem?_eq_some_iff] at hc; exact hc.1
     exact (hg.block k (by have := h.size; omega) (fun e => by have := hr k e.symm; omega)).trans (h.rows k cur fr hk hc)⟩
theorem Kp.setVar {base Bo : Nat} {a w : World} (h : Kp base Bo a w) (hB : Bo < base) (off : Nat) (u : Value) : Kp base Bo a (w.setCell ⟨Bo, off, none⟩ u) :=
  h.trans ⟨rfl, rfl, rfl, by simp [World.setCell], fun k hk hn => Below.heap_setCell _ _ _ _ hn, fun k cur fr hk hc => Below.heap_setCell _ _ _ _ (show k ≠ Bo by omega)⟩

theorem OwnLL.kept {base : Nat} {w w' : World} {vo : Value} {us : List Value} {xss : List (List Int)} (h : OwnLL base w vo us xss)
    (h1 : ∀ g, vo.ownBlock = some g → w'.heap[g]? = w.heap[g]?) (h2 : ∀ b cur fr, base ≤ b → w.heap[b]? = some (.cells cur 3 fr) → w'.heap[b]? = w.heap[b]?) : OwnLL base w' vo us xss :=
  ⟨owns_of_block h.own h1, h.len, fun i u x hu hx => owns_of_block (h.els i u x hu hx) (fun g hg => by
    obtain ⟨hb, cur, hc⟩ := owns_tag (h.els i u x hu hx) hg
    exact h2 g cur (0, 0) hb hc)⟩


theorem OwnLL.snoc {base : Nat} {w : World} {vo u : Value} {us : List Value} {xss : List (List Int)} {x : List Int}
    (h0 : w.ownsRow base 25 1 vo (us ++ [u]).length (us ++ [u])) (hl : us.length = xss.length)
    (h1 : ∀ (i : Nat) (u : Value) (x : List Int), us[i]? = some u → xss[i]? = some x → w.ownsRow base 3 1 u x.length (x.map (Value.int .i64)))
    (h2 : w.ownsRow base 3 1 u x.length (x.map (Value.int .i64))) : OwnLL base w vo (us ++ [u]) (xss ++ [x]) := by
  refine ⟨h0, by simp [hl], fun i u' x' hu hx => ?_⟩
  by_cases hi : i < us.length
  · rw [List.getElem?_append_left hi] at hu
    rw [List.getElem?_append_left (by omega)] at hx
    exact h1 i u' x' hu hx
  · rw [List.getElem?_append_right (by omega)] at hu
    rw [List.getElem?_append_right (by omega)] at hx
    have : i - us.length = 0 := by
      rcases Nat.eq_zero_or_pos (i - us.length) with h | h
      · exact h
      · rw [List.getElem?_eq_none (by simp; omega)] at hu; cases hu
    rw [this] at hu
    rw [show i - xss.length = 0 by omega] at hx
    simp at hu hx
    subst hu; subst hx
    exact h2

/-- The variables that the closure captured, and what they hold. -/
structure PS (B k : Nat) (v : Value) (ms : List Int) (w : World) (vo : Value) (us : List Value) (xss : List (List Int)) : Prop where
  M : w.heap[B]? = some (.cells #[v] 25 (0, 0))
  K : w.heap[B + 1]? = some (.cells #[.int .i64 k] 3 (0, 0))
  O : w.heap[B + 2]? = some (.cells #[vo] 30 (0, 0))
  F : w.heap[B + 3]? = some (.cells #[.func (.func 43) #[] #[.pointer (some ⟨B + 1, 0, none⟩), .pointer (some ⟨B + 2, 0, none⟩), .pointer (some ⟨B, 0, none⟩), .pointer (some ⟨B + 3, 0, none⟩)]] 40 (0, 0))
  ll : OwnLL (B + 4) w vo us xss
  big : B + 4 ≤ w.heap.size

/-- The members: their cells lie below the closure's variables. -/
def IntsLow (B : Nat) (w : World) (v : Value) (xs : List Int) : Prop := Ints w v xs ∧ ∀ a n cap, v = .slice (some a) n cap → n = 0 ∨ a.block < B

theorem IntsLow.kp {B Bo base : Nat} {w w' : World} {v : Value} {xs : List Int} (h : IntsLow B w v xs) (hb : B ≤ base) (hbo : B ≤ Bo) (k : Kp base Bo w w') : IntsLow B w' v xs := by
  refine ⟨?_, h.2⟩
  obtain ⟨⟨a, cap, hv, hn, hm, hc⟩, hl⟩ := h
  refine ⟨a, cap, hv, hn, hm, fun i hi => ?_⟩
  obtain ⟨b, off, ha, hcell⟩ := hc i hi
  subst ha
  have : b < B := by
    rcases hl _ _ _ hv with h | h
    · omega
    · exact h
  exact ⟨b, off, rfl, (World.cell?_of_block (w := w) (a := ⟨b, off + i, none⟩) (k.low b (by omega) (by omega))).trans hcell⟩

theorem cell_of_blk {w : World} {b : Nat} {u : Value} {t : TypeId} (h : w.heap[b]? = some (.cells #[u] t (0, 0))) : w.cell? ⟨b, 0, none⟩ = some u := by
  rw [cell_of_row w b 0 #[u] t (0, 0) h]; rfl
theorem frozen_of_blk {w : World} {b off : Nat} {cs : Array Value} {t : TypeId} (h : w.heap[b]? = some (.cells cs t (0, 0))) : w.frozen? ⟨b, off, none⟩ = false := by
  simp [World.frozen?, h]

end Go.Proofs.Ytaifmlbhglfbeaa
