/-
  What it means for a slice value to read as a list, and small facts on worlds: shared by all texts of this seat.
-/
import Derived.Test.YtaifmlbhglfbeaaRows
import Derived.WalkKit
import Derived.WalkSpells
import Derived.WalkLawsBesides
import Derived.BigQuiet
import Derived.Deep.QuietTactic
import Derived.Deep.RegionWith
import Derived.Deep.RegionLaw
import Derived.Deep.RegionHeld3
import Derived.Deep.AppendLies
import Derived.Laws.AppendOwnNone
import Derived.StillTactics
import Derived.OwnWalk
import Derived.Laws.Pointers
namespace Go.Proofs.Ytaifmlbhglfbeaa
open Go.RowKit

theorem hid {p : Prop} (h : p) : Hid p := h
theorem ret_int {k : IntKind} {a b : Int} (h : a = b) : Ending.returned (.int k a) = .returned (.int k b) := by rw [h]
theorem ret_bool {a b : Bool} (h : a = b) : Ending.returned (.bool a) = .returned (.bool b) := by rw [h]

/-- The slice value v reads, in the world w, as the list xs of ints. -/
def Ints (w : World) (v : Value) (xs : List Int) : Prop :=
  ∃ a cap, v = .slice a xs.length cap ∧ ((a = none → cap = 0) ∧ xs.length ≤ cap) ∧ xs.length ≤ 9223372036854775807 ∧ ∀ i (h : i < xs.length), ∃ b off, a = some ⟨b, off, none⟩ ∧ w.cell? ⟨b, off + i, none⟩ = some (.int .i64 xs[i])

theorem Ints.below {w w' : World} {v : Value} {xs : List Int} (h : Ints w v xs) (hb : Below w.heap.size w w') : Ints w' v xs := by
  obtain ⟨a, cap, hv, hn, hm, hc⟩ := h
  refine ⟨a, cap, hv, hn, hm, fun i hi => ?_⟩
  obtain ⟨b, off, ha, hcell⟩ := hc i hi
  exact ⟨b, off, ha, (hb.cell (World.block_lt_of_cell? w _ hcell)).trans hcell⟩

theorem Ints.drewN {w : World} {v : Value} {xs : List Int} (h : Ints w v xs) (n : Nat) : Ints (w.drewN n) v xs := h

theorem Ints.of_owns {w : World} {base E : Nat} {v : Value} {xs : List Int} (h : w.ownsRow base E 1 v xs.length (xs.map (Value.int .i64))) : Ints w v xs := by
  obtain ⟨hl, hr⟩ := h
  rcases hr with ⟨rfl, hn⟩ | ⟨g, cap, cur, rfl, hb, hg, hn, hcap, hsz, htake⟩
  · have : xs = [] := List.length_eq_zero_iff.1 hn
    subst this
    exact ⟨none, 0, rfl, ⟨fun _ => rfl, by simp⟩, by simp, fun i hi => by simp at hi⟩
  · refine ⟨some ⟨g, 0, none⟩, cap, rfl, ⟨by simp, hn⟩, by unfold maxLen at hcap; omega, fun i hi => ⟨g, 0, rfl, ?_⟩⟩
    rw [Nat.zero_add, cell_of_row w g i cur E (0, 0) hg]
    have : (cur.toList.take (xs.length * 1))[i]? = some (.int .i64 xs[i]) := by rw [htake]; simp [hi]
    rw [List.getElem?_take, if_pos (by omega)] at this
    simpa using this

theorem owns_shape {w : World} {base E size : Nat} {v : Value} {n : Nat} {xs : List Value} (h : w.ownsRow base E size v n xs) : ∃ a cap, v = .slice a n cap := by
  rcases h.2 with ⟨rfl, hn⟩ | ⟨g, cap, cur, rfl, _⟩
  · subst hn; exact ⟨none, 0, rfl⟩
  · exact ⟨_, cap, rfl⟩

/-- The cell of an element; the slice's address. -/
theorem Ints.cell {w : World} {a : Option Addr} {cap : Nat} {xs : List Int} (h : Ints w (.slice a xs.length cap) xs) (i : Nat) (hi : i < xs.length) : ∃ b off, a = some ⟨b, off, none⟩ ∧ w.cell? ⟨b, off + i, none⟩ = some (.int .i64 xs[i]) := by
  obtain ⟨a', cap', hv, hn, hm, hc⟩ := h
  cases hv
  exact hc i hi

/-- What the reading of a slice of ints gives. -/
theorem ints_of_row {w : World} {x : Addr} {len cap : Nat} {zs : List Int} (hl : len ≤ cap) (hm : cap ≤ maxLen) (hz : zs.length = cap)
    (hcell : ∀ i, i < zs.length → w.cell? (x.add i) = some (.int .i64 (zs.getD i 0))) : Ints w (.slice (some x) len cap) (zs.take len) := by
  have hlen : (zs.take len).length = len := by simp; omega
  refine ⟨some x, cap, by rw [hlen], ⟨by simp, by omega⟩, by unfold maxLen at hm; omega, fun i hi => ?_⟩
  rw [hlen] at hi
  have hc := hcell i (by omega)
  obtain ⟨b, off, spot⟩ := x
  have hspot : spot = none := by simpa [Addr.add] using World.cell?_spot (hcell 0 (by omega))
  subst hspot
  refine ⟨b, off, rfl, ?_⟩
  have hadd : (⟨b, off, none⟩ : Addr).add i = ⟨b, off + i, none⟩ := by unfold Addr.add; split <;> simp_all
  rw [hadd] at hc
  rw [hc]
  simp [List.getD, show i < zs.length by omega]

theorem Ints.shape {w : World} {v : Value} {xs : List Int} (h : Ints w v xs) : ∃ a cap, v = .slice a xs.length cap := by
  obtain ⟨a, cap, hv, _⟩ := h
  exact ⟨a, cap, hv⟩
theorem Ints.len {w : World} {v : Value} {xs : List Int} (h : Ints w v xs) : xs.length ≤ 9223372036854775807 := by
  obtain ⟨a, cap, hv, _, hm, _⟩ := h
  exact hm

theorem Ints.nil (w : World) : Ints w (.slice none 0 0) [] := ⟨none, 0, rfl, ⟨fun _ => rfl, by simp⟩, by simp, fun i hi => by simp at hi⟩

theorem below_drewN' {B : Nat} {a w : World} (h : Below B a w) (n : Nat) : Below B a (w.drewN n) := ⟨h.os, h.tape, h.output, h.size, h.block⟩

/-- 'append' on a slice that is the call's own, of whatever source: nil, empty or not. As a law for a region that draws. -/
theorem step_append_any {P : Program} {w : World} {ops : Array Oper} {o : Oper} {a : Act} {K : Act → World → Prop} {Q : Exit → Act → World → Prop} {E : Prop} (hgd : o.guard = none) (s x : Operand) (t : TypeId)
    (ho : o.op = .call { callee := .builtin .append, args := #[s, x], argTypes := #[t, t] })
    (base : Nat) (e : TypeId) (i : TypeInfo) (z : Value) (size bytes : Nat) (ht : P.underlying t = some (.slice e)) (hi : P.info? e = some i) (hz : i.zero = some z)
    (hsize : i.size = size) (hby : i.bytes = bytes) (hzs : z.cells.size = size) (hsz : 0 < size)
    (v : Value) (n : Nat) (xs : List Value) (hs : a.eval s = v) (hown : w.ownsRow base e size v n xs)
    (ax : Option Addr) (m c : Nat) (news : List Value) (hx : a.eval x = .slice ax m c) (hl : news.length = m * size) (hnone : ax = none → m = 0 ∧ c = 0)
    (hnews : ∀ ad, ax = some ad → ∀ j u, news[j]? = some u → w.cell? (ad.add j) = some u) (h1 : ∀ u ∈ news, u.oneCell' = true)
    (N : Nat) (hN : n + m = N) (L : List Value) (hL : xs ++ news = L) (h63 : N ≤ maxLen) (hbytes : N * bytes ≤ 140737488355328) (hbase : base ≤ w.heap.size)
    (h : ∀ a' cap' w', w'.ownsRow base e size (.slice a' N cap') N L → w.grownBy w' v.ownBlock → K (a.put o.dst (.slice a' N cap')) w') :
    if Region.wanted o (yielded ops a.tmps) = true then Oper.wp P o a w K Q else E := by
  subst hN
  subst hL
  rw [if_pos (by simp [Region.wanted, hgd])]
  cases ax with
  | some ad =>
    refine wp_append_own w s x t ho base e i z size bytes ht hi hz hsize hby hzs hsz v n xs hs hown ad m c news hx hl (hnews ad rfl) h1 h63 hbytes hbase fun v' w' h2 h3 _ => ?_
    obtain ⟨a', cap', rfl⟩ := owns_shape h2
    exact h a' cap' w' h2 h3
  | none =>
    obtain ⟨rfl, rfl⟩ := hnone rfl
    have hn : news = [] := List.eq_nil_of_length_eq_zero (by simpa using hl)
    subst hn
    obtain ⟨a', cap', rfl⟩ := owns_shape hown
    have hrun := run_append_owned_none (P := P) (w := w) base t o.type e i size ht hi _ n xs hown
    unfold Oper.wp
    simp [execOp, ho, resolve, invoke, builtin, hs, hx, hrun, Result.andThen]
    exact h a' cap' w (by simpa using hown) ⟨rfl, rfl, rfl, Nat.le_refl _, fun _ _ _ => rfl⟩

theorem wpList_append_any {P : Program} {w : World} {ops : Array Oper} {rest : List Oper} {o : Oper} {a : Act} {Q : Exit → Act → World → Prop} (hgd : o.guard = none) (s x : Operand) (t : TypeId)
    (ho : o.op = .call { callee := .builtin .append, args := #[s, x], argTypes := #[t, t] })
    (base : Nat) (e : TypeId) (i : TypeInfo) (z : Value) (size bytes : Nat) (ht : P.underlying t = some (.slice e)) (hi : P.info? e = some i) (hz : i.zero = some z)
    (hsize : i.size = size) (hby : i.bytes = bytes) (hzs : z.cells.size = size) (hsz : 0 < size)
    (v : Value) (n : Nat) (xs : List Value) (hs : a.eval s = v) (hown : w.ownsRow base e size v n xs)
    (ax : Option Addr) (m c : Nat) (news : List Value) (hx : a.eval x = .slice ax m c) (hl : news.length = m * size) (hnone : ax = none → m = 0 ∧ c = 0)
    (hnews : ∀ ad, ax = some ad → ∀ j u, news[j]? = some u → w.cell? (ad.add j) = some u) (h1 : ∀ u ∈ news, u.oneCell' = true)
    (N : Nat) (hN : n + m = N) (L : List Value) (hL : xs ++ news = L) (h63 : N ≤ maxLen) (hbytes : N * bytes ≤ 140737488355328) (hbase : base ≤ w.heap.size)
    (h : ∀ a' cap' w', w'.ownsRow base e size (.slice a' N cap') N L → w.grownBy w' v.ownBlock → wpList P ops Q rest (a.put o.dst (.slice a' N cap')) w') :
    wpList P ops Q (o :: rest) a w := by
  refine wpList_plain hgd fun K hK => ?_
  have := step_append_any (ops := ops) (Q := Q) (E := False) (K := K) hgd s x t ho base e i z size bytes ht hi hz hsize hby hzs hsz v n xs hs hown ax m c news hx hl hnone hnews h1 N hN L hL h63 hbytes hbase (fun a' cap' w' h2 h3 => hK _ _ (h a' cap' w' h2 h3))
  rw [if_pos (by simp [Region.wanted, hgd])] at this
  exact this

theorem Ints.src {w : World} {u : Value} {x : List Int} (h : Ints w u x) : ∃ ax c, u = .slice ax x.length c ∧ (x.map (Value.int .i64)).length = x.length * 1 ∧ (ax = none → x.length = 0 ∧ c = 0) ∧
    (∀ ad, ax = some ad → ∀ j q, (x.map (Value.int .i64))[j]? = some q → w.cell? (ad.add j) = some q) ∧ ∀ q ∈ x.map (Value.int .i64), q.oneCell' = true := by
  obtain ⟨a, cap, hv, hn, hm, hc⟩ := h
  refine ⟨a, cap, hv, by simp, fun ha => ⟨?_, hn.1 ha⟩, fun ad ha j q hq => ?_, fun q hq => by obtain ⟨y, _, rfl⟩ := List.mem_map.1 hq; rfl⟩
  · by_cases h0 : x.length = 0
    · exact h0
    · obtain ⟨b, off, e, _⟩ := hc 0 (by omega)
      rw [ha] at e; cases e
  · rw [List.getElem?_map] at hq
    by_cases hj : j < x.length
    · rw [List.getElem?_eq_getElem hj] at hq
      simp at hq
      obtain ⟨b, off, e, hcell⟩ := hc j hj
      rw [ha] at e
      cases e
      subst hq
      have hadd : (⟨b, off, none⟩ : Addr).add j = ⟨b, off + j, none⟩ := by unfold Addr.add; split <;> simp_all
      rw [hadd]
      exact hcell
    · rw [List.getElem?_eq_none (by omega)] at hq
      simp at hq

/-- A literal slice that was just made is the call's own. -/
theorem owns_made {w : World} {base E : Nat} {g : Nat} (cur : Array Value) (n : Nat) (hg : w.heap[g]? = some (.cells cur E (0, 0))) (hb : base ≤ g) (hn : cur.size = n) (hm : n ≤ maxLen) :
    w.ownsRow base E 1 (.slice (some ⟨g, 0, none⟩) n n) n cur.toList :=
  ⟨by simp [hn], .inr ⟨g, n, cur, rfl, hb, hg, Nat.le_refl _, hm, by simp [hn], by subst hn; rw [Nat.mul_one, ← Array.length_toList, List.take_length]⟩⟩

theorem owns_tag {w : World} {base E size g : Nat} {v : Value} {n : Nat} {xs : List Value} (h : w.ownsRow base E size v n xs) (hg : v.ownBlock = some g) : base ≤ g ∧ ∃ cur, w.heap[g]? = some (.cells cur E (0, 0)) := by
  rcases h.2 with ⟨rfl, _⟩ | ⟨g', cap, cur, rfl, hb, hgg, _⟩
  · simp [Value.ownBlock] at hg
  · simp [Value.ownBlock] at hg
    subst hg
    exact ⟨hb, cur, hgg⟩

/-- What is owned stays owned when its block is unchanged. -/
theorem owns_of_block {w w' : World} {base E size : Nat} {v : Value} {n : Nat} {xs : List Value} (h : w.ownsRow base E size v n xs) (hk : ∀ g, v.ownBlock = some g → w'.heap[g]? = w.heap[g]?) : w'.ownsRow base E size v n xs := by
  refine ⟨h.1, ?_⟩
  rcases h.2 with hn | ⟨g, cap, cur, rfl, hb, hgg, rest⟩
  · exact .inl hn
  · exact .inr ⟨g, cap, cur, rfl, hb, (hk g rfl).trans hgg, rest⟩

theorem owns_base {w : World} {base base' E size : Nat} {v : Value} {n : Nat} {xs : List Value} (h : w.ownsRow base E size v n xs) (hb : base' ≤ base) : w.ownsRow base' E size v n xs := by
  refine ⟨h.1, ?_⟩
  rcases h.2 with hn | ⟨g, cap, cur, rfl, hb2, rest⟩
  · exact .inl hn
  · exact .inr ⟨g, cap, cur, rfl, Nat.le_trans hb hb2, rest⟩
theorem heap_new_at (w : World) (o : Obj) (n : Nat) (h : n = w.heap.size) : (w.alloc o).heap[n]? = some o := by
  subst h; exact heap_alloc_new w o
end Go.Proofs.Ytaifmlbhglfbeaa
