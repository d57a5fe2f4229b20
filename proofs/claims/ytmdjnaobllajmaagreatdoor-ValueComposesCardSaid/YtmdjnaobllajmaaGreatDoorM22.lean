/-
  What the statements of the chapter share, part 22: VRow.
-/
import Derived.Test.YtmdjnaobllajmaaGreatDoorM21
import Derived.ChangeArms
import Derived.ChangeOld
import Derived.ChangeSlices
import Derived.Lib.LaidTab
set_option linter.unusedVariables false
set_option linter.unusedSimpArgs false
/- What a row's reading of an argument says of its cells: a value, a lattice, an entry, strings, bytes. -/
namespace Go.Proofs.YtmdjnaobllajmaaGreatDoor
open Go.RowKit

theorem list_of {α : Type} {P : Nat → α → Prop} : ∀ n, (∀ i, i < n → ∃ a, P i a) → ∃ l : List α, l.length = n ∧ ∀ i (h : i < l.length), P i l[i]
  | 0, _ => ⟨[], rfl, fun i h => by simp at h⟩
  | n + 1, h => by
    obtain ⟨l, hl, hp⟩ := list_of n (fun i hi => h i (by omega))
    obtain ⟨a, ha⟩ := h n (by omega)
    refine ⟨l ++ [a], by simp [hl], fun i hi => ?_⟩
    by_cases h2 : i < l.length
    · rw [List.getElem_append_left h2]; exact hp i h2
    · have h3 : i = l.length := by simp at hi; omega
      subst h3
      simpa [hl] using ha
theorem add_at {a : Addr} (h : a.spot = none) (n : Nat) : a.add n = ⟨a.block, a.off + n, none⟩ := by
  unfold Addr.add
  split
  · rename_i h0; subst h0; cases a; simp_all
  · rfl
theorem spot_of_cell {w : World} {a : Addr} {v : Value} (h : w.cell? a = some v) : a.spot = none := by
  unfold World.cell? at h
  split at h
  · split at h
    · cases h
    · rename_i hs; simpa using hs
  · cases h
theorem i64_lit {n : Int} (h : (Lit.int .i64 n).wf = true) : I64 n := by
  simp [Lit.wf, IntKind.min, IntKind.max, IntKind.signed, IntKind.bits] at h
  unfold I64
  omega
theorem okWide_struct {P : Program} {w : World} {r : Reach} {base : Nat} {t : TypeId} {v : Value} {fs : Array Field} (ht : P.underlying t = some (.struct fs)) (h : Value.okWide P w r base t v) : ∃ cs, v = .agg cs := by
  simp only [Value.okWide, ht] at h
  obtain ⟨cs, h1, _⟩ := h
  exact ⟨cs, h1⟩

section
variable {H : Type} {enc : TypeId × Value → H} {w : World} {base : Nat} {spare : Nat → Bool} {held : Bool} {fuel : Nat} {t : TypeId} {cs : List Value} {x : DataW H × List MemPlace}

theorem open_sl {α : Type} {e : TypeId} {sz : Nat} {R : α → List Value → Prop} (ht : Tryz.prog.underlying t = some (.slice e)) (hc : Tryz.prog.cellsOf e = sz) (h0 : 0 < sz)
    (hR : ∀ n, n < fuel → ∀ cs x, DataW.trod enc Tryz.prog w base spare held n e cs = some x → ∃ a, R a cs) (h : DataW.trod enc Tryz.prog w base spare held fuel t cs = some x) :
    ∃ v l, cs = [v] ∧ SlRd w sz R v l := by
  rcases DataW.trod_slice ht h with ⟨rfl, _⟩ | ⟨a, len, cap, elems, rest, n, hf, rfl, rfl, hb, hl, hm, hlen, hel, _, _⟩
  · exact ⟨_, [], rfl, sl_none _ _ _⟩
  · have each : ∀ i, i < len → ∃ y, ∃ cs', w.cells? base (a.add (i * sz)) sz = some cs' ∧ R y cs' := fun i hi => by
      have h1 := hel i hi
      rw [hc] at h1
      have h2 : i < elems.length := by omega
      rw [List.getElem?_eq_getElem h2, Option.bind_eq_some_iff] at h1
      obtain ⟨cs', h3, h4⟩ := h1
      obtain ⟨y, hy⟩ := hR n (by omega) _ _ h4
      exact ⟨y, cs', h3, hy⟩
    obtain ⟨l, hll, hp⟩ := list_of len each
    subst hll
    refine ⟨_, l, rfl, some a, cap, rfl, ⟨by simp, hl⟩, hm, fun i hi => ?_⟩
    have hs : a.spot = none := by
      obtain ⟨_, cs0, h1, _⟩ := each 0 (by omega)
      have h2 := (World.cells?_some h1).2.2 0 h0
      have h3 : cs0.length = sz := (World.cells?_some h1).2.1
      rw [List.getElem?_eq_getElem (by omega)] at h2
      have := spot_of_cell h2
      simpa [Addr.add] using this
    obtain ⟨cs', h1, h2⟩ := hp i hi
    obtain ⟨_, h3, h4⟩ := World.cells?_some h1
    refine ⟨a.block, a.off, cs', by cases a; simp_all, h3, fun j hj => ?_, h2⟩
    have h5 := h4 j (by omega)
    rw [add_at hs, add_at rfl, List.getElem?_eq_getElem hj] at h5
    exact h5

theorem open_strs (h : DataW.trod enc Tryz.prog w base spare held fuel 22 cs = some x) : ∃ v l, cs = [v] ∧ Strs w v l :=
  open_sl Tryz.underlying22 (by kernel_rfl) (by decide) (fun n _ cs x h => by
    obtain ⟨s, rfl, _, hs⟩ := DataW.trod_string Tryz.underlying9 h
    exact ⟨s, rfl, hs⟩) h

theorem four {cs : List Value} (h : cs.length = 4) : ∃ a b c d, cs = [a, b, c, d] := by
  match cs, h with | [a, b, c, d], _ => exact ⟨a, b, c, d, rfl⟩
theorem two_ {cs : List Value} (h : cs.length = 2) : ∃ a b, cs = [a, b] := by
  match cs, h with | [a, b], _ => exact ⟨a, b, rfl⟩
theorem six {cs : List Value} (h : cs.length = 6) : ∃ a b c d e f, cs = [a, b, c, d, e, f] := by
  match cs, h with | [a, b, c, d, e, f], _ => exact ⟨a, b, c, d, e, f, rfl⟩
theorem at_some {α : Type} {l : List α} {i : Nat} (h : i < l.length) : ∃ y, l[i]? = some y := ⟨_, List.getElem?_eq_getElem h⟩
theorem c_int64 : Tryz.prog.cellsOf 2 = 1 := by kernel_rfl
theorem c_int : Tryz.prog.cellsOf 3 = 1 := by kernel_rfl
theorem c_string : Tryz.prog.cellsOf 9 = 1 := by kernel_rfl
theorem c_strs : Tryz.prog.cellsOf 22 = 1 := by kernel_rfl
theorem c_vals : Tryz.prog.cellsOf 27 = 1 := by kernel_rfl
theorem c_ents : Tryz.prog.cellsOf 28 = 1 := by kernel_rfl
theorem c_ticks : Tryz.prog.cellsOf 41 = 1 := by kernel_rfl
theorem c_lats : Tryz.prog.cellsOf 23 = 1 := by kernel_rfl
theorem c_rules : Tryz.prog.cellsOf 24 = 1 := by kernel_rfl
theorem c_val : Tryz.prog.cellsOf 30 = 4 := by kernel_rfl
theorem c_ent : Tryz.prog.cellsOf 43 = 2 := by kernel_rfl
theorem c_tick : Tryz.prog.cellsOf 99 = 2 := by kernel_rfl
theorem c_lat : Tryz.prog.cellsOf 26 = 6 := by kernel_rfl
theorem c_rule : Tryz.prog.cellsOf 131 = 2 := by kernel_rfl

theorem fld {fs : Array Field} {n : Nat} {xs : List (DataW H × List MemPlace)} (hf : ∀ (i : Nat) (f : Field), fs[i]? = some f → DataW.trod enc Tryz.prog w base spare held n f.type ((cs.drop f.offset).take (Tryz.prog.cellsOf f.type)) = xs[i]?)
    (i ty off k : Nat) {y : DataW H × List MemPlace} (h : (fs[i]?).map (fun f => (f.type, f.offset)) = some (ty, off)) (hc : Tryz.prog.cellsOf ty = k) (hx : xs[i]? = some y) : DataW.trod enc Tryz.prog w base spare held n ty ((cs.drop off).take k) = some y := by
  cases hi : fs[i]? with
  | none => rw [hi] at h; cases h
  | some f =>
    rw [hi] at h
    simp only [Option.map_some, Option.some.injEq, Prod.mk.injEq] at h
    obtain ⟨rfl, rfl⟩ := h
    rw [← hx, ← hf i f hi, hc]

theorem open_tick (h : DataW.trod enc Tryz.prog w base spare held fuel 99 cs = some x) : ∃ a, tickRd a cs := by
  obtain ⟨xs, n, _, _, hl, hn, hf⟩ := DataW.trod_struct Tryz.underlying99 h
  rw [c_tick] at hl
  obtain ⟨a, b, rfl⟩ := two_ hl
  obtain ⟨y0, e0⟩ := at_some (l := xs) (i := 0) (by rw [hn]; decide)
  obtain ⟨y1, e1⟩ := at_some (l := xs) (i := 1) (by rw [hn]; decide)
  have h0 : DataW.trod enc Tryz.prog w base spare held n 3 [a] = some y0 := fld hf 0 3 0 1 rfl c_int e0
  have h1 : DataW.trod enc Tryz.prog w base spare held n 2 [b] = some y1 := fld hf 1 2 1 1 rfl c_int64 e1
  obtain ⟨p, hp, _, wp⟩ := DataW.trod_int Tryz.underlying3 h0
  obtain ⟨q, hq, _, wq⟩ := DataW.trod_int Tryz.underlying2 h1
  obtain ⟨rfl⟩ : a = .int .i64 p := by simpa using hp
  obtain ⟨rfl⟩ : b = .int .i64 q := by simpa using hq
  exact ⟨⟨p, q⟩, rfl, i64_lit wp, i64_lit wq⟩

theorem open_entry (h : DataW.trod enc Tryz.prog w base spare held fuel 43 cs = some x) : ∃ a, entryRd w a cs := by
  obtain ⟨xs, n, _, _, hl, hn, hf⟩ := DataW.trod_struct Tryz.underlying43 h
  rw [c_ent] at hl
  obtain ⟨a, b, rfl⟩ := two_ hl
  obtain ⟨y0, e0⟩ := at_some (l := xs) (i := 0) (by rw [hn]; decide)
  obtain ⟨y1, e1⟩ := at_some (l := xs) (i := 1) (by rw [hn]; decide)
  have h0 : DataW.trod enc Tryz.prog w base spare held n 41 [a] = some y0 := fld hf 0 41 0 1 rfl c_ticks e0
  have h1 : DataW.trod enc Tryz.prog w base spare held n 9 [b] = some y1 := fld hf 1 9 1 1 rfl c_string e1
  obtain ⟨v, l, hv, hs⟩ := open_sl (R := tickRd) Tryz.underlying41 c_tick (by decide) (fun _ _ _ _ h => open_tick h) h0
  obtain ⟨s, hq, _, ws⟩ := DataW.trod_string Tryz.underlying9 h1
  obtain ⟨rfl⟩ : a = v := by simpa using hv
  obtain ⟨rfl⟩ : b = .string s := by simpa using hq
  exact ⟨⟨l, s⟩, _, rfl, hs, ws⟩

theorem open_rule (h : DataW.trod enc Tryz.prog w base spare held fuel 131 cs = some x) : ∃ a, ruleRd w a cs := by
  obtain ⟨xs, n, _, _, hl, hn, hf⟩ := DataW.trod_struct Tryz.underlying131 h
  rw [c_rule] at hl
  obtain ⟨a, b, rfl⟩ := two_ hl
  obtain ⟨y0, e0⟩ := at_some (l := xs) (i := 0) (by rw [hn]; decide)
  obtain ⟨y1, e1⟩ := at_some (l := xs) (i := 1) (by rw [hn]; decide)
  have h0 : DataW.trod enc Tryz.prog w base spare held n 22 [a] = some y0 := fld hf 0 22 0 1 rfl c_strs e0
  have h1 : DataW.trod enc Tryz.prog w base spare held n 9 [b] = some y1 := fld hf 1 9 1 1 rfl c_string e1
  obtain ⟨v, l, hv, hs⟩ := open_strs h0
  obtain ⟨s, hq, _, ws⟩ := DataW.trod_string Tryz.underlying9 h1
  obtain ⟨rfl⟩ : a = v := by simpa using hv
  obtain ⟨rfl⟩ : b = .string s := by simpa using hq
  exact ⟨⟨l, s⟩, _, rfl, hs, ws⟩

theorem open_val : ∀ (m : Nat) (fuel : Nat) (cs : List Value) (x : DataW H × List MemPlace), fuel < m → DataW.trod enc Tryz.prog w base spare held fuel 30 cs = some x → ∃ v, valRd w v cs
  | 0, _, _, _, hm, _ => by omega
  | m + 1, fuel, cs, x, hm, h => by
    obtain ⟨xs, n, hfu, _, hl, hn, hf⟩ := DataW.trod_struct Tryz.underlying30 h
    rw [c_val] at hl
    obtain ⟨a, b, c, d, rfl⟩ := four hl
    obtain ⟨y0, e0⟩ := at_some (l := xs) (i := 0) (by rw [hn]; decide)
    obtain ⟨y1, e1⟩ := at_some (l := xs) (i := 1) (by rw [hn]; decide)
    obtain ⟨y2, e2⟩ := at_some (l := xs) (i := 2) (by rw [hn]; decide)
    obtain ⟨y3, e3⟩ := at_some (l := xs) (i := 3) (by rw [hn]; decide)
    have h0 : DataW.trod enc Tryz.prog w base spare held n 2 [a] = some y0 := fld hf 0 2 0 1 rfl c_int64 e0
    have h1 : DataW.trod enc Tryz.prog w base spare held n 22 [b] = some y1 := fld hf 1 22 1 1 rfl c_strs e1
    have h2 : DataW.trod enc Tryz.prog w base spare held n 27 [c] = some y2 := fld hf 2 27 2 1 rfl c_vals e2
    have h3 : DataW.trod enc Tryz.prog w base spare held n 28 [d] = some y3 := fld hf 3 28 3 1 rfl c_ents e3
    obtain ⟨p, hp, _, wp⟩ := DataW.trod_int Tryz.underlying2 h0
    obtain ⟨v1, l1, hv1, hs1⟩ := open_strs h1
    obtain ⟨v2, l2, hv2, hs2⟩ := open_sl (R := valRd w) Tryz.underlying27 c_val (by decide) (fun k hk cs x hx => open_val m k cs x (by omega) hx) h2
    obtain ⟨v3, l3, hv3, hs3⟩ := open_sl (R := entryRd w) Tryz.underlying28 c_ent (by decide) (fun _ _ _ _ h => open_entry h) h3
    obtain ⟨rfl⟩ : a = .int .i64 p := by simpa using hp
    obtain ⟨rfl⟩ : b = v1 := by simpa using hv1
    obtain ⟨rfl⟩ : c = v2 := by simpa using hv2
    obtain ⟨rfl⟩ : d = v3 := by simpa using hv3
    exact ⟨.mk p l1 l2 l3, (valRd_iff _ _ _).2 ⟨_, _, _, rfl, i64_lit wp, hs1, hs2, hs3⟩⟩

theorem open_lat : ∀ (m : Nat) (fuel : Nat) (cs : List Value) (x : DataW H × List MemPlace), fuel < m → DataW.trod enc Tryz.prog w base spare held fuel 26 cs = some x → ∃ v, latRd w v cs
  | 0, _, _, _, hm, _ => by omega
  | m + 1, fuel, cs, x, hm, h => by
    obtain ⟨xs, n, hfu, _, hl, hn, hf⟩ := DataW.trod_struct Tryz.underlying26 h
    rw [c_lat] at hl
    obtain ⟨a, b, c, d, e, f, rfl⟩ := six hl
    obtain ⟨y0, e0⟩ := at_some (l := xs) (i := 0) (by rw [hn]; decide)
    obtain ⟨y1, e1⟩ := at_some (l := xs) (i := 1) (by rw [hn]; decide)
    obtain ⟨y2, e2⟩ := at_some (l := xs) (i := 2) (by rw [hn]; decide)
    obtain ⟨y3, e3⟩ := at_some (l := xs) (i := 3) (by rw [hn]; decide)
    obtain ⟨y4, e4⟩ := at_some (l := xs) (i := 4) (by rw [hn]; decide)
    obtain ⟨y5, e5⟩ := at_some (l := xs) (i := 5) (by rw [hn]; decide)
    have h0 : DataW.trod enc Tryz.prog w base spare held n 3 [a] = some y0 := fld hf 0 3 0 1 rfl c_int e0
    have h1 : DataW.trod enc Tryz.prog w base spare held n 2 [b] = some y1 := fld hf 1 2 1 1 rfl c_int64 e1
    have h2 : DataW.trod enc Tryz.prog w base spare held n 2 [c] = some y2 := fld hf 2 2 2 1 rfl c_int64 e2
    have h3 : DataW.trod enc Tryz.prog w base spare held n 22 [d] = some y3 := fld hf 3 22 3 1 rfl c_strs e3
    have h4 : DataW.trod enc Tryz.prog w base spare held n 23 [e] = some y4 := fld hf 4 23 4 1 rfl c_lats e4
    have h5 : DataW.trod enc Tryz.prog w base spare held n 24 [f] = some y5 := fld hf 5 24 5 1 rfl c_rules e5
    obtain ⟨p, hp, _, wp⟩ := DataW.trod_int Tryz.underlying3 h0
    obtain ⟨q, hq, _, wq⟩ := DataW.trod_int Tryz.underlying2 h1
    obtain ⟨r, hr, _, wr⟩ := DataW.trod_int Tryz.underlying2 h2
    obtain ⟨v1, l1, hv1, hs1⟩ := open_strs h3
    obtain ⟨v2, l2, hv2, hs2⟩ := open_sl (R := latRd w) Tryz.underlying23 c_lat (by decide) (fun k hk cs x hx => open_lat m k cs x (by omega) hx) h4
    obtain ⟨v3, l3, hv3, hs3⟩ := open_sl (R := ruleRd w) Tryz.underlying24 c_rule (by decide) (fun _ _ _ _ h => open_rule h) h5
    obtain ⟨rfl⟩ : a = .int .i64 p := by simpa using hp
    obtain ⟨rfl⟩ : b = .int .i64 q := by simpa using hq
    obtain ⟨rfl⟩ : c = .int .i64 r := by simpa using hr
    obtain ⟨rfl⟩ : d = v1 := by simpa using hv1
    obtain ⟨rfl⟩ : e = v2 := by simpa using hv2
    obtain ⟨rfl⟩ : f = v3 := by simpa using hv3
    exact ⟨.mk p q r l1 l2 l3, (latRd_iff _ _ _).2 ⟨_, _, _, rfl, ⟨i64_lit wp, i64_lit wq, i64_lit wr⟩, hs1, hs2, hs3⟩⟩
end

/-- An argument that is a value. -/
theorem arg_val {H : Type} {enc : TypeId × Value → H} {W : World} {v : Value} {d : DataW H} {p : List MemPlace} (hv : ∃ cs, v = .agg cs) (h : DataW.Trod enc Tryz.prog W 0 (fun _ => true) true 30 v d p) :
    ∃ a cs, v = .agg cs.toArray ∧ valRd W a cs := by
  obtain ⟨cs, rfl⟩ := hv
  obtain ⟨fuel, hf⟩ := h
  obtain ⟨a, ha⟩ := open_val _ fuel _ _ (Nat.lt_succ_self _) hf
  exact ⟨a, cs.toList, by simp, ha⟩
theorem arg_lat {H : Type} {enc : TypeId × Value → H} {W : World} {v : Value} {d : DataW H} {p : List MemPlace} (hv : ∃ cs, v = .agg cs) (h : DataW.Trod enc Tryz.prog W 0 (fun _ => true) true 26 v d p) :
    ∃ a cs, v = .agg cs.toArray ∧ latRd W a cs := by
  obtain ⟨cs, rfl⟩ := hv
  obtain ⟨fuel, hf⟩ := h
  obtain ⟨a, ha⟩ := open_lat _ fuel _ _ (Nat.lt_succ_self _) hf
  exact ⟨a, cs.toList, by simp, ha⟩
theorem arg_ent {H : Type} {enc : TypeId × Value → H} {W : World} {v : Value} {d : DataW H} {p : List MemPlace} (hv : ∃ cs, v = .agg cs) (h : DataW.Trod enc Tryz.prog W 0 (fun _ => true) true 43 v d p) :
    ∃ a cs, v = .agg cs.toArray ∧ entryRd W a cs := by
  obtain ⟨cs, rfl⟩ := hv
  obtain ⟨fuel, hf⟩ := h
  obtain ⟨a, ha⟩ := open_entry hf
  exact ⟨a, cs.toList, by simp, ha⟩
theorem arg_str {H : Type} {enc : TypeId × Value → H} {W : World} {v : Value} {d : DataW H} {p : List MemPlace} (h : DataW.Trod enc Tryz.prog W 0 (fun _ => true) true 9 v d p) (hv : ∃ s, v = .string s) :
    ∃ s, v = .string s ∧ s.size ≤ maxLen := by
  obtain ⟨s, rfl⟩ := hv
  obtain ⟨fuel, hf⟩ := h
  obtain ⟨s', h1, _, h2⟩ := DataW.trod_string Tryz.underlying9 hf
  exact ⟨s, rfl, by simp [Value.cells] at h1; subst h1; exact h2⟩
/-- The table, out of what the row lists. -/
theorem tab_of {W : World} {a b : String × DataW Unit} (h : laidMetH Tryz.prog [a, b, ("internal/strconv.uint64pow10", Rows.laid_internal_strconv_uint64pow10)] W) (h1 : a.2.handleName? = none) (h2 : b.2.handleName? = none) : Tab W := by
  have h3 : laidMet Tryz.prog [a, b, ("internal/strconv.uint64pow10", Rows.laid_internal_strconv_uint64pow10)] W := by
    have e3 : (Rows.laid_internal_strconv_uint64pow10 (H := Unit)).handleName? = none := rfl
    unfold laidMetH at h
    simpa [List.filter, h1, h2, e3] using h
  obtain ⟨ps, h4, h5, h6⟩ := h3
  obtain ⟨_, _, _, _, _, q, _, _, _, _, h4, rfl⟩ := h4
  obtain ⟨_, _, _, _, _, q2, _, _, _, _, h4, rfl⟩ := h4
  refine Lib.tabIs_of_head (rest := []) (g := 1) (by kernel_rfl) (by kernel_rfl) Tryz.underlying167 Tryz.underlying105 (by kernel_rfl) (by kernel_rfl) ⟨q2, h4, ?_, fun b off hm => h6 b off (by simp [hm])⟩
  have := (List.nodup_append.1 h5).2.1
  exact (List.nodup_append.1 this).2.1
end Go.Proofs.YtmdjnaobllajmaaGreatDoor

