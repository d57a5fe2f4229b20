/-
  What the statements of the chapter share, part 22: VRow, VK1, VE1, PReg, VE2, VE3.
-/
import Derived.Test.YtmdjnaobllajmaaGreatDoorX05
import Derived.Test.YtmdjnaobllajmaaGreatDoorX19
import Derived.Test.YtmdjnaobllajmaaGreatDoorX21
import Derived.ChangeArms
import Derived.ChangeOld
import Derived.ChangeSlices
import Derived.Lib.LaidTab
set_option linter.unusedVariables false
set_option linter.unusedSimpArgs false
set_option maxRecDepth 100000
set_option maxHeartbeats 8000000
namespace Go.Proofs.YtmdjnaobllajmaaGreatDoor
open Go.RowKit
theorem list_of {α : Type} {P : Nat → α → Prop} : ∀ n, (∀ i, i < n → ∃ a, P i a) → ∃ l : List α, l.length = n ∧ ∀ i (h : i < l.length), P i l[i]
 | 0, _ => ⟨[], rfl, fun i h => by simp at h⟩
 | n + 1, h => by
   obtain ⟨l, hl, hp⟩ := list_of n (fun i hi => h i (by omega))
   obtain ⟨a, ha⟩ := h n (by omega)
   refine ⟨l ++ [a], by simp [hl], fun i hi => ?_⟩
   by_cases h2 : i < l.length
   · rw [List.getElem_append_left h2]; exact hp i h2
   · have h3 : i = l.length := by simp at hi; omega
     subst h3
     simpa [hl] using ha
theorem add_at {a : Addr} (h : a.spot = none) (n : Nat) : a.add n = ⟨a.block, a.off + n, none⟩ := by
 unfold Addr.add
 split
 · rename_i h0; subst h0; cases a; simp_all
 · rfl
theorem spot_of_cell {w : World} {a : Addr} {v : Value} (h : w.cell? a = some v) : a.spot = none := by
 unfold World.cell? at h
 split at h
 · split at h
   · cases h
   · rename_i hs; simpa using hs
 · cases h
theorem i64_lit {n : Int} (h : (Lit.int .i64 n).wf = true) : I64 n := by
 simp [Lit.wf, IntKind.min, IntKind.max, IntKind.signed, IntKind.bits] at h
 unfold I64
 omega
theorem okWide_struct {P : Program} {w : World} {r : Reach} {base : Nat} {t : TypeId} {v : Value} {fs : Array Field} (ht : P.underlying t = some (.struct fs)) (h : Value.okWide P w r base t v) : ∃ cs, v = .agg cs := by
 simp only [Value.okWide, ht] at h
 obtain ⟨cs, h1, _⟩ := h
 exact ⟨cs, h1⟩
section
variable {H : Type} {enc : TypeId × Value → H} {w : World} {base : Nat} {spare : Nat → Bool} {held : Bool} {fuel : Nat} {t : TypeId} {cs : List Value} {x : DataW H × List MemPlace}
theorem open_sl {α : Type} {e : TypeId} {sz : Nat} {R : α → List Value → Prop} (ht : Tryz.prog.underlying t = some (.slice e)) (hc : Tryz.prog.cellsOf e = sz) (h0 : 0 < sz)
 (hR : ∀ n, n < fuel → ∀ cs x, DataW.trod enc Tryz.prog w base spare held n e cs = some x → ∃ a, R a cs) (h : DataW.trod enc Tryz.prog w base spare held fuel t cs = some x) :
 ∃ v l, cs = [v] ∧ SlRd w sz R v l := by
 rcases DataW.trod_slice ht h with ⟨rfl, _⟩ | ⟨a, len, cap, elems, rest, n, hf, rfl, rfl, hb, hl, hm, hlen, hel, _, _⟩
 · exact ⟨_, [], rfl, sl_none _ _ _⟩
 · have each : ∀ i, i < len → ∃ y, ∃ cs', w.cells? base (a.add (i * sz)) sz = some cs' ∧ R y cs' := fun i hi => by
     have h1 := hel i hi
     rw [hc] at h1
     have h2 : i < elems.length := by omega
     rw [List.getElem?_eq_getElem h2, Option.bind_eq_some_iff] at h1
     obtain ⟨cs', h3, h4⟩ := h1
     obtain ⟨y, hy⟩ := hR n (by omega) _ _ h4
     exact ⟨y, cs', h3, hy⟩
   obtain ⟨l, hll, hp⟩ := list_of len each
   subst hll
   refine ⟨_, l, rfl, some a, cap, rfl, ⟨by simp, hl⟩, hm, fun i hi => ?_⟩
   have hs : a.spot = none := by
    obtain ⟨_, cs0, h1, _⟩ := each 0 (by omega)
    have h2 := (World.cells?_some h1).2.2 0 h0
    have h3 : cs0.length = sz := (World.cells?_some h1).2.1
    rw [List.getElem?_eq_getElem (by omega)] at h2
    have := spot_of_cell h2
    simpa [Addr.add] using this
   obtain ⟨cs', h1, h2⟩ := hp i hi
   obtain ⟨_, h3, h4⟩ := World.cells?_some h1
   refine ⟨a.block, a.off, cs', by cases a; simp_all, h3, fun j hj => ?_, h2⟩
   have h5 := h4 j (by omega)
   rw [add_at hs, add_at rfl, List.getElem?_eq_getElem hj] at h5
   exact h5
theorem open_strs (h : DataW.trod enc Tryz.prog w base spare held fuel 22 cs = some x) : ∃ v l, cs = [v] ∧ Strs w v l :=
 open_sl Tryz.underlying22 (by kernel_rfl) (by decide) (fun n _ cs x h => by
   obtain ⟨s, rfl, _, hs⟩ := DataW.trod_string Tryz.underlying9 h
   exact ⟨s, rfl, hs⟩) h
theorem four {cs : List Value} (h : cs.length = 4) : ∃ a b c d, cs = [a, b, c, d] := by
 match cs, h with | [a, b, c, d], _ => exact ⟨a, b, c, d, rfl⟩
theorem two_ {cs : List Value} (h : cs.length = 2) : ∃ a b, cs = [a, b] := by
 match cs, h with | [a, b], _ => exact ⟨a, b, rfl⟩
theorem six {cs : List Value} (h : cs.length = 6) : ∃ a b c d e f, cs = [a, b, c, d, e, f] := by
 match cs, h with | [a, b, c, d, e, f], _ => exact ⟨a, b, c, d, e, f, rfl⟩
theorem at_some {α : Type} {l : List α} {i : Nat} (h : i < l.length) : ∃ y, l[i]? = some y := ⟨_, List.getElem?_eq_getElem h⟩
theorem c_int64 : Tryz.prog.cellsOf 2 = 1 := by kernel_rfl
theorem c_int : Tryz.prog.cellsOf 3 = 1 := by kernel_rfl
theorem c_string : Tryz.prog.cellsOf 9 = 1 := by kernel_rfl
theorem c_strs : Tryz.prog.cellsOf 22 = 1 := by kernel_rfl
theorem c_vals : Tryz.prog.cellsOf 27 = 1 := by kernel_rfl
theorem c_ents : Tryz.prog.cellsOf 28 = 1 := by kernel_rfl
theorem c_ticks : Tryz.prog.cellsOf 41 = 1 := by kernel_rfl
theorem c_lats : Tryz.prog.cellsOf 23 = 1 := by kernel_rfl
theorem c_rules : Tryz.prog.cellsOf 24 = 1 := by kernel_rfl
theorem c_val : Tryz.prog.cellsOf 30 = 4 := by kernel_rfl
theorem c_ent : Tryz.prog.cellsOf 43 = 2 := by kernel_rfl
theorem c_tick : Tryz.prog.cellsOf 99 = 2 := by kernel_rfl
theorem c_lat : Tryz.prog.cellsOf 26 = 6 := by kernel_rfl
theorem c_rule : Tryz.prog.cellsOf 131 = 2 := by kernel_rfl
theorem fld {fs : Array Field} {n : Nat} {xs : List (DataW H × List MemPlace)} (hf : ∀ (i : Nat) (f : Field), fs[i]? = some f → DataW.trod enc Tryz.prog w base spare held n f.type ((cs.drop f.offset).take (Tryz.prog.cellsOf f.type)) = xs[i]?)
 (i ty off k : Nat) {y : DataW H × List MemPlace} (h : (fs[i]?).map (fun f => (f.type, f.offset)) = some (ty, off)) (hc : Tryz.prog.cellsOf ty = k) (hx : xs[i]? = some y) : DataW.trod enc Tryz.prog w base spare held n ty ((cs.drop off).take k) = some y := by
 cases hi : fs[i]? with
 | none => rw [hi] at h; cases h
 | some f =>
   rw [hi] at h
   simp only [Option.map_some, Option.some.injEq, Prod.mk.injEq] at h
   obtain ⟨rfl, rfl⟩ := h
   rw [← hx, ← hf i f hi, hc]
theorem open_tick (h : DataW.trod enc Tryz.prog w base spare held fuel 99 cs = some x) : ∃ a, tickRd a cs := by
 obtain ⟨xs, n, _, _, hl, hn, hf⟩ := DataW.trod_struct Tryz.underlying99 h
 rw [c_tick] at hl
 obtain ⟨a, b, rfl⟩ := two_ hl
 obtain ⟨y0, e0⟩ := at_some (l := xs) (i := 0) (by rw [hn]; decide)
 obtain ⟨y1, e1⟩ := at_some (l := xs) (i := 1) (by rw [hn]; decide)
 have h0 : DataW.trod enc Tryz.prog w base spare held n 3 [a] = some y0 := fld hf 0 3 0 1 rfl c_int e0
 have h1 : DataW.trod enc Tryz.prog w base spare held n 2 [b] = some y1 := fld hf 1 2 1 1 rfl c_int64 e1
 obtain ⟨p, hp, _, wp⟩ := DataW.trod_int Tryz.underlying3 h0
 obtain ⟨q, hq, _, wq⟩ := DataW.trod_int Tryz.underlying2 h1
 obtain ⟨rfl⟩ : a = .int .i64 p := by simpa using hp
 obtain ⟨rfl⟩ : b = .int .i64 q := by simpa using hq
 exact ⟨⟨p, q⟩, rfl, i64_lit wp, i64_lit wq⟩
theorem open_entry (h : DataW.trod enc Tryz.prog w base spare held fuel 43 cs = some x) : ∃ a, entryRd w a cs := by
 obtain ⟨xs, n, _, _, hl, hn, hf⟩ := DataW.trod_struct Tryz.underlying43 h
 rw [c_ent] at hl
 obtain ⟨a, b, rfl⟩ := two_ hl
 obtain ⟨y0, e0⟩ := at_some (l := xs) (i := 0) (by rw [hn]; decide)
 obtain ⟨y1, e1⟩ := at_some (l := xs) (i := 1) (by rw [hn]; decide)
 have h0 : DataW.trod enc Tryz.prog w base spare held n 41 [a] = some y0 := fld hf 0 41 0 1 rfl c_ticks e0
 have h1 : DataW.trod enc Tryz.prog w base spare held n 9 [b] = some y1 := fld hf 1 9 1 1 rfl c_string e1
 obtain ⟨v, l, hv, hs⟩ := open_sl (R := tickRd) Tryz.underlying41 c_tick (by decide) (fun _ _ _ _ h => open_tick h) h0
 obtain ⟨s, hq, _, ws⟩ := DataW.trod_string Tryz.underlying9 h1
 obtain ⟨rfl⟩ : a = v := by simpa using hv
 obtain ⟨rfl⟩ : b = .string s := by simpa using hq
 exact ⟨⟨l, s⟩, _, rfl, hs, ws⟩
theorem open_rule (h : DataW.trod enc Tryz.prog w base spare held fuel 131 cs = some x) : ∃ a, ruleRd w a cs := by
 obtain ⟨xs, n, _, _, hl, hn, hf⟩ := DataW.trod_struct Tryz.underlying131 h
 rw [c_rule] at hl
 obtain ⟨a, b, rfl⟩ := two_ hl
 obtain ⟨y0, e0⟩ := at_some (l := xs) (i := 0) (by rw [hn]; decide)
 obtain ⟨y1, e1⟩ := at_some (l := xs) (i := 1) (by rw [hn]; decide)
 have h0 : DataW.trod enc Tryz.prog w base spare held n 22 [a] = some y0 := fld hf 0 22 0 1 rfl c_strs e0
 have h1 : DataW.trod enc Tryz.prog w base spare held n 9 [b] = some y1 := fld hf 1 9 1 1 rfl c_string e1
 obtain ⟨v, l, hv, hs⟩ := open_strs h0
 obtain ⟨s, hq, _, ws⟩ := DataW.trod_string Tryz.underlying9 h1
 obtain ⟨rfl⟩ : a = v := by simpa using hv
 obtain ⟨rfl⟩ : b = .string s := by simpa using hq
 exact ⟨⟨l, s⟩, _, rfl, hs, ws⟩
theorem open_val : ∀ (m : Nat) (fuel : Nat) (cs : List Value) (x : DataW H × List MemPlace), fuel < m → DataW.trod enc Tryz.prog w base spare held fuel 30 cs = some x → ∃ v, valRd w v cs
 | 0, _, _, _, hm, _ => by omega
 | m + 1, fuel, cs, x, hm, h => by
   obtain ⟨xs, n, hfu, _, hl, hn, hf⟩ := DataW.trod_struct Tryz.underlying30 h
   rw [c_val] at hl
   obtain ⟨a, b, c, d, rfl⟩ := four hl
   obtain ⟨y0, e0⟩ := at_some (l := xs) (i := 0) (by rw [hn]; decide)
   obtain ⟨y1, e1⟩ := at_some (l := xs) (i := 1) (by rw [hn]; decide)
   obtain ⟨y2, e2⟩ := at_some (l := xs) (i := 2) (by rw [hn]; decide)
   obtain ⟨y3, e3⟩ := at_some (l := xs) (i := 3) (by rw [hn]; decide)
   have h0 : DataW.trod enc Tryz.prog w base spare held n 2 [a] = some y0 := fld hf 0 2 0 1 rfl c_int64 e0
   have h1 : DataW.trod enc Tryz.prog w base spare held n 22 [b] = some y1 := fld hf 1 22 1 1 rfl c_strs e1
   have h2 : DataW.trod enc Tryz.prog w base spare held n 27 [c] = some y2 := fld hf 2 27 2 1 rfl c_vals e2
   have h3 : DataW.trod enc Tryz.prog w base spare held n 28 [d] = some y3 := fld hf 3 28 3 1 rfl c_ents e3
   obtain ⟨p, hp, _, wp⟩ := DataW.trod_int Tryz.underlying2 h0
   obtain ⟨v1, l1, hv1, hs1⟩ := open_strs h1
   obtain ⟨v2, l2, hv2, hs2⟩ := open_sl (R := valRd w) Tryz.underlying27 c_val (by decide) (fun k hk cs x hx => open_val m k cs x (by omega) hx) h2
   obtain ⟨v3, l3, hv3, hs3⟩ := open_sl (R := entryRd w) Tryz.underlying28 c_ent (by decide) (fun _ _ _ _ h => open_entry h) h3
   obtain ⟨rfl⟩ : a = .int .i64 p := by simpa using hp
   obtain ⟨rfl⟩ : b = v1 := by simpa using hv1
   obtain ⟨rfl⟩ : c = v2 := by simpa using hv2
   obtain ⟨rfl⟩ : d = v3 := by simpa using hv3
   exact ⟨.mk p l1 l2 l3, (valRd_iff _ _ _).2 ⟨_, _, _, rfl, i64_lit wp, hs1, hs2, hs3⟩⟩
theorem open_lat : ∀ (m : Nat) (fuel : Nat) (cs : List Value) (x : DataW H × List MemPlace), fuel < m → DataW.trod enc Tryz.prog w base spare held fuel 26 cs = some x → ∃ v, latRd w v cs
 | 0, _, _, _, hm, _ => by omega
 | m + 1, fuel, cs, x, hm, h => by
   obtain ⟨xs, n, hfu, _, hl, hn, hf⟩ := DataW.trod_struct Tryz.underlying26 h
   rw [c_lat] at hl
   obtain ⟨a, b, c, d, e, f, rfl⟩ := six hl
   obtain ⟨y0, e0⟩ := at_some (l := xs) (i := 0) (by rw [hn]; decide)
   obtain ⟨y1, e1⟩ := at_some (l := xs) (i := 1) (by rw [hn]; decide)
   obtain ⟨y2, e2⟩ := at_some (l := xs) (i := 2) (by rw [hn]; decide)
   obtain ⟨y3, e3⟩ := at_some (l := xs) (i := 3) (by rw [hn]; decide)
   obtain ⟨y4, e4⟩ := at_some (l := xs) (i := 4) (by rw [hn]; decide)
   obtain ⟨y5, e5⟩ := at_some (l := xs) (i := 5) (by rw [hn]; decide)
   have h0 : DataW.trod enc Tryz.prog w base spare held n 3 [a] = some y0 := fld hf 0 3 0 1 rfl c_int e0
   have h1 : DataW.trod enc Tryz.prog w base spare held n 2 [b] = some y1 := fld hf 1 2 1 1 rfl c_int64 e1
   have h2 : DataW.trod enc Tryz.prog w base spare held n 2 [c] = some y2 := fld hf 2 2 2 1 rfl c_int64 e2
   have h3 : DataW.trod enc Tryz.prog w base spare held n 22 [d] = some y3 := fld hf 3 22 3 1 rfl c_strs e3
   have h4 : DataW.trod enc Tryz.prog w base spare held n 23 [e] = some y4 := fld hf 4 23 4 1 rfl c_lats e4
   have h5 : DataW.trod enc Tryz.prog w base spare held n 24 [f] = some y5 := fld hf 5 24 5 1 rfl c_rules e5
   obtain ⟨p, hp, _, wp⟩ := DataW.trod_int Tryz.underlying3 h0
   obtain ⟨q, hq, _, wq⟩ := DataW.trod_int Tryz.underlying2 h1
   obtain ⟨r, hr, _, wr⟩ := DataW.trod_int Tryz.underlying2 h2
   obtain ⟨v1, l1, hv1, hs1⟩ := open_strs h3
   obtain ⟨v2, l2, hv2, hs2⟩ := open_sl (R := latRd w) Tryz.underlying23 c_lat (by decide) (fun k hk cs x hx => open_lat m k cs x (by omega) hx) h4
   obtain ⟨v3, l3, hv3, hs3⟩ := open_sl (R := ruleRd w) Tryz.underlying24 c_rule (by decide) (fun _ _ _ _ h => open_rule h) h5
   obtain ⟨rfl⟩ : a = .int .i64 p := by simpa using hp
   obtain ⟨rfl⟩ : b = .int .i64 q := by simpa using hq
   obtain ⟨rfl⟩ : c = .int .i64 r := by simpa using hr
   obtain ⟨rfl⟩ : d = v1 := by simpa using hv1
   obtain ⟨rfl⟩ : e = v2 := by simpa using hv2
   obtain ⟨rfl⟩ : f = v3 := by simpa using hv3
   exact ⟨.mk p q r l1 l2 l3, (latRd_iff _ _ _).2 ⟨_, _, _, rfl, ⟨i64_lit wp, i64_lit wq, i64_lit wr⟩, hs1, hs2, hs3⟩⟩
end
theorem arg_val {H : Type} {enc : TypeId × Value → H} {W : World} {v : Value} {d : DataW H} {p : List MemPlace} (hv : ∃ cs, v = .agg cs) (h : DataW.Trod enc Tryz.prog W 0 (fun _ => true) true 30 v d p) :
    ∃ a cs, v = .agg cs.toArray ∧ valRd W a cs := by
  obtain ⟨cs, rfl⟩ := hv
  obtain ⟨fuel, hf⟩ := h
  obtain ⟨a, ha⟩ := open_val _ fuel _ _ (Nat.lt_succ_self _) hf
  exact ⟨a, cs.toList, by simp, ha⟩
theorem arg_lat {H : Type} {enc : TypeId × Value → H} {W : World} {v : Value} {d : DataW H} {p : List MemPlace} (hv : ∃ cs, v = .agg cs) (h : DataW.Trod enc Tryz.prog W 0 (fun _ => true) true 26 v d p) :
    ∃ a cs, v = .agg cs.toArray ∧ latRd W a cs := by
  obtain ⟨cs, rfl⟩ := hv
  obtain ⟨fuel, hf⟩ := h
  obtain ⟨a, ha⟩ := open_lat _ fuel _ _ (Nat.lt_succ_self _) hf
  exact ⟨a, cs.toList, by simp, ha⟩
theorem tab_of {W : World} {a b : String × DataW Unit} (h : laidMetH Tryz.prog [a, b, ("internal/strconv.uint64pow10", Rows.laid_internal_strconv_uint64pow10)] W) (h1 : a.2.handleName? = none) (h2 : b.2.handleName? = none) : Tab W := by
 have h3 : laidMet Tryz.prog [a, b, ("internal/strconv.uint64pow10", Rows.laid_internal_strconv_uint64pow10)] W := by
  have e3 : (Rows.laid_internal_strconv_uint64pow10 (H := Unit)).handleName? = none := rfl
  unfold laidMetH at h
  simpa [List.filter, h1, h2, e3] using h
 obtain ⟨ps, h4, h5, h6⟩ := h3
 obtain ⟨_, _, _, _, _, q, _, _, _, _, h4, rfl⟩ := h4
 obtain ⟨_, _, _, _, _, q2, _, _, _, _, h4, rfl⟩ := h4
 refine Lib.tabIs_of_head (rest := []) (g := 1) (by kernel_rfl) (by kernel_rfl) Tryz.underlying167 Tryz.underlying105 (by kernel_rfl) (by kernel_rfl) ⟨q2, h4, ?_, fun b off hm => h6 b off (by simp [hm])⟩
 have := (List.nodup_append.1 h5).2.1
 exact (List.nodup_append.1 this).2.1
theorem rName_byte (c : Int) : (wordB c = true ∧ (97 ≤ c ∧ c ≤ 122)) ∨ (wordB c = true ∧ c < 97 ∧ 48 ≤ c ∧ c ≤ 57) ∨ (wordB c = true ∧ c = 45) ∨ (wordB c = false ∧ c < 97 ∧ c < 48 ∧ (c != 45) = true) ∨ (wordB c = false ∧ c < 97 ∧ 48 ≤ c ∧ 57 < c ∧ (c != 45) = true) ∨ (wordB c = false ∧ 97 ≤ c ∧ 122 < c ∧ 48 ≤ c ∧ 57 < c ∧ (c != 45) = true) := by
 unfold wordB
 simp only [decide_eq_true_eq, decide_eq_false_iff_not, bne_iff_ne, ne_eq]
 omega
theorem rName_any (s : ByteArray) (w : World) (hs : s.size ≤ maxLen) : Calls Tryz.prog 166 #[.string s] w fun e w' => e = .returned (.bool (nameB s)) ∧ w' = w := by
  unfold maxLen at hs
  have hsz : s.data.toList.length = s.size := rfl
  by_cases h0 : s.size = 0
  · have HB : Hid (nameB s = false) := hid (by unfold nameB; rw [decide_eq_false (show ¬ (1 ≤ s.size ∧ s.size ≤ 16) by omega), Bool.false_and])
    have e0 : (s.size : Int) < 1 := by omega
    clear h0 hsz
    go_enter Tryz.func166, Tryz.ntmps166
    go_wp2
    all_goals first
     | (exfalso; omega)
     | (go_ret; exact ⟨ret_bool HB.out.symm, rfl⟩)
  have e0 : (1 : Int) ≤ (s.size : Int) := by omega
  have hlt : 0 < s.size := by omega
  by_cases h16 : 16 < s.size
  · have HB : Hid (nameB s = false) := hid (by unfold nameB; rw [decide_eq_false (show ¬ (1 ≤ s.size ∧ s.size ≤ 16) by omega), Bool.false_and])
    have e1 : (16 : Int) < (s.size : Int) := by omega
    clear hsz
    go_enter Tryz.func166, Tryz.ntmps166
    go_wp2
    all_goals first
     | (exfalso; omega)
     | (go_ret; exact ⟨ret_bool HB.out.symm, rfl⟩)
  have h16' : (s.size : Int) ≤ 16 := by omega
  have hg : s.data.toList.getD 0 0 = s[0] := by rw [List.getD_eq_getElem?_getD, List.getElem?_eq_getElem (by omega)]; rfl
  by_cases h97 : (s[0].toNat : Int) < 97
  · have HB : Hid (nameB s = false) := hid (by unfold nameB; rw [hg, decide_eq_true (show 1 ≤ s.size ∧ s.size ≤ 16 by omega), decide_eq_false (show ¬ ((97 : Int) ≤ (s[0].toNat : Int) ∧ (s[0].toNat : Int) ≤ 122) by omega)]; rfl)
    clear hsz hg
    go_enter Tryz.func166, Tryz.ntmps166
    go_wp2
    all_goals first
     | (exfalso; omega)
     | (go_ret; exact ⟨ret_bool HB.out.symm, rfl⟩)
  have h97' : (97 : Int) ≤ (s[0].toNat : Int) := by omega
  by_cases h122 : 122 < (s[0].toNat : Int)
  · have HB : Hid (nameB s = false) := hid (by unfold nameB; rw [hg, decide_eq_true (show 1 ≤ s.size ∧ s.size ≤ 16 by omega), decide_eq_false (show ¬ ((97 : Int) ≤ (s[0].toNat : Int) ∧ (s[0].toNat : Int) ≤ 122) by omega)]; rfl)
    clear hsz hg
    go_enter Tryz.func166, Tryz.ntmps166
    go_wp2
    all_goals first
     | (exfalso; omega)
     | (go_ret; exact ⟨ret_bool HB.out.symm, rfl⟩)
  have h122' : (s[0].toNat : Int) ≤ 122 := by omega
  have HB : Hid (nameB s = s.data.toList.all fun c => wordB c.toNat) := hid (by unfold nameB; rw [hg, decide_eq_true (show 1 ≤ s.size ∧ s.size ≤ 16 by omega), decide_eq_true (show (97 : Int) ≤ (s[0].toNat : Int) ∧ (s[0].toNat : Int) ≤ 122 by omega), Bool.true_and, Bool.true_and])
  clear hg hsz h97 h122 h16 h0
  go_enter Tryz.func166, Tryz.ntmps166
  go_wp2
  all_goals try (exfalso; omega)
  clear h97' h122'
  go_loop [3] (fun i => ∃ (k : Nat), k ≤ s.size ∧ i = .int .i64 k ∧ Hid (nameB s = (s.data.toList.drop k).all fun c => wordB c.toNat)) (fun i => s.size - (intOf i).toNat)
  case atStart => exact ⟨0, Nat.zero_le _, rfl, hid (by rw [HB.out, List.drop_zero])⟩
  case round =>
   obtain ⟨k, hk, rfl, He⟩ := hrel
   by_cases hlt : k < s.size
   · have HD : Hid (nameB s = (wordB s[k].toNat && (s.data.toList.drop (k + 1)).all fun c => wordB c.toNat)) := hid (by rw [He.out, nameB_drop s k hlt])
     clear He
     rcases rName_byte (s[k].toNat : Int) with ⟨hc, h1, h2⟩ | ⟨hc, h1, h2, h3⟩ | ⟨hc, h1⟩ | ⟨hc, h1, h2, h3⟩ | ⟨hc, h1, h2, h3, h4⟩ | ⟨hc, h1, h2, h3, h4, h5⟩
     all_goals
      have HC := hid hc
      clear hc
     · go_wp2
       go_round
       case rel => exact ⟨k + 1, by omega, by go_num, hid (by rw [HD.out, HC.out]; rfl)⟩
       case measure => simp [intOf]; omega
     · go_wp2
       go_round
       case rel => exact ⟨k + 1, by omega, by go_num, hid (by rw [HD.out, HC.out]; rfl)⟩
       case measure => simp [intOf]; omega
     · have e1 : (s[k].toNat : Int) < 97 := by omega
       have e2 : (s[k].toNat : Int) < 48 := by omega
       have e3 : ((s[k].toNat : Int) != 45) = false := by rw [h1]; rfl
       clear h1
       go_wp2
       go_round
       case rel => exact ⟨k + 1, by omega, by go_num, hid (by rw [HD.out, HC.out]; rfl)⟩
       case measure => simp [intOf]; omega
     · go_wp2
       all_goals first
        | (exfalso; omega)
        | (go_ret; exact ⟨ret_bool (by rw [HD.out, HC.out]; rfl), rfl⟩)
     · go_wp2
       all_goals first
        | (exfalso; omega)
        | (go_ret; exact ⟨ret_bool (by rw [HD.out, HC.out]; rfl), rfl⟩)
     · go_wp2
       all_goals first
        | (exfalso; omega)
        | (go_ret; exact ⟨ret_bool (by rw [HD.out, HC.out]; rfl), rfl⟩)
   · have HF : Hid (nameB s = true) := hid (by rw [He.out, List.drop_eq_nil_of_le (by have : s.data.toList.length = s.size := rfl; omega)]; rfl)
     go_wp2
     go_ret
     exact ⟨ret_bool HF.out.symm, rfl⟩
theorem strEq_comm (a b : ByteArray) : strEq a b = (b.toList == a.toList) := by
 unfold strEq
 rw [Bool.eq_iff_iff, beq_iff_eq, beq_iff_eq]
 exact eq_comm
theorem hasS_step (l : List ByteArray) (s : ByteArray) (k : Nat) (h : k < l.length) : hasS (l.drop k) s = ((l[k].toList == s.toList) || hasS (l.drop (k + 1)) s) := by
 unfold hasS
 rw [drop_consS l k h, List.any_cons, strEq_comm]
theorem rIn_any (v : Value) (l : List ByteArray) (s : ByteArray) (w : World) (hv : Strs w v l) :
 Calls Tryz.prog 167 #[v, .string s] w fun e w' => e = .returned (.bool (hasS l s)) ∧ w' = w := by
 obtain ⟨ad, cap, rfl, _, hmax⟩ := hv.shape
 have HV := hid hv
 clear hv
 go_enter Tryz.func167, Tryz.ntmps167
 go_wp2
 go_loop [5] (fun i => ∃ (k : Nat), k ≤ l.length ∧ i = .int .i64 k ∧ Hid (hasS l s = hasS (l.drop k) s)) (fun i => l.length - (intOf i).toNat)
 case atStart => exact ⟨0, Nat.zero_le _, rfl, hid rfl⟩
 case round =>
  obtain ⟨k, hk, rfl, He⟩ := hrel
  by_cases hlt : k < l.length
  · obtain ⟨b, o, rfl, hc0, _⟩ := HV.out.cell k hlt
    have HD : Hid (hasS l s = ((l[k].toList == s.toList) || hasS (l.drop (k + 1)) s)) := hid (by rw [He.out, hasS_step l s k hlt])
    have hk1 : (k : Int) < (l.length : Int) := by omega
    clear He
    cases hc : (l[k].toList == s.toList)
    all_goals
     have HC := hid hc
     go_wp2
    · go_round
      case rel => exact ⟨k + 1, by omega, by go_num, hid (by rw [HD.out, HC.out]; rfl)⟩
      case measure => simp [intOf]; omega
    · go_ret
      exact ⟨ret_bool (by rw [HD.out, HC.out]; rfl), rfl⟩
  · have hkl : k = l.length := by omega
    subst hkl
    have HF : Hid (hasS l s = false) := hid (by rw [He.out, List.drop_eq_nil_of_le (Nat.le_refl _)]; rfl)
    go_wp2
    go_ret
    exact ⟨ret_bool HF.out.symm, rfl⟩
def risingB (l : List ByteArray) : Bool := l.all nameB && sortedB l
def risingFrom (l : List ByteArray) (k : Nat) : Bool := (l.drop k).all nameB && (match k with
 | 0 => sortedB l
 | j + 1 => match l[j]? with
   | some p => sortedFrom p (l.drop (j + 1))
   | none => true)
theorem rising_step0 (l : List ByteArray) (h : 0 < l.length) : risingFrom l 0 = (nameB l[0] && risingFrom l 1) := by
 cases l with
 | nil => simp at h
 | cons x t => simp [risingFrom, sortedB, Bool.and_assoc]
theorem rising_step (l : List ByteArray) (j : Nat) (h : j + 1 < l.length) : risingFrom l (j + 1) = (nameB l[j + 1] && (strLt (l[j]'(by omega)) l[j + 1] && risingFrom l (j + 2))) := by
  unfold risingFrom
  simp only [List.getElem?_eq_getElem h, List.getElem?_eq_getElem (show j < l.length by omega)]
  rw [drop_consS l (j + 1) h, List.all_cons, sortedFrom, Bool.eq_iff_iff]
  simp only [Bool.and_eq_true]
  constructor
  · rintro ⟨⟨a, b⟩, c, d⟩; exact ⟨a, c, b, d⟩
  · rintro ⟨a, c, b, d⟩; exact ⟨⟨a, b⟩, c, d⟩
theorem rising_end (l : List ByteArray) (k : Nat) (h : l.length ≤ k) : risingFrom l k = true := by
 unfold risingFrom
 rw [List.drop_eq_nil_of_le h]
 cases k with
 | zero =>
   have : l = [] := List.length_eq_zero_iff.1 (by omega)
   subst this; rfl
 | succ j =>
   show (true && _) = true
   rw [Bool.true_and]
   cases hj : l[j]? with
   | none => simp only [hj]
   | some p => simp only [hj]; rw [List.drop_eq_nil_of_le h]; rfl
theorem rRising_any (v : Value) (l : List ByteArray) (w : World) (hv : Strs w v l) :
 Calls Tryz.prog 168 #[v] w fun e w' => e = .returned (.bool (risingB l)) ∧ ∃ n, w' = w.drewN n := by
 obtain ⟨ad, cap, rfl, _, hmax⟩ := hv.shape
 have HV := hid hv
 clear hv
 go_enter Tryz.func168, Tryz.ntmps168
 go_wp2
 go_loopw [3] (fun i wr => ∃ (k : Nat), k ≤ l.length ∧ i = .int .i64 k ∧ Hid (∃ n, wr = w.drewN n) ∧ Hid (risingB l = risingFrom l k)) (fun i _ => l.length - (intOf i).toNat)
 case atStart => exact ⟨0, Nat.zero_le _, rfl, hid ⟨0, rfl⟩, hid rfl⟩
 case round =>
  obtain ⟨k, hk, rfl, HN, He⟩ := hrel
  by_cases hlt : k < l.length
  · obtain ⟨b, o, rfl, hc0, hsz⟩ := HV.out.cell k hlt
    have hcell : wr.cell? ⟨b, o + k, none⟩ = some (.string l[k]) := by obtain ⟨n, rfl⟩ := HN.out; exact hc0
    have hk1 : (k : Int) < (l.length : Int) := by omega
    have HSZ := hid hsz
    clear hc0 hsz
    cases k with
    | zero =>
      have HD : Hid (risingB l = (nameB l[0] && risingFrom l 1)) := hid (by rw [He.out, rising_step0 l hlt])
      have hcell0 : wr.cell? ⟨b, o, none⟩ = some (.string l[0]) := hcell
      clear He hcell
      have HNM : Hid (∀ W, Calls Tryz.prog 166 #[.string l[0]] W fun e w' => e = .returned (.bool (nameB l[0])) ∧ w' = W) := hid fun W => rName_any _ W HSZ.out
      cases hc : nameB l[0]
      all_goals
       have HC := hid hc
       rw [hc] at HNM
       clear hc
       go_wp2_with fail
       go_quiet (exact (HNM.out _).mono (fun e w' h => ⟨h.1, _, h.2⟩))
       go_wp2
      · go_ret
        exact ⟨ret_bool (by rw [HD.out, HC.out]; rfl), by obtain ⟨n, rfl⟩ := HN.out; exact ⟨n + nq, by rw [World.drewN_drewN]⟩⟩
      · go_roundw
        case rel => exact ⟨1, by omega, rfl, hid (by obtain ⟨n, rfl⟩ := HN.out; exact ⟨n + nq, by rw [World.drewN_drewN]⟩), hid (by rw [HD.out, HC.out]; rfl)⟩
        case measure => simp [intOf]; omega
    | succ j =>
      obtain ⟨b', o', heq, hc1, _⟩ := HV.out.cell j (by omega)
      cases heq
      have hcell1 : wr.cell? ⟨b, o + j, none⟩ = some (.string l[j]) := by obtain ⟨n, rfl⟩ := HN.out; exact hc1
      have HD : Hid (risingB l = (nameB l[j + 1] && (strLt l[j] l[j + 1] && risingFrom l (j + 2)))) := hid (by rw [He.out, rising_step l j hlt])
      clear He hc1
      have HNM : Hid (∀ W, Calls Tryz.prog 166 #[.string l[j + 1]] W fun e w' => e = .returned (.bool (nameB l[j + 1])) ∧ w' = W) := hid fun W => rName_any _ W HSZ.out
      have e1 : wrap64 ((j : Int) + 1 - 1) = (j : Int) := by rw [show (j : Int) + 1 - 1 = j by omega]; exact IntWalk.wrap64_in _ (by omega)
      have e2 : ((j : Int) + 1 - 1) = (j : Int) := by omega
      have hj0 : (0 : Int) ≤ (j : Int) := by omega
      have hj1 : (j : Int) < (l.length : Int) := by omega
      have hj2 : (0 : Int) < (j : Int) + 1 := by omega
      have hj3 : ((j : Int) + 1).toNat = j + 1 := by omega
      have hj4 : ((j + 1 : Nat) : Int) = (j : Int) + 1 := by omega
      cases hc : nameB l[j + 1]
      · have HC := hid hc
        rw [hc] at HNM
        clear hc
        go_wp2_with fail
        go_quiet (exact (HNM.out _).mono (fun e w' h => ⟨h.1, _, h.2⟩))
        go_wp2
        go_ret
        exact ⟨ret_bool (by rw [HD.out, HC.out]; rfl), by obtain ⟨n, rfl⟩ := HN.out; exact ⟨n + nq, by rw [World.drewN_drewN]⟩⟩
      · have HC := hid hc
        rw [hc] at HNM
        clear hc
        cases hs : strLt l[j] l[j + 1]
        all_goals
         have HS := hid hs
         have hb : Op.bytesLess l[j].toList l[j + 1].toList = _ := hs
         clear hs
         go_wp2_with fail
         go_quiet (exact (HNM.out _).mono (fun e w' h => ⟨h.1, _, h.2⟩))
         go_wp2
        · go_ret
          exact ⟨ret_bool (by rw [HD.out, HC.out, HS.out]; rfl), by obtain ⟨n, rfl⟩ := HN.out; exact ⟨n + nq, by rw [World.drewN_drewN]⟩⟩
        · go_roundw
          case rel => exact ⟨j + 2, by omega, by go_num, hid (by obtain ⟨n, rfl⟩ := HN.out; exact ⟨n + nq, by rw [World.drewN_drewN]⟩), hid (by rw [HD.out, HC.out, HS.out]; rfl)⟩
          case measure => simp [intOf]; omega
  · have hkl : k = l.length := by omega
    subst hkl
    have HF : Hid (risingB l = true) := hid (by rw [He.out, rising_end l _ (Nat.le_refl _)])
    clear hlt hk
    go_wp2
    go_ret
    exact ⟨ret_bool HF.out.symm, HN.out⟩
theorem letter_any (c : Int) (w : World) : Calls Tryz.prog 154 #[.int .u8 c] w fun e w' => e = .returned (.bool (wordB c)) ∧ w' = w := by
  rcases rName_byte c with ⟨hc, h1, h2⟩ | ⟨hc, h1, h2, h3⟩ | ⟨hc, h1⟩ | ⟨hc, h1, h2, h3⟩ | ⟨hc, h1, h2, h3, h4⟩ | ⟨hc, h1, h2, h3, h4, h5⟩
  all_goals
   have HC := hid hc
   clear hc
  case inr.inr.inl =>
   have e1 : c < 97 := by omega
   have e2 : c < 48 := by omega
   have e3 : (c == 45) = true := by rw [h1]; rfl
   clear h1
   go_enter Tryz.func154, Tryz.ntmps154
   go_wp2
   all_goals first
    | (exfalso; omega)
    | (go_ret; exact ⟨ret_bool HC.out.symm, rfl⟩)
  case inl =>
   go_enter Tryz.func154, Tryz.ntmps154
   go_wp2
   all_goals first
    | (exfalso; omega)
    | (go_ret; exact ⟨ret_bool HC.out.symm, rfl⟩)
  case inr.inl =>
   go_enter Tryz.func154, Tryz.ntmps154
   go_wp2
   all_goals first
    | (exfalso; omega)
    | (go_ret; exact ⟨ret_bool HC.out.symm, rfl⟩)
  all_goals
   have e3 : (c == 45) = false := by rw [beq_eq_false_iff_ne]; simpa using (show (c != 45) = true by assumption)
   go_enter Tryz.func154, Tryz.ntmps154
   go_wp2
   all_goals first
    | (exfalso; omega)
    | (go_ret; exact ⟨ret_bool HC.out.symm, rfl⟩)
theorem rNameValid_any (s : ByteArray) (w : World) (hs : s.size ≤ maxLen) : Calls Tryz.prog 119 #[.string s] w fun e w' => e = .returned (.bool (nameB s)) ∧ w' = w := by
  unfold maxLen at hs
  have hsz : s.data.toList.length = s.size := rfl
  by_cases h0 : s.size = 0
  · have HB : Hid (nameB s = false) := hid (by unfold nameB; rw [decide_eq_false (show ¬ (1 ≤ s.size ∧ s.size ≤ 16) by omega), Bool.false_and])
    have e0 : (s.size : Int) < 1 := by omega
    clear h0 hsz
    go_enter Tryz.func119, Tryz.ntmps119
    go_wp2
    all_goals first
     | (exfalso; omega)
     | (go_ret; exact ⟨ret_bool HB.out.symm, rfl⟩)
  have e0 : (1 : Int) ≤ (s.size : Int) := by omega
  have hlt : 0 < s.size := by omega
  by_cases h16 : 16 < s.size
  · have HB : Hid (nameB s = false) := hid (by unfold nameB; rw [decide_eq_false (show ¬ (1 ≤ s.size ∧ s.size ≤ 16) by omega), Bool.false_and])
    have e1 : (16 : Int) < (s.size : Int) := by omega
    clear hsz
    go_enter Tryz.func119, Tryz.ntmps119
    go_wp2
    all_goals first
     | (exfalso; omega)
     | (go_ret; exact ⟨ret_bool HB.out.symm, rfl⟩)
  have h16' : (s.size : Int) ≤ 16 := by omega
  have hg : s.data.toList.getD 0 0 = s[0] := by rw [List.getD_eq_getElem?_getD, List.getElem?_eq_getElem (by omega)]; rfl
  by_cases h97 : (s[0].toNat : Int) < 97
  · have HB : Hid (nameB s = false) := hid (by unfold nameB; rw [hg, decide_eq_true (show 1 ≤ s.size ∧ s.size ≤ 16 by omega), decide_eq_false (show ¬ ((97 : Int) ≤ (s[0].toNat : Int) ∧ (s[0].toNat : Int) ≤ 122) by omega)]; rfl)
    clear hsz hg
    go_enter Tryz.func119, Tryz.ntmps119
    go_wp2
    all_goals first
     | (exfalso; omega)
     | (go_ret; exact ⟨ret_bool HB.out.symm, rfl⟩)
  have h97' : (97 : Int) ≤ (s[0].toNat : Int) := by omega
  by_cases h122 : 122 < (s[0].toNat : Int)
  · have HB : Hid (nameB s = false) := hid (by unfold nameB; rw [hg, decide_eq_true (show 1 ≤ s.size ∧ s.size ≤ 16 by omega), decide_eq_false (show ¬ ((97 : Int) ≤ (s[0].toNat : Int) ∧ (s[0].toNat : Int) ≤ 122) by omega)]; rfl)
    clear hsz hg
    go_enter Tryz.func119, Tryz.ntmps119
    go_wp2
    all_goals first
     | (exfalso; omega)
     | (go_ret; exact ⟨ret_bool HB.out.symm, rfl⟩)
  have h122' : (s[0].toNat : Int) ≤ 122 := by omega
  have HB : Hid (nameB s = s.data.toList.all fun c => wordB c.toNat) := hid (by unfold nameB; rw [hg, decide_eq_true (show 1 ≤ s.size ∧ s.size ≤ 16 by omega), decide_eq_true (show (97 : Int) ≤ (s[0].toNat : Int) ∧ (s[0].toNat : Int) ≤ 122 by omega), Bool.true_and, Bool.true_and])
  clear hg hsz h97 h122 h16 h0
  go_enter Tryz.func119, Tryz.ntmps119
  go_wp2
  all_goals try (exfalso; omega)
  clear h97' h122'
  go_loop [3] (fun i => ∃ (k : Nat), k ≤ s.size ∧ i = .int .i64 k ∧ Hid (nameB s = (s.data.toList.drop k).all fun c => wordB c.toNat)) (fun i => s.size - (intOf i).toNat)
  case atStart => exact ⟨0, Nat.zero_le _, rfl, hid (by rw [HB.out, List.drop_zero])⟩
  case round =>
   obtain ⟨k, hk, rfl, He⟩ := hrel
   by_cases hlt : k < s.size
   · have HD : Hid (nameB s = (wordB s[k].toNat && (s.data.toList.drop (k + 1)).all fun c => wordB c.toNat)) := hid (by rw [He.out, nameB_drop s k hlt])
     cases hc : wordB s[k].toNat
     all_goals
      have HC := hid hc
      clear hc
      go_wp2_with fail
      refine (letter_any _ _).mono ?_
      rintro e w' ⟨rfl, rfl⟩
      rw [HC.out]
     · go_wp2
       go_ret
       exact ⟨ret_bool (by rw [HD.out, HC.out]; rfl), rfl⟩
     · go_wp2
       go_round
       case rel => exact ⟨k + 1, by omega, by go_num, hid (by rw [HD.out, HC.out]; rfl)⟩
       case measure => simp [intOf]; omega
   · have HF : Hid (nameB s = true) := hid (by rw [He.out, List.drop_eq_nil_of_le (by have : s.data.toList.length = s.size := rfl; omega)]; rfl)
     go_wp2
     go_ret
     exact ⟨ret_bool HF.out.symm, rfl⟩
theorem rSorted_any (v : Value) (l : List ByteArray) (w : World) (hv : Strs w v l) :
 Calls Tryz.prog 121 #[v] w fun e w' => e = .returned (.bool (sortedB l)) ∧ ∃ n, w' = w.drewN n := by
 obtain ⟨ad, cap, rfl, _, hmax⟩ := hv.shape
 have HV := hid hv
 clear hv
 by_cases h0 : l.length = 0
 · have HB : Hid (sortedB l = true) := hid (by rw [List.eq_nil_of_length_eq_zero h0]; rfl)
   have h0' : l.length ≤ 0 := by omega
   have Hl := hid h0
   clear h0
   go_enter Tryz.func121, Tryz.ntmps121
   go_wp2
   refine wp_loop_rounds 1 ?_
   rw [rounds_succ]
   go_wp2
   go_ret
   exact ⟨ret_bool HB.out.symm, 0, rfl⟩
 go_enter Tryz.func121, Tryz.ntmps121
 go_wp2
 go_loopw [3] (fun i wr => ∃ (k : Nat), k < l.length ∧ i = .int .i64 ((k : Int) + 1) ∧ Hid ((∃ n, wr = w.drewN n) ∧ ∀ h : k < l.length, sortedB l = sortedFrom l[k] (l.drop (k + 1)))) (fun i _ => l.length + 1 - (intOf i).toNat)
 case atStart => exact ⟨0, by omega, rfl, hid ⟨⟨0, rfl⟩, fun h => by cases l <;> first | rfl | simp at h⟩⟩
 case round =>
  obtain ⟨k, hk, rfl, HR⟩ := hrel
  by_cases hlt : k + 1 < l.length
  · obtain ⟨b, o, rfl, hc0, _⟩ := HV.out.cell k hk
    obtain ⟨b', o', heq, hc1, _⟩ := HV.out.cell (k + 1) hlt
    cases heq
    have hcell : wr.cell? ⟨b, o + k, none⟩ = some (.string l[k]) := by obtain ⟨⟨n, rfl⟩, _⟩ := HR.out; exact hc0
    have hcell1 : wr.cell? ⟨b, o + (k + 1), none⟩ = some (.string l[k + 1]) := by obtain ⟨⟨n, rfl⟩, _⟩ := HR.out; exact hc1
    have HS : Hid (sortedB l = (strLt l[k] l[k + 1] && sortedFrom l[k + 1] (l.drop (k + 2)))) := hid (by rw [HR.out.2 hk, sorted_step l k hlt])
    have hw1 : IntKind.i64.wrap ((k : Int) + 1 - 1) = (k : Int) := by rw [show (k : Int) + 1 - 1 = k by omega]; exact IntWalk.i64_in _ (by omega)
    have e1 : ((k : Int) + 1 - 1) = (k : Int) := by omega
    have hk0 : (0 : Int) ≤ (k : Int) := by omega
    have hk1 : (k : Int) < (l.length : Int) := by omega
    have hk2 : (k : Int) + 1 < (l.length : Int) := by omega
    have hk3 : ((k : Int) + 1).toNat = k + 1 := by omega
    clear hc0 hc1
    cases hc : strLt l[k] l[k + 1]
    all_goals
     have HC := hid hc
     have hb : Op.bytesLess l[k].toList l[k + 1].toList = _ := hc
     clear hc
     go_wp2
     go_quiet (fail)
     go_wp2
    · go_ret
      exact ⟨ret_bool (by rw [HS.out, HC.out]; rfl), by obtain ⟨⟨n, rfl⟩, _⟩ := HR.out; exact ⟨n + nq, by rw [World.drewN_drewN]⟩⟩
    · go_roundw
      case rel => exact ⟨k + 1, hlt, by go_num, hid ⟨by obtain ⟨⟨n, rfl⟩, _⟩ := HR.out; exact ⟨n + nq, by rw [World.drewN_drewN]⟩, fun h => by rw [HS.out, HC.out]; rfl⟩⟩
      case measure => simp [intOf]; omega
  · have HB : Hid (sortedB l = true) := hid (by rw [HR.out.2 hk, List.drop_eq_nil_of_le (by omega)]; rfl)
    go_wp2
    go_ret
    exact ⟨ret_bool HB.out.symm, HR.out.1⟩
theorem rHas_any (v : Value) (l : List ByteArray) (s : ByteArray) (w : World) (hv : Strs w v l) :
 Calls Tryz.prog 120 #[v, .string s] w fun e w' => e = .returned (.bool (hasS l s)) ∧ w' = w := by
 obtain ⟨ad, cap, rfl, _, hmax⟩ := hv.shape
 have HV := hid hv
 clear hv
 go_enter Tryz.func120, Tryz.ntmps120
 go_wp2
 go_loop [5] (fun i => ∃ (k : Nat), k ≤ l.length ∧ i = .int .i64 k ∧ Hid (hasS l s = hasS (l.drop k) s)) (fun i => l.length - (intOf i).toNat)
 case atStart => exact ⟨0, Nat.zero_le _, rfl, hid rfl⟩
 case round =>
  obtain ⟨k, hk, rfl, He⟩ := hrel
  by_cases hlt : k < l.length
  · obtain ⟨b, o, rfl, hc0, _⟩ := HV.out.cell k hlt
    have HD : Hid (hasS l s = ((l[k].toList == s.toList) || hasS (l.drop (k + 1)) s)) := hid (by rw [He.out, hasS_step l s k hlt])
    have hk1 : (k : Int) < (l.length : Int) := by omega
    clear He
    cases hc : (l[k].toList == s.toList)
    all_goals
     have HC := hid hc
     go_wp2
    · go_round
      case rel => exact ⟨k + 1, by omega, by go_num, hid (by rw [HD.out, HC.out]; rfl)⟩
      case measure => simp [intOf]; omega
    · go_ret
      exact ⟨ret_bool (by rw [HD.out, HC.out]; rfl), rfl⟩
  · have hkl : k = l.length := by omega
    subst hkl
    have HF : Hid (hasS l s = false) := hid (by rw [He.out, List.drop_eq_nil_of_le (Nat.le_refl _)]; rfl)
    go_wp2
    go_ret
    exact ⟨ret_bool HF.out.symm, rfl⟩
def getT : List Tk → Int → Int
 | [], _ => 0
 | t :: r, p => if t.process = p then t.n else getT r p
theorem getT_cons (t : Tk) (r : List Tk) (p : Int) : getT (t :: r) p = if t.process = p then t.n else getT r p := rfl
def rgetT (c : List Tk) (p : Int) : Int := if clockB c then getT c p else 0
def allT (c : List Tk) : List Int := (List.range 64).map fun p : Nat => rgetT c p
def leqT (a b : List Tk) : Bool := (List.range 64).all fun p : Nat => decide (rgetT a p ≤ rgetT b p)
def belowT (a b : List Tk) : Bool := clockB a && (clockB b && (leqT a b && !leqT b a))
theorem tickB_iff {last : Int} {t : Tk} : tickB last t = true ↔ last < t.process ∧ t.process ≤ 63 ∧ 1 ≤ t.n ∧ t.n ≤ 1000000000000000 := by unfold tickB; rw [decide_eq_true_eq]
theorem clockFrom_cons {last : Int} {t : Tk} {r : List Tk} : clockFrom last (t :: r) = true ↔ (last < t.process ∧ t.process ≤ 63 ∧ 1 ≤ t.n ∧ t.n ≤ 1000000000000000) ∧ clockFrom t.process r = true := by
 rw [clockFrom, Bool.and_eq_true, tickB_iff]
theorem getT_out : ∀ {c : List Tk} {last p : Int}, clockFrom last c = true → p ≤ last → getT c p = 0
 | [], _, _, _, _ => rfl
 | t :: r, last, p, h, hp => by
   rw [clockFrom_cons] at h
   rw [getT, if_neg (by omega)]
   exact getT_out h.2 (by omega)
theorem getT_pos : ∀ {c : List Tk} {last : Int} (p : Int), clockFrom last c = true → 0 ≤ getT c p
 | [], _, _, _ => Int.le_refl _
 | t :: r, last, p, h => by
   rw [clockFrom_cons] at h
   rw [getT]
   split
   · omega
   · exact getT_pos p h.2
theorem emitT_nil {p k : Int} {r : List Tk} : emitT p k r = [] ↔ k ≤ 0 ∧ r = [] := by
 unfold emitT
 by_cases h : 0 < k
 · rw [if_pos h]
   exact ⟨fun h' => absurd h' (by simp), fun h' => absurd h'.1 (by omega)⟩
 · rw [if_neg h]
   exact ⟨fun h' => ⟨by omega, h'⟩, fun h' => h'.2⟩
theorem minusCh_le {m n : Int} (hn : 0 ≤ n) : minusCh m n ≤ 0 ↔ m ≤ n := by
 unfold minusCh
 split <;> omega
theorem walk_le (k : Nat) : ∀ (a b : List Tk) (lo : Int), a.length + b.length ≤ k → clockFrom lo a = true → clockFrom lo b = true → (walkT minusCh a b = [] ↔ ∀ p, getT a p ≤ getT b p) := by
 induction k with
 | zero =>
   intro a b lo hk ha hb
   obtain rfl : a = [] := List.length_eq_zero_iff.1 (by omega)
   obtain rfl : b = [] := List.length_eq_zero_iff.1 (by omega)
   rw [walkT]
   exact ⟨fun _ _ => Int.le_refl _, fun _ => rfl⟩
 | succ k ih =>
   intro a b lo hk ha hb
   match a, b, ha, hb with
   | [], [], _, _ =>
     rw [walkT]
     exact ⟨fun _ _ => Int.le_refl _, fun _ => rfl⟩
   | x :: a, [], ha, hb =>
     rw [clockFrom_cons] at ha
     rw [walkT, emitT_nil, minusCh_le (Int.le_refl _)]
     constructor
     · intro h; omega
     · intro h
       have := h x.process
       rw [getT_cons, if_pos rfl] at this
       have h0 : getT [] x.process = 0 := rfl
       omega
   | [], y :: b, ha, hb =>
     have hb' := hb
     rw [clockFrom_cons] at hb
     rw [walkT, emitT_nil, minusCh_le (by omega)]
     constructor
     · intro _ p
       exact getT_pos p hb'
     · intro _
       refine ⟨by omega, (ih [] b y.process (by simp at hk ⊢; omega) rfl hb.2).2 fun p => getT_pos p hb.2⟩
   | x :: a, y :: b, ha, hb =>
     have ha' := ha
     have hb' := hb
     rw [clockFrom_cons] at ha hb
     rw [walkT]
     by_cases h1 : x.process < y.process
     · rw [if_pos h1, emitT_nil, minusCh_le (Int.le_refl _)]
       constructor
       · intro h; omega
       · intro h
         have := h x.process
         have hg : getT (y :: b) x.process = 0 := getT_out (last := x.process) (by rw [clockFrom_cons]; exact ⟨⟨h1, hb.1.2⟩, hb.2⟩) (Int.le_refl _)
         rw [getT_cons, if_pos rfl, hg] at this
         omega
     · rw [if_neg h1]
       by_cases h2 : y.process < x.process
       · rw [if_pos h2, emitT_nil, minusCh_le (by omega)]
         have hx : clockFrom y.process (x :: a) = true := by rw [clockFrom_cons]; exact ⟨⟨h2, ha.1.2⟩, ha.2⟩
         rw [ih (x :: a) b y.process (by simp at hk ⊢; omega) hx hb.2]
         constructor
         · rintro ⟨_, h⟩ p
           rw [getT_cons y b]
           by_cases hp : y.process = p
           · rw [if_pos hp, getT_out hx (by omega)]; omega
           · rw [if_neg hp]; exact h p
         · intro h
           refine ⟨by omega, fun p => ?_⟩
           have := h p
           rw [getT_cons y b] at this
           by_cases hp : y.process = p
           · rw [getT_out hx (by omega)]; exact getT_pos p hb.2
           · rw [if_neg hp] at this; exact this
       · rw [if_neg h2, emitT_nil, minusCh_le (by omega)]
         have hxy : x.process = y.process := by omega
         rw [ih a b y.process (by simp at hk ⊢; omega) (by rw [← hxy]; exact ha.2) hb.2]
         constructor
         · rintro ⟨h0, h⟩ p
           rw [getT_cons y b, getT_cons x a, hxy]
           by_cases hp : y.process = p
           · rw [if_pos hp, if_pos hp]; exact h0
           · rw [if_neg hp, if_neg hp]; exact h p
         · intro h
           have h3 := h y.process
           rw [getT_cons y b, getT_cons x a, hxy, if_pos rfl, if_pos rfl] at h3
           refine ⟨h3, fun p => ?_⟩
           by_cases hp : p ≤ y.process
           · rw [getT_out (by rw [← hxy]; exact ha.2) hp]
             exact getT_pos p hb.2
           · have := h p
             rw [getT_cons y b, getT_cons x a, hxy, if_neg (by omega), if_neg (by omega)] at this
             exact this
theorem getT_far : ∀ {c : List Tk} {last p : Int}, clockFrom last c = true → 63 < p → getT c p = 0
 | [], _, _, _, _ => rfl
 | t :: r, last, p, h, hp => by
   rw [clockFrom_cons] at h
   rw [getT, if_neg (by omega)]
   exact getT_far h.2 hp
theorem leq_minus {a b : List Tk} (ha : clockB a = true) (hb : clockB b = true) : leqT a b = true ↔ minusT a b = [] := by
 unfold minusT
 rw [walk_le _ a b (-1) (Nat.le_refl _) ha hb]
 unfold leqT rgetT
 rw [List.all_eq_true]
 constructor
 · intro h p
   by_cases h1 : p ≤ -1
   · rw [getT_out ha h1]; exact getT_pos p hb
   · by_cases h2 : 63 < p
     · rw [getT_far ha h2]; exact getT_pos p hb
     · have := h p.toNat (by rw [List.mem_range]; omega)
       rw [decide_eq_true_eq, if_pos ha, if_pos hb, show ((p.toNat : Nat) : Int) = p by omega] at this
       exact this
 · intro h p _
   rw [decide_eq_true_eq, if_pos ha, if_pos hb]
   exact h p
theorem clockC_below {a b : List Tk} (ha : clockB a = true) (hb : clockB b = true) : (clockC a b == 1) = belowT a b ∧ (clockC a b == 2) = belowT b a := by
 unfold clockC belowT
 rw [ha, hb, if_neg (by simp)]
 have e1 : leqT a b = decide ((minusT a b).length = 0) := by
  rw [Bool.eq_iff_iff, leq_minus ha hb, decide_eq_true_eq, List.length_eq_zero_iff]
 have e2 : leqT b a = decide ((minusT b a).length = 0) := by
  rw [Bool.eq_iff_iff, leq_minus hb ha, decide_eq_true_eq, List.length_eq_zero_iff]
 rw [e1, e2]
 by_cases h1 : (minusT a b).length = 0 <;> by_cases h2 : (minusT b a).length = 0 <;> simp [h1, h2]
def rentB (list : List En) (i : Nat) (e : En) : Bool :=
 (decide (e.clock.length ≠ 0) && (clockB e.clock && nameB e.name)) && ((match i with
  | 0 => true
  | j + 1 => match list[j]? with
    | some p => decide (entC p e < 0)
    | none => true) && list.all fun f => !belowT e.clock f.clock)
def rentGo (list : List En) : Nat → List En → Bool
 | _, [] => true
 | i, e :: t => rentB list i e && rentGo list (i + 1) t
def rentsB (list : List En) : Bool := rentGo list 0 list
theorem rentGo_iff (list : List En) : ∀ (k : Nat) (t : List En), rentGo list k t = true ↔ ∀ i (h : i < t.length), rentB list (k + i) t[i] = true
 | _, [] => ⟨fun _ i h => by simp at h, fun _ => rfl⟩
 | k, e :: t => by
   rw [rentGo, Bool.and_eq_true, rentGo_iff list (k + 1) t]
   constructor
   · rintro ⟨h1, h2⟩ i hi
     cases i with
     | zero => exact h1
     | succ i =>
       have := h2 i (by simp at hi; omega)
       rw [show k + 1 + i = k + (i + 1) by omega] at this
       exact this
   · intro h
     refine ⟨h 0 (by simp), fun i hi => ?_⟩
     have := h (i + 1) (by simp; omega)
     rw [show k + 1 + i = k + (i + 1) by omega]
     exact this
theorem regGo_iff (list : List En) : ∀ (k : Nat) (t : List En), regGo list k t = true ↔ ∀ i (h : i < t.length), entryB list (k + i) t[i] = true
 | _, [] => ⟨fun _ i h => by simp at h, fun _ => rfl⟩
 | k, e :: t => by
   rw [regGo, Bool.and_eq_true, regGo_iff list (k + 1) t]
   constructor
   · rintro ⟨h1, h2⟩ i hi
     cases i with
     | zero => exact h1
     | succ i =>
       have := h2 i (by simp at hi; omega)
       rw [show k + 1 + i = k + (i + 1) by omega] at this
       exact this
   · intro h
     refine ⟨h 0 (by simp), fun i hi => ?_⟩
     have := h (i + 1) (by simp; omega)
     rw [show k + 1 + i = k + (i + 1) by omega]
     exact this
theorem belowT_self (a : List Tk) : belowT a a = false := by
 unfold belowT
 cases leqT a a <;> cases clockB a <;> rfl
theorem rents_reg (list : List En) : rentsB list = regB list := by
 rw [Bool.eq_iff_iff]
 unfold rentsB regB
 rw [rentGo_iff, regGo_iff]
 simp only [Nat.zero_add]
 constructor
 · intro h i hi
   have hc : ∀ k (hk : k < list.length), clockB list[k].clock = true := fun k hk => by
     have := h k hk
     unfold rentB at this
     simp only [Bool.and_eq_true] at this
     exact this.1.2.1
   have h1 := h i hi
   unfold rentB at h1
   unfold entryB
   simp only [Bool.and_eq_true] at h1 ⊢
   obtain ⟨⟨a, b, c⟩, d, e⟩ := h1
   refine ⟨⟨⟨⟨a, b⟩, c⟩, ?_⟩, ?_⟩
   · cases i with
     | zero =>
       cases list[0 - 1]? <;> simp
     | succ j =>
       rw [show j + 1 - 1 = j by omega]
       simp only at d
       revert d
       cases hq : list[j]? <;> simp [hq]
   · rw [List.all_eq_true] at e ⊢
     intro f hf
     obtain ⟨k, hk, rfl⟩ := List.getElem_of_mem hf
     rw [List.length_take] at hk
     rw [List.getElem_take]
     obtain ⟨q1, q2⟩ := clockC_below (hc i hi) (hc k (by omega))
     have w1 := e _ (List.getElem_mem (show k < list.length by omega))
     have h2 := h k (by omega)
     unfold rentB at h2
     simp only [Bool.and_eq_true] at h2
     have w2 := List.all_eq_true.1 h2.2.2 _ (List.getElem_mem hi)
     rw [q1, q2]
     revert w1 w2
     cases belowT list[i].clock list[k].clock <;> cases belowT list[k].clock list[i].clock <;> simp
 · intro h i hi
   have hc : ∀ k (hk : k < list.length), clockB list[k].clock = true := fun k hk => by
     have := h k hk
     unfold entryB at this
     simp only [Bool.and_eq_true] at this
     exact this.1.1.1.2
   have h1 := h i hi
   unfold entryB at h1
   unfold rentB
   simp only [Bool.and_eq_true] at h1 ⊢
   obtain ⟨⟨⟨⟨a, b⟩, c⟩, d⟩, e⟩ := h1
   refine ⟨⟨a, b, c⟩, ?_, ?_⟩
   · cases i with
     | zero => rfl
     | succ j =>
       rw [show j + 1 - 1 = j by omega] at d
       revert d
       cases hq : list[j]? <;> simp [hq]
   · rw [List.all_eq_true]
     intro f hf
     obtain ⟨k, hk, rfl⟩ := List.getElem_of_mem hf
     have key : ∀ i k (hi : i < list.length) (hk : k < list.length), k < i → (clockC list[i].clock list[k].clock == 1) = false ∧ (clockC list[i].clock list[k].clock == 2) = false := fun i k hi hk hlt => by
       have h2 := h i hi
       unfold entryB at h2
       simp only [Bool.and_eq_true] at h2
       have := List.all_eq_true.1 h2.2 list[k] (by
        rw [List.mem_iff_getElem]
        exact ⟨k, by rw [List.length_take]; omega, by rw [List.getElem_take]⟩)
       revert this
       cases (clockC list[i].clock list[k].clock == 1) <;> cases (clockC list[i].clock list[k].clock == 2) <;> simp
     rcases Nat.lt_trichotomy k i with hlt | rfl | hlt
     · rw [← (clockC_below (hc i hi) (hc k hk)).1, (key i k hi hk hlt).1]; rfl
     · rw [belowT_self]; rfl
     · rw [← (clockC_below (hc k hk) (hc i hi)).2, (key k i hk hi hlt).2]; rfl
def prevT (c : List Tk) : Nat → Int
 | 0 => -1
 | j + 1 => match c[j]? with
   | some t => t.process
   | none => -1
theorem tick_step {c : List Tk} {j : Nat} {s : Tk} (h : c.drop j = s :: c.drop (j + 1)) : clockFrom (prevT c j) (c.drop j) = (tickB (prevT c j) s && clockFrom s.process (c.drop (j + 1))) := by
 rw [h, clockFrom]
theorem prevT_succ {c : List Tk} {j : Nat} {s : Tk} (h : c[j]? = some s) : prevT c (j + 1) = s.process := by
 show (match c[j]? with | some t => t.process | none => -1) = _
 rw [h]
theorem tickB_no {last : Int} {s : Tk} (h : s.process ≤ last ∨ 63 < s.process ∨ s.n < 1 ∨ 1000000000000000 < s.n) : tickB last s = false := by
 unfold tickB
 exact decide_eq_false (by omega)
theorem rClock_any (v : Value) (c : List Tk) (w : World) (hv : SlRd w 2 tickRd v c) :
 Calls Tryz.prog 122 #[v] w fun e w' => e = .returned (.bool (clockB c)) ∧ Below w.heap.size w w' := by
 obtain ⟨ac, cc, rfl, _, hmc⟩ := hv.shape
 have HC := hid hv
 have HE : Hid (clockB c = clockFrom (prevT c 0) (c.drop 0)) := hid rfl
 generalize clockB c = R at HE ⊢
 clear hv
 go_enter Tryz.func122, Tryz.ntmps122
 go_wp2_with fail
 go_loopw [3] (fun i wr => ∃ (j : Nat) (x : Ext w), j ≤ c.length ∧ i = .int .i64 j ∧ wr = x.1 ∧ Hid (-1 ≤ prevT c j) ∧ Hid (R = clockFrom (prevT c j) (c.drop j))) (fun i _ => c.length - (intOf i).toNat)
 case atStart => exact ⟨0, ⟨w, Below.refl _ _⟩, Nat.zero_le _, rfl, rfl, hid (Int.le_refl _), HE⟩
 case round =>
  obtain ⟨j, x, hj, rfl, rfl, HP, He⟩ := hrel
  by_cases hlt : j < c.length
  · obtain ⟨s, sb, so, hs, _, hsd, _, rfl, _, hsc⟩ := tickEl HC.out j hlt
    have HS : Hid (R = (tickB (prevT c j) s && clockFrom s.process (c.drop (j + 1)))) := hid (by rw [He.out, tick_step hsd])
    have HPS : Hid (prevT c (j + 1) = s.process) := hid (prevT_succ hs)
    obtain ⟨HS0, HS1⟩ := hsc.two
    have s0 : ∀ y : Ext w, y.1.cell? ⟨sb, so + j * 2, none⟩ = some (.int .i64 s.process) := fun y => y.cell HS0
    have s1 : ∀ y : Ext w, y.1.cell? ⟨sb, so + j * 2 + 1, none⟩ = some (.int .i64 s.n) := fun y => y.cell HS1
    have HJ : Hid (j + 1 ≤ c.length) := hid hlt
    have hi1 : (j : Int) < (c.length : Int) := by omega
    by_cases p1 : s.process < 0
    · have HF : Hid (R = false) := hid (by rw [HS.out, tickB_no (.inl (by have := HP.out; omega))]; rfl)
      clear hs hsd HS0 HS1 hsc He HE
      go_wp2_with fail
      go_ret
      exact ⟨ret_bool HF.out.symm, x.2⟩
    by_cases p2 : 63 < s.process
    · have HF : Hid (R = false) := hid (by rw [HS.out, tickB_no (by omega)]; rfl)
      clear hs hsd HS0 HS1 hsc He HE
      go_wp2_with fail
      go_ret
      exact ⟨ret_bool HF.out.symm, x.2⟩
    by_cases p3 : s.n < 1
    · have HF : Hid (R = false) := hid (by rw [HS.out, tickB_no (by omega)]; rfl)
      clear hs hsd HS0 HS1 hsc He HE
      go_wp2_with fail
      go_ret
      exact ⟨ret_bool HF.out.symm, x.2⟩
    by_cases p4 : 1000000000000000 < s.n
    · have HF : Hid (R = false) := hid (by rw [HS.out, tickB_no (by omega)]; rfl)
      clear hs hsd HS0 HS1 hsc He HE
      go_wp2_with fail
      go_ret
      exact ⟨ret_bool HF.out.symm, x.2⟩
    have q1 : 0 ≤ s.process := by omega
    have q2 : s.process ≤ 63 := by omega
    have q3 : 1 ≤ s.n := by omega
    have q4 : s.n ≤ 1000000000000000 := by omega
    have g1 : decide (s.process < 0) = false := decide_eq_false p1
    have g2 : decide (63 < s.process) = false := decide_eq_false p2
    have g3 : decide (s.n < 1) = false := decide_eq_false p3
    have g4 : decide (1000000000000000 < s.n) = false := decide_eq_false p4
    have HQ : Hid (-1 ≤ prevT c (j + 1)) := hid (by rw [HPS.out]; omega)
    have HT : Hid (prevT c j < s.process → R = clockFrom (prevT c (j + 1)) (c.drop (j + 1))) := hid fun h => by rw [HS.out, HPS.out, show tickB (prevT c j) s = true from decide_eq_true ⟨h, q2, q3, q4⟩, Bool.true_and]
    have HU : Hid (s.process ≤ prevT c j → R = false) := hid fun h => by rw [HS.out, tickB_no (.inl h)]; rfl
    clear hsd HS0 HS1 hsc He HE p1 p2 p3 p4 HS HPS
    cases j with
    | zero =>
      have HR : Hid (R = clockFrom (prevT c 1) (c.drop 1)) := hid (HT.out (by show (-1 : Int) < _; omega))
      have s0' : ∀ y : Ext w, y.1.cell? ⟨sb, so, none⟩ = some (.int .i64 s.process) := by simpa using s0
      have s1' : ∀ y : Ext w, y.1.cell? ⟨sb, so + 1, none⟩ = some (.int .i64 s.n) := by simpa using s1
      clear HT HU hs
      go_wp2_with fail
      refine wp_region_at (by kernel_rfl) (by kernel_rfl) _ ?_
      repeat (go_big_quiet_step (fail))
      refine wpQuiet_nil ?_
      rintro _ ⟨z, rfl⟩
      go_wp2_with fail
      go_roundw
      case rel => exact ⟨1, z, HJ.out, by go_num, rfl, HQ, HR⟩
      case measure => have := HJ.out; simp [intOf]; omega
    | succ k =>
      obtain ⟨t, tb, to, ht, _, _, _, heq, _, htc⟩ := tickEl HC.out k (by omega)
      cases heq
      have HPT : Hid (prevT c (k + 1) = t.process) := hid (prevT_succ ht)
      obtain ⟨HT0, HT1⟩ := htc.two
      have t0 : ∀ y : Ext w, y.1.cell? ⟨sb, so + k * 2, none⟩ = some (.int .i64 t.process) := fun y => y.cell HT0
      have e1 : wrap64 ((k : Int) + 1 - 1) = (k : Int) := by rw [show (k : Int) + 1 - 1 = k by omega]; exact IntWalk.wrap64_in _ (by omega)
      have e2 : ((k : Int) + 1 - 1) = (k : Int) := by omega
      have hk0 : (0 : Int) ≤ (k : Int) := by omega
      have hk1 : (k : Int) < (c.length : Int) := by omega
      have hk2 : (0 : Int) < (k : Int) + 1 := by omega
      have hk3 : ((k : Int) + 1).toNat = k + 1 := by omega
      have hk4 : ((k + 1 : Nat) : Int) = (k : Int) + 1 := by omega
      have hd1 : decide ((0 : Int) < (k : Int) + 1) = true := decide_eq_true hk2
      clear hs ht htc HT0 HT1
      by_cases hp : s.process ≤ t.process
      · have HF : Hid (R = false) := hid (HU.out (by rw [HPT.out]; exact hp))
        have hdp : decide (s.process ≤ t.process) = true := decide_eq_true hp
        clear HT HU hp
        go_wp2_with fail
        refine wp_region_at (by kernel_rfl) (by kernel_rfl) _ ?_
        repeat (go_big_quiet_step (fail))
        refine wpQuiet_nil ?_
        rintro _ ⟨z, rfl⟩
        go_wp2_with fail
        go_ret
        exact ⟨ret_bool HF.out.symm, z.2⟩
      · have HR : Hid (R = clockFrom (prevT c (k + 1 + 1)) (c.drop (k + 1 + 1))) := hid (HT.out (by rw [HPT.out]; omega))
        have hdp : decide (s.process ≤ t.process) = false := decide_eq_false hp
        have hp' : t.process < s.process := by omega
        clear HT HU hp
        go_wp2_with fail
        refine wp_region_at (by kernel_rfl) (by kernel_rfl) _ ?_
        repeat (go_big_quiet_step (fail))
        refine wpQuiet_nil ?_
        rintro _ ⟨z, rfl⟩
        go_wp2_with fail
        go_roundw
        case rel => exact ⟨k + 1 + 1, z, HJ.out, by go_num, rfl, HQ, HR⟩
        case measure => have := HJ.out; simp [intOf]; omega
  · have hjj : j = c.length := by omega
    subst hjj
    have HF : Hid (R = true) := hid (by rw [He.out, List.drop_eq_nil_of_le (Nat.le_refl _)]; rfl)
    clear hlt hj
    go_wp2_with fail
    go_ret
    exact ⟨ret_bool HF.out.symm, x.2⟩
theorem getT_step {c : List Tk} {j : Nat} {s : Tk} {p : Int} (h : c.drop j = s :: c.drop (j + 1)) : getT (c.drop j) p = if s.process = p then s.n else getT (c.drop (j + 1)) p := by
 rw [h, getT_cons]
theorem rGet_any (v : Value) (c : List Tk) (p : Int) (w : World) (hv : SlRd w 2 tickRd v c) :
 Calls Tryz.prog 180 #[v, .int .i64 p] w fun e w' => e = .returned (.int .i64 (rgetT c p)) ∧ Below w.heap.size w w' := by
 have HV : Hid (∀ x : Ext w, Calls Tryz.prog 122 #[v] x.1 fun e w' => e = .returned (.bool (clockB c)) ∧ ∃ y : Ext w, w' = y.1) := hid fun x => ext_call x (rClock_any v c x.1 (SlRd.below hv x.2 fun _ _ _ h => h))
 obtain ⟨ac, cc, rfl, _, hmc⟩ := hv.shape
 have HC := hid hv
 have HR : Hid (rgetT c p = if clockB c then getT (c.drop 0) p else 0) := hid rfl
 generalize rgetT c p = R at HR ⊢
 generalize clockB c = B at HV HR
 clear hv
 go_enter Tryz.func180, Tryz.ntmps180
 go_wp2_with fail
 refine (HV.out ⟨_, Below.refl _ _⟩).mono ?_
 rintro e _ ⟨rfl, x1, rfl⟩
 cases B
 · have HF : Hid (R = 0) := hid HR.out
   go_wp2_with fail
   go_ret
   exact ⟨ret_int HF.out.symm, x1.2⟩
 · have HE : Hid (R = getT (c.drop 0) p) := hid HR.out
   clear HR HV
   go_wp2_with fail
   go_loopw [5] (fun i wr => ∃ (j : Nat) (x : Ext w), j ≤ c.length ∧ i = .int .i64 j ∧ wr = x.1 ∧ Hid (R = getT (c.drop j) p)) (fun i _ => c.length - (intOf i).toNat)
   case atStart => exact ⟨0, x1, Nat.zero_le _, rfl, rfl, HE⟩
   case round =>
    obtain ⟨j, x, hj, rfl, rfl, He⟩ := hrel
    by_cases hlt : j < c.length
    · obtain ⟨s, sb, so, hs, _, hsd, _, rfl, _, hsc⟩ := tickEl HC.out j hlt
      have HS : Hid (R = if s.process = p then s.n else getT (c.drop (j + 1)) p) := hid (by rw [He.out, getT_step hsd])
      obtain ⟨HS0, HS1⟩ := hsc.two
      have s0 : ∀ y : Ext w, y.1.cell? ⟨sb, so + j * 2, none⟩ = some (.int .i64 s.process) := fun y => y.cell HS0
      have s1 : ∀ y : Ext w, y.1.cell? ⟨sb, so + j * 2 + 1, none⟩ = some (.int .i64 s.n) := fun y => y.cell HS1
      have HJ : Hid (j + 1 ≤ c.length) := hid hlt
      have hi1 : (j : Int) < (c.length : Int) := by omega
      clear hs hsd HS0 HS1 hsc He HE
      by_cases hp : s.process = p
      · have HF : Hid (R = s.n) := hid (by rw [HS.out, if_pos hp])
        have hpb : (s.process == p) = true := by rw [beq_iff_eq]; exact hp
        clear hp HS
        go_wp2_with fail
        go_ret
        exact ⟨ret_int HF.out.symm, x.2⟩
      · have HF : Hid (R = getT (c.drop (j + 1)) p) := hid (by rw [HS.out, if_neg hp])
        have hpb : (s.process == p) = false := by rw [beq_eq_false_iff_ne]; exact hp
        clear hp HS
        go_wp2_with fail
        go_roundw
        case rel => exact ⟨j + 1, x, HJ.out, by go_num, rfl, HF⟩
        case measure => have := HJ.out; simp [intOf]; omega
    · have hjj : j = c.length := by omega
      subst hjj
      have HF : Hid (R = 0) := hid (by rw [He.out, List.drop_eq_nil_of_le (Nat.le_refl _)]; rfl)
      clear hlt hj
      go_wp2_with fail
      go_ret
      exact ⟨ret_int HF.out.symm, x.2⟩
theorem infoI64 : (Tryz.prog.info? 2).map (fun i => (i.zero, i.size, i.bytes)) = some (some (.int .i64 0), 1, 8) := by kernel_rfl
theorem flat_one {α : Type} (g : α → Value) : ∀ l : List α, l.flatMap (fun c => [g c]) = l.map g
  | [] => rfl
  | x :: t => by rw [List.flatMap_cons, flat_one g t]; rfl
theorem i64s_owns {w : World} {base E : Nat} {v : Value} {l : List Int} (h : w.ownsRow base E 1 v l.length (l.map fun x => .int .i64 x)) : I64s w v l := SlRd.of_owns (f := fun x => [.int .i64 x]) (fun _ => rfl) (fun _ _ => rfl) (by
  rw [flat_one]; exact h)
theorem owns_nil (w : World) (base E size : Nat) : w.ownsRow base E size (.slice none 0 0) 0 [] := ⟨by simp, .inl ⟨rfl, rfl⟩⟩
def AllPost (w : World) (l : List Int) (e : Ending) (w' : World) : Prop := ∃ v, e = .returned v ∧ I64s w' v l ∧ Below w.heap.size w w'
theorem I64s.below {w w' : World} {v : Value} {l : List Int} (h : I64s w v l) (hb : Below w.heap.size w w') : I64s w' v l := SlRd.below h hb fun _ _ _ h => h
theorem rAll_any (v : Value) (c : List Tk) (w : World) (hv : SlRd w 2 tickRd v c) :
 Calls Tryz.prog 172 #[v] w (AllPost w (allT c)) := by
 have HG : Hid (∀ (p : Int) (W : World), Below w.heap.size w W → Calls Tryz.prog 180 #[v, .int .i64 p] W fun e w' => e = .returned (.int .i64 (rgetT c p)) ∧ Below W.heap.size W w') := hid fun p W h => rGet_any v c p W (SlRd.below hv h fun _ _ _ h => h)
 have HD : Hid (allT c = (List.range 64).map fun p : Nat => rgetT c p) := hid rfl
 obtain ⟨i0, hi0, hz0, hz1, hz2⟩ := info_parts infoI64
 clear hv
 go_enter Tryz.func172, Tryz.ntmps172
 go_wp2_with fail
 go_loopw [3, 4] (fun vo i wr => ∃ (j : Nat), j ≤ 64 ∧ i = .int .i64 j ∧ Hid (Below w.heap.size w wr) ∧ Hid (wr.ownsRow w.heap.size 2 1 vo j ((List.range j).map fun p : Nat => Value.int .i64 (rgetT c p)))) (fun _ i _ => 64 - (intOf i).toNat)
 case atStart => exact ⟨0, Nat.zero_le _, rfl, hid (Below.refl _ _), hid (owns_nil _ _ _ _)⟩
 case round =>
  obtain ⟨j, hj, rfl, HB, HO⟩ := hrel
  obtain ⟨ao, co, rfl⟩ := owns_shape HO.out
  by_cases hlt : j < 64
  · have hle : (j : Int) ≤ 63 := by omega
    have HJ : Hid (j + 1 ≤ 64) := hid hlt
    clear hj hlt
    go_wp2_with fail
    refine (HG.out _ _ HB.out).mono ?_
    rintro e w1 ⟨rfl, hb⟩
    have HB1 : Hid (∀ O, Below w.heap.size w (w1.alloc O)) := hid fun O => (HB.out.trans (hb.mono HB.out.size)).alloc (HB.out.trans (hb.mono HB.out.size)).size O
    have HO1 : Hid (∀ O, (w1.alloc O).ownsRow w.heap.size 2 1 (.slice ao j co) j ((List.range j).map fun p : Nat => Value.int .i64 (rgetT c p))) := hid fun O => owns_below HO.out (hb.trans (((Below.refl _ _).alloc (Nat.le_refl _) O).mono hb.size))
    clear hb
    have HL : Hid ((List.range j).map (fun p : Nat => Value.int .i64 (rgetT c p)) ++ [.int .i64 (rgetT c j)] = (List.range (j + 1)).map fun p : Nat => Value.int .i64 (rgetT c p)) := hid (by rw [List.range_succ, List.map_append]; rfl)
    generalize rgetT c (j : Int) = G at HL ⊢
    go_wp2_with (at_builtin; refine wpList_append rfl (.tmp 9) (.tmp 13) 164 rfl w.heap.size 2 1 8 Tryz.underlying164 hi0 hz0 hz1 hz2 rfl (by decide) (.slice ao j co) j _ rfl (HO1.out _) _ 1 [.int .i64 G] rfl (Src.of_block (cs := #[.int .i64 G]) (heap_alloc_new _ _) 1 1 1 rfl (by simp [Value.oneCell'])) (j + 1) rfl _ HL.out (by have := HJ.out; unfold maxLen; omega) (by have := HJ.out; omega) ((HB1.out _).size) ?_; intro na nc w4 had; have HO4 := hid had.own; have HB4 : Hid (Below w.heap.size w w4) := hid ((HB1.out _).grown had.grown (HB1.out _).size (fun g hg => (owns_tag (HO1.out (.cells #[] 0 (0, 0))) hg).1)); clear had)
    go_roundw
    case rel => exact ⟨j + 1, HJ.out, by go_num, HB4, HO4⟩
    case measure => have := HJ.out; simp [intOf]; omega
  · have hjj : j = 64 := by omega
    subst hjj
    have HF : Hid (wr.ownsRow w.heap.size 2 1 (.slice ao 64 co) (allT c).length ((allT c).map fun x => .int .i64 x)) := hid (by
      rw [HD.out, List.map_map, List.length_map, List.length_range]
      exact HO.out)
    clear hlt hj
    go_wp2_with fail
    go_ret
    exact ⟨_, rfl, i64s_owns HF.out, HB.out⟩
theorem range_drop {j : Nat} (h : j < 64) (f : Nat → Bool) : ((List.range 64).drop j).all f = (f j && ((List.range 64).drop (j + 1)).all f) := by
 rw [drop_consS (List.range 64) j (by rw [List.length_range]; exact h), List.all_cons, List.getElem_range]
theorem allT_at (c : List Tk) (j : Nat) (h : j < (allT c).length) : (allT c)[j] = rgetT c (j : Int) := by
 simp only [allT, List.getElem_map, List.getElem_range]
theorem rLeq_any (va vb : Value) (a b : List Tk) (w : World) (ha : SlRd w 2 tickRd va a) (hb : SlRd w 2 tickRd vb b) :
 Calls Tryz.prog 155 #[va, vb] w fun e w' => e = .returned (.bool (leqT a b)) ∧ Below w.heap.size w w' := by
 have HA : Hid (∀ (W : World), Below w.heap.size w W → Calls Tryz.prog 172 #[va] W (AllPost W (allT a))) := hid fun W h => rAll_any va a W (SlRd.below ha h fun _ _ _ h => h)
 have HB : Hid (∀ (W : World), Below w.heap.size w W → Calls Tryz.prog 172 #[vb] W (AllPost W (allT b))) := hid fun W h => rAll_any vb b W (SlRd.below hb h fun _ _ _ h => h)
 have HE : Hid (leqT a b = ((List.range 64).drop 0).all fun p : Nat => decide (rgetT a p ≤ rgetT b p)) := hid rfl
 have hla : (allT a).length = 64 := by unfold allT; rw [List.length_map, List.length_range]
 have hlb : (allT b).length = 64 := by unfold allT; rw [List.length_map, List.length_range]
 generalize leqT a b = R at HE ⊢
 clear ha hb
 go_enter Tryz.func155, Tryz.ntmps155
 go_wp2_with fail
 refine (HA.out _ (Below.refl _ _)).mono ?_
 rintro e w1 ⟨v1, rfl, h1, hb1⟩
 have HB1 := hid hb1
 have HI1 := hid h1
 clear h1 hb1
 go_wp2_with fail
 refine (HB.out _ HB1.out).mono ?_
 rintro e w2 ⟨v2, rfl, h2, hb2⟩
 have HB2 : Hid (Below w.heap.size w w2) := hid (HB1.out.trans (hb2.mono HB1.out.size))
 have h1 := HI1.out.below hb2
 obtain ⟨a1, c1, rfl, _, _⟩ := h1.shape
 obtain ⟨a2, c2, rfl, _, _⟩ := h2.shape
 have HX1 := hid h1
 have HX2 := hid h2
 have HLA := hid hla
 have HLB := hid hlb
 rw [hla] at HX1
 rw [hlb] at HX2
 rw [hla, hlb]
 clear h1 h2 hb2 HI1 HB1 HA HB hla hlb
 go_wp2_with fail
 go_loopw [7] (fun i wr => ∃ (j : Nat) (x : Ext w2), j ≤ 64 ∧ i = .int .i64 j ∧ wr = x.1 ∧ Hid (R = ((List.range 64).drop j).all fun p : Nat => decide (rgetT a p ≤ rgetT b p))) (fun i _ => 64 - (intOf i).toNat)
 case atStart => exact ⟨0, ⟨w2, Below.refl _ _⟩, Nat.zero_le _, rfl, rfl, HE⟩
 case round =>
  obtain ⟨j, x, hj, rfl, rfl, He⟩ := hrel
  by_cases hlt : j < 64
  · obtain ⟨b1, o1, rfl, hc1⟩ := HX1.out.cell j (by rw [HLA.out]; exact hlt)
    obtain ⟨b2, o2, rfl, hc2⟩ := HX2.out.cell j (by rw [HLB.out]; exact hlt)
    rw [allT_at] at hc1 hc2
    have HC1 := hid hc1
    have HC2 := hid hc2
    have HS : Hid (R = (decide (rgetT a j ≤ rgetT b j) && ((List.range 64).drop (j + 1)).all fun p : Nat => decide (rgetT a p ≤ rgetT b p))) := hid (by rw [He.out, range_drop hlt])
    generalize rgetT a j = ga at HC1 HS
    generalize rgetT b j = gb at HC2 HS
    have s1 : ∀ y : Ext w2, y.1.cell? ⟨b1, o1 + j, none⟩ = some (.int .i64 ga) := fun y => y.cell HC1.out
    have s2 : ∀ y : Ext w2, y.1.cell? ⟨b2, o2 + j, none⟩ = some (.int .i64 gb) := fun y => y.cell HC2.out
    have hi1 : (j : Int) < 64 := by omega
    have HJ : Hid (j + 1 ≤ 64) := hid hlt
    clear hc1 hc2 He hlt hj
    by_cases hg : gb < ga
    · have HF : Hid (R = false) := hid (by rw [HS.out, decide_eq_false (by omega)]; rfl)
      have hdg : decide (gb < ga) = true := decide_eq_true hg
      clear hg HS
      go_wp2_with fail
      refine wp_region_at (by kernel_rfl) (by kernel_rfl) _ ?_
      repeat (go_big_quiet_step (fail))
      refine wpQuiet_nil ?_
      rintro _ ⟨z, rfl⟩
      go_wp2_with fail
      go_ret
      exact ⟨ret_bool HF.out.symm, HB2.out.trans (z.2.mono HB2.out.size)⟩
    · have HF : Hid (R = ((List.range 64).drop (j + 1)).all fun p : Nat => decide (rgetT a p ≤ rgetT b p)) := hid (by rw [HS.out, decide_eq_true (by omega), Bool.true_and])
      have hdg : decide (gb < ga) = false := decide_eq_false hg
      clear hg HS
      go_wp2_with fail
      refine wp_region_at (by kernel_rfl) (by kernel_rfl) _ ?_
      repeat (go_big_quiet_step (fail))
      refine wpQuiet_nil ?_
      rintro _ ⟨z, rfl⟩
      go_wp2_with fail
      go_roundw
      case rel => exact ⟨j + 1, z, HJ.out, by go_num, rfl, HF⟩
      case measure => have := HJ.out; simp [intOf]; omega
  · have hjj : j = 64 := by omega
    subst hjj
    have HF : Hid (R = true) := hid (by rw [He.out, List.drop_eq_nil_of_le (by rw [List.length_range]; exact Nat.le_refl _)]; rfl)
    clear hlt hj
    go_wp2_with fail
    go_ret
    exact ⟨ret_bool HF.out.symm, HB2.out.trans (x.2.mono HB2.out.size)⟩
theorem rBelow_any (va vb : Value) (a b : List Tk) (w : World) (ha : SlRd w 2 tickRd va a) (hb : SlRd w 2 tickRd vb b) :
 Calls Tryz.prog 123 #[va, vb] w fun e w' => e = .returned (.bool (belowT a b)) ∧ Below w.heap.size w w' := by
 have HV1 : Hid (∀ x : Ext w, Calls Tryz.prog 122 #[va] x.1 fun e w' => e = .returned (.bool (clockB a)) ∧ ∃ y : Ext w, w' = y.1) := hid fun x => ext_call x (rClock_any va a x.1 (SlRd.below ha x.2 fun _ _ _ h => h))
 have HV2 : Hid (∀ x : Ext w, Calls Tryz.prog 122 #[vb] x.1 fun e w' => e = .returned (.bool (clockB b)) ∧ ∃ y : Ext w, w' = y.1) := hid fun x => ext_call x (rClock_any vb b x.1 (SlRd.below hb x.2 fun _ _ _ h => h))
 have HL1 : Hid (∀ x : Ext w, Calls Tryz.prog 155 #[va, vb] x.1 fun e w' => e = .returned (.bool (leqT a b)) ∧ ∃ y : Ext w, w' = y.1) := hid fun x => ext_call x (rLeq_any va vb a b x.1 (SlRd.below ha x.2 fun _ _ _ h => h) (SlRd.below hb x.2 fun _ _ _ h => h))
 have HL2 : Hid (∀ x : Ext w, Calls Tryz.prog 155 #[vb, va] x.1 fun e w' => e = .returned (.bool (leqT b a)) ∧ ∃ y : Ext w, w' = y.1) := hid fun x => ext_call x (rLeq_any vb va b a x.1 (SlRd.below hb x.2 fun _ _ _ h => h) (SlRd.below ha x.2 fun _ _ _ h => h))
 have HE : Hid (belowT a b = (clockB a && (clockB b && (leqT a b && !leqT b a)))) := hid rfl
 generalize belowT a b = R at HE ⊢
 generalize clockB a = B1 at HV1 HE
 generalize clockB b = B2 at HV2 HE
 generalize leqT a b = B3 at HL1 HE
 generalize leqT b a = B4 at HL2 HE
 clear ha hb
 go_enter Tryz.func123, Tryz.ntmps123
 go_wp2_with fail
 refine (HV1.out ⟨_, Below.refl _ _⟩).mono ?_
 rintro e _ ⟨rfl, x1, rfl⟩
 cases B1
 · have HF : Hid (R = false) := hid (by rw [HE.out]; rfl)
   go_wp2_with fail
   go_ret
   exact ⟨ret_bool HF.out.symm, x1.2⟩
 go_wp2_with fail
 refine (HV2.out _).mono ?_
 rintro e _ ⟨rfl, x2, rfl⟩
 cases B2
 · have HF : Hid (R = false) := hid (by rw [HE.out]; rfl)
   go_wp2_with fail
   go_ret
   exact ⟨ret_bool HF.out.symm, x2.2⟩
 go_wp2_with fail
 refine (HL1.out _).mono ?_
 rintro e _ ⟨rfl, x3, rfl⟩
 cases B3
 · have HF : Hid (R = false) := hid (by rw [HE.out]; rfl)
   go_wp2_with fail
   go_ret
   exact ⟨ret_bool HF.out.symm, x3.2⟩
 go_wp2_with fail
 refine (HL2.out _).mono ?_
 rintro e _ ⟨rfl, x4, rfl⟩
 have HF : Hid (R = !B4) := hid (by rw [HE.out]; rfl)
 go_wp2_with fail
 go_ret
 exact ⟨ret_bool HF.out.symm, x4.2⟩
end Go.Proofs.YtmdjnaobllajmaaGreatDoor
