/-
  What the statements of the chapter share, part 34: RWV.
-/
import Derived.Test.YtbhkcbidcfofiaaGreatY01
import Derived.Test.YtbhkcbidcfofiaaGreatY15
import Derived.Below
import Derived.ChangeArms
import Derived.ChangeOld
import Derived.ChangeSlices
set_option linter.unusedVariables false
set_option linter.unusedSimpArgs false
set_option maxRecDepth 100000
set_option maxHeartbeats 8000000
namespace Go.Proofs.YtbhkcbidcfofiaaGreat
open _root_.List renaming getElem?_eq_some_iff → Z1, getElem?_eq_getElem → Z2
open _root_.Go.Proofs.Tryz renaming prog → Z0
open Go.RowKit
section
section
variable {hd : List Value} {h : List Ob} {W : World}
theorem Zi5 {α : Type} {k : Nat} {R : α → List Value → Prop} {f : α → List D} {v : Value} {l : List α} (q : SlRd W k R v l) (hR : ∀ x ∈ l, ∀ cs, R x cs → rdL hd h W (f x) cs ∧ (f x).length = k) : rd hd h W (.sl k (l.map f)) v := by
 obtain ⟨a, cap, rfl, h1, h2, h3⟩ := q
 rw [rd]
 refine ⟨a, cap, by simp, by simpa using h1, h2, (Vf _ _ _ _).2 fun i row hr => ?_⟩
 rw [List.getElem?_map, Option.map_eq_some_iff] at hr
 obtain ⟨x, hx, rfl⟩ := hr
 have hi := (Z1.1 hx).1
 obtain ⟨b, o, cs, rfl, hl, hc, hr⟩ := h3 i hi
 have hxe : l[i] = x := (Z1.1 hx).2
 rw [hxe] at hr
 obtain ⟨g1, g2⟩ := hR x (List.mem_of_getElem? hx) cs hr
 refine ⟨g2, b, o, rfl, (U3 _ _ _).2 fun j d hd' => ?_⟩
 obtain ⟨g3, g4⟩ := (Xg _ _).1 g1
 obtain ⟨u, hu, hr⟩ := g4 j d hd'
 have hj := (Z1.1 hu).1
 refine ⟨u, ?_, hr⟩
 have := hc j hj
 rw [(Z1.1 hu).2] at this
 rw [show o + (0 + i * k) + j = o + i * k + j by omega]; exact this
theorem Zl6 {d : D} {u : Value} : rdL hd h W [d] [u] ↔ rd hd h W d u := by
 rw [rdL]; constructor
 · rintro ⟨_, _, e, q, _⟩; cases e; exact q
 · intro q; exact ⟨u, [], rfl, q, by rw [rdL]⟩
theorem Vg {d : D} {ds : List D} {u : Value} {us : List Value} : rdL hd h W (d :: ds) (u :: us) ↔ rd hd h W d u ∧ rdL hd h W ds us := by
 rw [rdL]; constructor
 · rintro ⟨_, _, e, q, r⟩; cases e; exact ⟨q, r⟩
 · intro q; exact ⟨u, us, rfl, q.1, q.2⟩
theorem rd_v {x u : Value} : rd hd h W (.v x) u ↔ u = x := by rw [rd]
end
theorem sl_all {α : Type} {w : World} {sz : Nat} {R : α → List Value → Prop} {v : Value} {l : List α} (h : SlRd w sz R v l) : ∀ x ∈ l, ∃ cs, R x cs := fun x hx => by
 obtain ⟨i, hi, rfl⟩ := List.getElem_of_mem hx
 obtain ⟨_, _, _, _, _, h3⟩ := h
 obtain ⟨_, _, cs, _, _, _, hr⟩ := h3 i hi
 exact ⟨cs, hr⟩
theorem Yf7 {α : Type} {w : World} {sz : Nat} {R : α → List Value → Prop} {v : Value} {l : List α} (h : SlRd w sz R v l) : l.length ≤ 9223372036854775807 := by
 obtain ⟨_, cap, _, h2, h3, _⟩ := h
 have : maxLen = 9223372036854775807 := rfl
 omega
theorem sl_none {α : Type} (w : World) (sz : Nat) (R : α → List Value → Prop) : SlRd w sz R (.slice none 0 0) [] := ⟨none, 0, rfl, ⟨fun _ => rfl, Nat.le_refl _⟩, by decide, fun i h => by simp at h⟩
theorem list_of {α : Type} {P : Nat → α → Prop} : ∀ n, (∀ i, i < n → ∃ a, P i a) → ∃ l : List α, l.length = n ∧ ∀ i (h : i < l.length), P i l[i]
 | 0, _ => ⟨[], rfl, fun i h => by simp at h⟩
 | n + 1, h => by
   obtain ⟨l, hl, hp⟩ := list_of n (fun i hi => h i (by omega))
   obtain ⟨a, ha⟩ := h n (by omega)
   refine ⟨l ++ [a], by simp [hl], fun i hi => ?_⟩
   by_cases h2 : i < l.length
   · rw [List.getElem_append_left h2]; exact hp i h2
   · have h3 : i = l.length := by simp at hi; omega
     subst h3
     simpa [hl] using ha
theorem add_at {a : Addr} (h : a.spot = none) (n : Nat) : a.add n = ⟨a.block, a.off + n, none⟩ := by
 unfold Addr.add
 split
 · rename_i h0; subst h0; cases a; simp_all
 · rfl
theorem spot_of_cell {w : World} {a : Addr} {v : Value} (h : w.cell? a = some v) : a.spot = none := by
 unfold World.cell? at h
 split at h
 · split at h
   · cases h
   · rename_i hs; simpa using hs
 · cases h
theorem Ym8 {P : Program} {w : World} {r : Reach} {base : Nat} {t : TypeId} {v : Value} {fs : Array Field} (ht : P.underlying t = some (.struct fs)) (h : Value.okWide P w r base t v) : ∃ cs, v = .agg cs := by
 simp only [Value.okWide, ht] at h
 obtain ⟨cs, h1, _⟩ := h
 exact ⟨cs, h1⟩
section
variable {H : Type} {enc : TypeId × Value → H} {w : World} {base : Nat} {spare : Nat → Bool} {held : Bool} {fuel : Nat} {t : TypeId} {cs : List Value} {x : DataW H × List MemPlace}
theorem Zs7 {α : Type} {e : TypeId} {sz : Nat} {R : α → List Value → Prop} (ht : Z0.underlying t = some (.slice e)) (hc : Z0.cellsOf e = sz) (h0 : 0 < sz)
 (hR : ∀ n, n < fuel → ∀ cs x, DataW.trod enc Z0 w base spare held n e cs = some x → ∃ a, R a cs) (h : DataW.trod enc Z0 w base spare held fuel t cs = some x) :
 ∃ v l, cs = [v] ∧ SlRd w sz R v l := by
 rcases DataW.trod_slice ht h with ⟨rfl, _⟩ | ⟨a, len, cap, elems, rest, n, hf, rfl, rfl, hb, hl, hm, hlen, hel, _, _⟩
 · exact ⟨_, [], rfl, sl_none _ _ _⟩
 · have each : ∀ i, i < len → ∃ y, ∃ cs', w.cells? base (a.add (i * sz)) sz = some cs' ∧ R y cs' := fun i hi => by
     have h1 := hel i hi
     rw [hc] at h1
     have h2 : i < elems.length := by omega
     rw [Z2 h2, Option.bind_eq_some_iff] at h1
     obtain ⟨cs', h3, h4⟩ := h1
     obtain ⟨y, hy⟩ := hR n (by omega) _ _ h4
     exact ⟨y, cs', h3, hy⟩
   obtain ⟨l, hll, hp⟩ := list_of len each
   subst hll
   refine ⟨_, l, rfl, some a, cap, rfl, ⟨by simp, hl⟩, hm, fun i hi => ?_⟩
   have hs : a.spot = none := by
    obtain ⟨_, cs0, h1, _⟩ := each 0 (by omega)
    have h2 := (World.cells?_some h1).2.2 0 h0
    have h3 : cs0.length = sz := (World.cells?_some h1).2.1
    rw [Z2 (by omega)] at h2
    have := spot_of_cell h2
    simpa [Addr.add] using this
   obtain ⟨cs', h1, h2⟩ := hp i hi
   obtain ⟨_, h3, h4⟩ := World.cells?_some h1
   refine ⟨a.block, a.off, cs', by cases a; simp_all, h3, fun j hj => ?_, h2⟩
   have h5 := h4 j (by omega)
   rw [add_at hs, add_at rfl, Z2 hj] at h5
   exact h5
theorem two_ {cs : List Value} (h : cs.length = 2) : ∃ a b, cs = [a, b] := by
 match cs, h with | [a, b], _ => exact ⟨a, b, rfl⟩
theorem six {cs : List Value} (h : cs.length = 6) : ∃ a b c d e f, cs = [a, b, c, d, e, f] := by
 match cs, h with | [a, b, c, d, e, f], _ => exact ⟨a, b, c, d, e, f, rfl⟩
theorem Vl {α : Type} {l : List α} {i : Nat} (h : i < l.length) : ∃ y, l[i]? = some y := ⟨_, Z2 h⟩
theorem fld {fs : Array Field} {n : Nat} {xs : List (DataW H × List MemPlace)} (hf : ∀ (i : Nat) (f : Field), fs[i]? = some f → DataW.trod enc Z0 w base spare held n f.type ((cs.drop f.offset).take (Z0.cellsOf f.type)) = xs[i]?)
 (i ty off k : Nat) {y : DataW H × List MemPlace} (h : (fs[i]?).map (fun f => (f.type, f.offset)) = some (ty, off)) (hc : Z0.cellsOf ty = k) (hx : xs[i]? = some y) : DataW.trod enc Z0 w base spare held n ty ((cs.drop off).take k) = some y := by
 cases hi : fs[i]? with
 | none => rw [hi] at h; cases h
 | some f =>
   rw [hi] at h
   simp only [Option.map_some, Option.some.injEq, Prod.mk.injEq] at h
   obtain ⟨rfl, rfl⟩ := h
   rw [← hx, ← hf i f hi, hc]
theorem c_int : Z0.cellsOf 3 = 1 := by kernel_rfl
theorem Yq3 : Z0.cellsOf 9 = 1 := by kernel_rfl
theorem Yq4 : Z0.cellsOf 2 = 1 := by kernel_rfl
theorem c_strs : Z0.cellsOf 22 = 1 := by kernel_rfl
theorem c_lats : Z0.cellsOf 23 = 1 := by kernel_rfl
theorem c_rules : Z0.cellsOf 24 = 1 := by kernel_rfl
theorem c_lat : Z0.cellsOf 26 = 6 := by kernel_rfl
theorem c_rule : Z0.cellsOf 165 = 2 := by kernel_rfl
theorem Zz8 (h : DataW.trod enc Z0 w base spare held fuel 22 cs = some x) : ∃ (v : Value) (l : List ByteArray), cs = [v] ∧ rd [] [] w (.sl 1 (l.map strX)) v ∧ l.length ≤ 9223372036854775807 ∧ ∀ s ∈ l, s.size ≤ 9223372036854775807 := by
 obtain ⟨v, l, e, hs⟩ := Zs7 (R := fun (s : ByteArray) cs => cs = [.string s] ∧ s.size ≤ maxLen) Tryz.underlying22 Yq3 (by decide) (fun n _ cs x h => by
   obtain ⟨s, rfl, _, hs⟩ := DataW.trod_string Tryz.underlying9 h
   exact ⟨s, rfl, hs⟩) h
 refine ⟨v, l, e, Zi5 hs fun x _ cs hc => ?_, Yf7 hs, fun s hx => ?_⟩
 · obtain ⟨rfl, _⟩ := hc
   exact ⟨Zl6.2 (rd_v.2 rfl), rfl⟩
 · obtain ⟨_, _, hz⟩ := sl_all hs s hx
   exact hz
theorem open_rule (h : DataW.trod enc Z0 w base spare held fuel 165 cs = some x) : ∃ a : Rl, rdL [] [] w (Zo3 a) cs ∧ a.cond.length ≤ 9223372036854775807 ∧ ∀ s ∈ a.cond, s.size ≤ 9223372036854775807 := by
 obtain ⟨xs, n, _, _, hl, hn, hf⟩ := DataW.trod_struct Tryz.underlying165 h
 rw [c_rule] at hl
 obtain ⟨a, b, rfl⟩ := two_ hl
 obtain ⟨y0, e0⟩ := Vl (l := xs) (i := 0) (by rw [hn]; decide)
 obtain ⟨y1, e1⟩ := Vl (l := xs) (i := 1) (by rw [hn]; decide)
 have h0 : DataW.trod enc Z0 w base spare held n 22 [a] = some y0 := fld hf 0 22 0 1 rfl c_strs e0
 have h1 : DataW.trod enc Z0 w base spare held n 9 [b] = some y1 := fld hf 1 9 1 1 rfl Yq3 e1
 obtain ⟨v, l, hv, hs, hll, hz⟩ := Zz8 h0
 obtain ⟨s, hq, _, ws⟩ := DataW.trod_string Tryz.underlying9 h1
 obtain ⟨rfl⟩ : a = v := by simpa using hv
 obtain ⟨rfl⟩ : b = .string s := by simpa using hq
 exact ⟨⟨l, s⟩, Vg.2 ⟨hs, Zl6.2 (rd_v.2 rfl)⟩, hll, hz⟩
theorem open_lat : ∀ (m : Nat) (fuel : Nat) (cs : List Value) (x : DataW H × List MemPlace), fuel < m → DataW.trod enc Z0 w base spare held fuel 26 cs = some x → ∃ l, rdL [] [] w (latX l) cs ∧ Sm l
 | 0, _, _, _, hm, _ => by omega
 | m + 1, fuel, cs, x, hm, h => by
   obtain ⟨xs, n, hfu, _, hl, hn, hf⟩ := DataW.trod_struct Tryz.underlying26 h
   rw [c_lat] at hl
   obtain ⟨a, b, c, d, e, f, rfl⟩ := six hl
   obtain ⟨y0, e0⟩ := Vl (l := xs) (i := 0) (by rw [hn]; decide)
   obtain ⟨y1, e1⟩ := Vl (l := xs) (i := 1) (by rw [hn]; decide)
   obtain ⟨y2, e2⟩ := Vl (l := xs) (i := 2) (by rw [hn]; decide)
   obtain ⟨y3, e3⟩ := Vl (l := xs) (i := 3) (by rw [hn]; decide)
   obtain ⟨y4, e4⟩ := Vl (l := xs) (i := 4) (by rw [hn]; decide)
   obtain ⟨y5, e5⟩ := Vl (l := xs) (i := 5) (by rw [hn]; decide)
   have h0 : DataW.trod enc Z0 w base spare held n 3 [a] = some y0 := fld hf 0 3 0 1 rfl c_int e0
   have h1 : DataW.trod enc Z0 w base spare held n 2 [b] = some y1 := fld hf 1 2 1 1 rfl Yq4 e1
   have h2 : DataW.trod enc Z0 w base spare held n 2 [c] = some y2 := fld hf 2 2 2 1 rfl Yq4 e2
   have h3 : DataW.trod enc Z0 w base spare held n 22 [d] = some y3 := fld hf 3 22 3 1 rfl c_strs e3
   have h4 : DataW.trod enc Z0 w base spare held n 23 [e] = some y4 := fld hf 4 23 4 1 rfl c_lats e4
   have h5 : DataW.trod enc Z0 w base spare held n 24 [f] = some y5 := fld hf 5 24 5 1 rfl c_rules e5
   obtain ⟨p, hp, _, wp⟩ := DataW.trod_int Tryz.underlying3 h0
   obtain ⟨q, hq, _, wq⟩ := DataW.trod_int Tryz.underlying2 h1
   obtain ⟨r, hr, _, wr⟩ := DataW.trod_int Tryz.underlying2 h2
   obtain ⟨v1, l1, hv1, hs1, hl1, hz1⟩ := Zz8 h3
   obtain ⟨v2, l2, hv2, hs2⟩ := Zs7 (R := fun l cs => rdL [] [] w (latX l) cs ∧ Sm l) Tryz.underlying23 c_lat (by decide) (fun k hk cs x hx => open_lat m k cs x (by omega) hx) h4
   obtain ⟨v3, l3, hv3, hs3⟩ := Zs7 (R := fun (a : Rl) cs => rdL [] [] w (Zo3 a) cs ∧ a.cond.length ≤ 9223372036854775807 ∧ ∀ s ∈ a.cond, s.size ≤ 9223372036854775807) Tryz.underlying24 c_rule (by decide) (fun _ _ _ _ h => open_rule h) h5
   obtain ⟨rfl⟩ : a = .int .i64 p := by simpa using hp
   obtain ⟨rfl⟩ : b = .int .i64 q := by simpa using hq
   obtain ⟨rfl⟩ : c = .int .i64 r := by simpa using hr
   obtain ⟨rfl⟩ : d = v1 := by simpa using hv1
   obtain ⟨rfl⟩ : e = v2 := by simpa using hv2
   obtain ⟨rfl⟩ : f = v3 := by simpa using hv3
   refine ⟨.mk p q r l1 l2 l3, ?_, .mk _ hl1 (Yf7 hs2) (Yf7 hs3) hz1 (fun r hr => ?_) (fun l hl => ?_)⟩
   · rw [Y4]
     exact Vg.2 ⟨rd_v.2 rfl, Vg.2 ⟨rd_v.2 rfl, Vg.2 ⟨rd_v.2 rfl, Vg.2 ⟨hs1, Vg.2 ⟨Zi5 hs2 fun x _ cs hc => ⟨hc.1, Zq0 x⟩, Zl6.2 (Zi5 hs3 fun x _ cs hc => ⟨hc.1, rfl⟩)⟩⟩⟩⟩⟩
   · obtain ⟨_, h⟩ := sl_all hs3 r hr; exact h.2
   · obtain ⟨_, h⟩ := sl_all hs2 l hl; exact h.2
end
theorem arg_lat {H : Type} {enc : TypeId × Value → H} {W : World} {v : Value} {d : DataW H} {p : List MemPlace} (h : DataW.Trod enc Z0 W 0 (fun _ => true) true 26 v d p) (hv : ∃ cs, v = .agg cs) : ∃ l : Lat, rd [] [] W (.agg (latX l)) v ∧ Sm l := by
 obtain ⟨cs, rfl⟩ := hv
 obtain ⟨fuel, hf⟩ := h
 obtain ⟨l, h1, h2⟩ := open_lat _ fuel _ _ (Nat.lt_succ_self _) hf
 exact ⟨l, by rw [rd]; exact ⟨cs, rfl, h1⟩, h2⟩
theorem walk_of {G : Nat → D} {f : FuncId} {args : List D} {vs : List Value} {W : World} (o : Ok G W [] [] (fun k => decide (k < W.heap.size))) (q : Does Z0 G f [] args (fun h' r => h' = [] ∧ r = .v (.bool true))) (ha : rdL [] [] W args vs) :
 Calls Z0 f vs.toArray W fun e w' => e = .returned (.bool true) ∧ Below W.heap.size W w' := by
 have hs : Sub W (only (fun k => decide (k < W.heap.size)) W) := fun a u hc => by
  rw [Zg1, if_pos (by simpa using World.block_lt_of_cell? W _ hc)]; exact hc
 refine (q W [] _ vs o (Xv (.refl _ _) hs _ _ ha)).mono ?_
 rintro e w' ⟨v, hd', h', r, p', rfl, ⟨rfl, rfl⟩, o', hr, ev⟩
 rw [rd] at hr; subst hr
 exact ⟨rfl, ev.os.1, ev.tape, ev.output, ev.size, fun k hk => ev.keep k hk fun ⟨i, ob, u, q, _⟩ => by simp at q⟩
end
end Go.Proofs.YtbhkcbidcfofiaaGreat
