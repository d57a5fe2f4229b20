/-
  What the statements of the chapter share, part 19: RWC.
-/
import Derived.Test.YtgkjcmglcnhpaaaGreatDoorR01
import Derived.Test.YtgkjcmglcnhpaaaGreatDoorR18
import Derived.Below
import Derived.ChangeArms
import Derived.ChangeOld
import Derived.ChangeSlices
set_option linter.unusedVariables false
set_option linter.unusedSimpArgs false
set_option maxRecDepth 100000
set_option maxHeartbeats 8000000
namespace Go.Proofs.YtgkjcmglcnhpaaaGreatDoor
open _root_.List renaming getElem?_eq_some_iff → Z1, getElem?_eq_getElem → Z2
open _root_.Go.Proofs.Tryz renaming prog → Z0
open Go.RowKit
section
section
variable {hd : List Value} {h : List Ob} {W : World}
theorem Zb6 {α : Type} {k : Nat} {R : α → List Value → Prop} {f : α → List D} {v : Value} {l : List α} (q : SlRd W k R v l) (hR : ∀ x ∈ l, ∀ cs, R x cs → rdL hd h W (f x) cs ∧ (f x).length = k) : rd hd h W (.sl k (l.map f)) v := by
 obtain ⟨a, cap, rfl, h1, h2, h3⟩ := q
 rw [rd]
 refine ⟨a, cap, by simp, by simpa using h1, h2, (Xx _ _ _ _).2 fun i row hr => ?_⟩
 rw [List.getElem?_map, Option.map_eq_some_iff] at hr
 obtain ⟨x, hx, rfl⟩ := hr
 have hi := (Z1.1 hx).1
 obtain ⟨b, o, cs, rfl, hl, hc, hr⟩ := h3 i hi
 have hxe : l[i] = x := (Z1.1 hx).2
 rw [hxe] at hr
 obtain ⟨g1, g2⟩ := hR x (List.mem_of_getElem? hx) cs hr
 refine ⟨g2, b, o, rfl, (Wh _ _ _).2 fun j d hd' => ?_⟩
 obtain ⟨g3, g4⟩ := (Yk _ _).1 g1
 obtain ⟨u, hu, hr⟩ := g4 j d hd'
 have hj := (Z1.1 hu).1
 refine ⟨u, ?_, hr⟩
 have := hc j hj
 rw [(Z1.1 hu).2] at this
 rw [show o + (0 + i * k) + j = o + i * k + j by omega]; exact this
theorem Zd3 {d : D} {u : Value} : rdL hd h W [d] [u] ↔ rd hd h W d u := by
 rw [rdL]; constructor
 · rintro ⟨_, _, e, q, _⟩; cases e; exact q
 · intro q; exact ⟨u, [], rfl, q, by rw [rdL]⟩
theorem Xp {d : D} {ds : List D} {u : Value} {us : List Value} : rdL hd h W (d :: ds) (u :: us) ↔ rd hd h W d u ∧ rdL hd h W ds us := by
 rw [rdL]; constructor
 · rintro ⟨_, _, e, q, r⟩; cases e; exact ⟨q, r⟩
 · intro q; exact ⟨u, us, rfl, q.1, q.2⟩
theorem rd_v {x u : Value} : rd hd h W (.v x) u ↔ u = x := by rw [rd]
end
theorem sl_none {α : Type} (w : World) (sz : Nat) (R : α → List Value → Prop) : SlRd w sz R (.slice none 0 0) [] := ⟨none, 0, rfl, ⟨fun _ => rfl, Nat.le_refl _⟩, by decide, fun i h => by simp at h⟩
theorem list_of {α : Type} {P : Nat → α → Prop} : ∀ n, (∀ i, i < n → ∃ a, P i a) → ∃ l : List α, l.length = n ∧ ∀ i (h : i < l.length), P i l[i]
 | 0, _ => ⟨[], rfl, fun i h => by simp at h⟩
 | n + 1, h => by
   obtain ⟨l, hl, hp⟩ := list_of n (fun i hi => h i (by omega))
   obtain ⟨a, ha⟩ := h n (by omega)
   refine ⟨l ++ [a], by simp [hl], fun i hi => ?_⟩
   by_cases h2 : i < l.length
   · rw [List.getElem_append_left h2]; exact hp i h2
   · have h3 : i = l.length := by simp at hi; omega
     subst h3
     simpa [hl] using ha
theorem add_at {a : Addr} (h : a.spot = none) (n : Nat) : a.add n = ⟨a.block, a.off + n, none⟩ := by
 unfold Addr.add
 split
 · rename_i h0; subst h0; cases a; simp_all
 · rfl
theorem spot_of_cell {w : World} {a : Addr} {v : Value} (h : w.cell? a = some v) : a.spot = none := by
 unfold World.cell? at h
 split at h
 · split at h
   · cases h
   · rename_i hs; simpa using hs
 · cases h
theorem Zr6 {n : Int} (h : (Lit.int .i64 n).wf = true) : I64 n := by
 simp [Lit.wf, IntKind.min, IntKind.max, IntKind.signed, IntKind.bits] at h
 unfold I64
 omega
theorem Ya4 {P : Program} {w : World} {r : Reach} {base : Nat} {t : TypeId} {v : Value} {fs : Array Field} (ht : P.underlying t = some (.struct fs)) (h : Value.okWide P w r base t v) : ∃ cs, v = .agg cs := by
 simp only [Value.okWide, ht] at h
 obtain ⟨cs, h1, _⟩ := h
 exact ⟨cs, h1⟩
section
variable {H : Type} {enc : TypeId × Value → H} {w : World} {base : Nat} {spare : Nat → Bool} {held : Bool} {fuel : Nat} {t : TypeId} {cs : List Value} {x : DataW H × List MemPlace}
theorem Zj5 {α : Type} {e : TypeId} {sz : Nat} {R : α → List Value → Prop} (ht : Z0.underlying t = some (.slice e)) (hc : Z0.cellsOf e = sz) (h0 : 0 < sz)
 (hR : ∀ n, n < fuel → ∀ cs x, DataW.trod enc Z0 w base spare held n e cs = some x → ∃ a, R a cs) (h : DataW.trod enc Z0 w base spare held fuel t cs = some x) :
 ∃ v l, cs = [v] ∧ SlRd w sz R v l := by
 rcases DataW.trod_slice ht h with ⟨rfl, _⟩ | ⟨a, len, cap, elems, rest, n, hf, rfl, rfl, hb, hl, hm, hlen, hel, _, _⟩
 · exact ⟨_, [], rfl, sl_none _ _ _⟩
 · have each : ∀ i, i < len → ∃ y, ∃ cs', w.cells? base (a.add (i * sz)) sz = some cs' ∧ R y cs' := fun i hi => by
     have h1 := hel i hi
     rw [hc] at h1
     have h2 : i < elems.length := by omega
     rw [Z2 h2, Option.bind_eq_some_iff] at h1
     obtain ⟨cs', h3, h4⟩ := h1
     obtain ⟨y, hy⟩ := hR n (by omega) _ _ h4
     exact ⟨y, cs', h3, hy⟩
   obtain ⟨l, hll, hp⟩ := list_of len each
   subst hll
   refine ⟨_, l, rfl, some a, cap, rfl, ⟨by simp, hl⟩, hm, fun i hi => ?_⟩
   have hs : a.spot = none := by
    obtain ⟨_, cs0, h1, _⟩ := each 0 (by omega)
    have h2 := (World.cells?_some h1).2.2 0 h0
    have h3 : cs0.length = sz := (World.cells?_some h1).2.1
    rw [Z2 (by omega)] at h2
    have := spot_of_cell h2
    simpa [Addr.add] using this
   obtain ⟨cs', h1, h2⟩ := hp i hi
   obtain ⟨_, h3, h4⟩ := World.cells?_some h1
   refine ⟨a.block, a.off, cs', by cases a; simp_all, h3, fun j hj => ?_, h2⟩
   have h5 := h4 j (by omega)
   rw [add_at hs, add_at rfl, Z2 hj] at h5
   exact h5
theorem two_ {cs : List Value} (h : cs.length = 2) : ∃ a b, cs = [a, b] := by
 match cs, h with | [a, b], _ => exact ⟨a, b, rfl⟩
theorem six {cs : List Value} (h : cs.length = 6) : ∃ a b c d e f, cs = [a, b, c, d, e, f] := by
 match cs, h with | [a, b, c, d, e, f], _ => exact ⟨a, b, c, d, e, f, rfl⟩
theorem Wj {α : Type} {l : List α} {i : Nat} (h : i < l.length) : ∃ y, l[i]? = some y := ⟨_, Z2 h⟩
theorem fld {fs : Array Field} {n : Nat} {xs : List (DataW H × List MemPlace)} (hf : ∀ (i : Nat) (f : Field), fs[i]? = some f → DataW.trod enc Z0 w base spare held n f.type ((cs.drop f.offset).take (Z0.cellsOf f.type)) = xs[i]?)
 (i ty off k : Nat) {y : DataW H × List MemPlace} (h : (fs[i]?).map (fun f => (f.type, f.offset)) = some (ty, off)) (hc : Z0.cellsOf ty = k) (hx : xs[i]? = some y) : DataW.trod enc Z0 w base spare held n ty ((cs.drop off).take k) = some y := by
 cases hi : fs[i]? with
 | none => rw [hi] at h; cases h
 | some f =>
   rw [hi] at h
   simp only [Option.map_some, Option.some.injEq, Prod.mk.injEq] at h
   obtain ⟨rfl, rfl⟩ := h
   rw [← hx, ← hf i f hi, hc]
theorem c_int : Z0.cellsOf 3 = 1 := by kernel_rfl
theorem c_u8 : Z0.cellsOf 5 = 1 := by kernel_rfl
theorem Yc5 : Z0.cellsOf 9 = 1 := by kernel_rfl
theorem open_byte (h : DataW.trod enc Z0 w base spare held fuel 5 cs = some x) : ∃ b : UInt8, cs = [.int .u8 b.toNat] := by
 obtain ⟨p, hp, _, wp⟩ := DataW.trod_int Tryz.underlying5 h
 have hb : 0 ≤ p ∧ p ≤ 255 := by
  simp [Lit.wf, IntKind.min, IntKind.max, IntKind.signed, IntKind.bits] at wp
  omega
 refine ⟨UInt8.ofNat p.toNat, ?_⟩
 rw [hp]
 have : ((UInt8.ofNat p.toNat).toNat : Int) = p := by
  rw [UInt8.toNat_ofNat']
  omega
 rw [this]
theorem open_bytes (h : DataW.trod enc Z0 w base spare held fuel 38 cs = some x) : ∃ (v : Value) (l : List UInt8), cs = [v] ∧ rd [] [] w (.sl 1 (byD l)) v := by
 obtain ⟨v, l, e, hs⟩ := Zj5 (R := fun (b : UInt8) cs => cs = [.int .u8 b.toNat]) Tryz.underlying38 c_u8 (by decide) (fun n _ cs x h => open_byte h) h
 exact ⟨v, l, e, Zb6 (f := fun b : UInt8 => [D.v (.int .u8 b.toNat)]) hs fun x _ cs hc => by subst hc; exact ⟨Zd3.2 (rd_v.2 rfl), rfl⟩⟩
end
theorem arg_bytes {H : Type} {enc : TypeId × Value → H} {W : World} {v : Value} {d : DataW H} {p : List MemPlace} (h : DataW.Trod enc Z0 W 0 (fun _ => true) true 38 v d p) (hv : ∃ a n c, v = .slice a n c) : ∃ l : List UInt8, rd [] [] W (.sl 1 (byD l)) v := by
 obtain ⟨a, n, c, rfl⟩ := hv
 obtain ⟨fuel, hf⟩ := h
 obtain ⟨v, l, e, hs⟩ := open_bytes hf
 have : v = .slice a n c := by simpa [Value.cells] using e.symm
 subst this
 exact ⟨l, hs⟩
theorem arg_int {H : Type} {enc : TypeId × Value → H} {W : World} {v : Value} {d : DataW H} {p : List MemPlace} (h : DataW.Trod enc Z0 W 0 (fun _ => true) true 3 v d p) (hv : ∃ n, v = .int .i64 n) : ∃ n : Int, rd [] [] W (.v (.int .i64 n)) v ∧ I64 n := by
 obtain ⟨n, rfl⟩ := hv
 obtain ⟨fuel, hf⟩ := h
 obtain ⟨p0, q0, _, w0⟩ := DataW.trod_int Tryz.underlying3 hf
 obtain ⟨rfl⟩ : n = p0 := by simpa [Value.cells] using q0
 exact ⟨n, rd_v.2 rfl, Zr6 w0⟩
theorem walk_of {G : Nat → D} {f : FuncId} {args : List D} {vs : List Value} {W : World} (o : Ok G W [] [] (fun k => decide (k < W.heap.size))) (q : Does Z0 G f [] args (fun h' r => h' = [] ∧ r = .v (.bool true))) (ha : rdL [] [] W args vs) :
 Calls Z0 f vs.toArray W fun e w' => e = .returned (.bool true) ∧ Below W.heap.size W w' := by
 have hs : Sub W (only (fun k => decide (k < W.heap.size)) W) := fun a u hc => by
  rw [Wa, if_pos (by simpa using World.block_lt_of_cell? W _ hc)]; exact hc
 refine (q W [] _ vs o (Yw (.refl _ _) hs _ _ ha)).mono ?_
 rintro e w' ⟨v, hd', h', r, p', rfl, ⟨rfl, rfl⟩, o', hr, ev⟩
 rw [rd] at hr; subst hr
 exact ⟨rfl, ev.os.1, ev.tape, ev.output, ev.size, fun k hk => ev.keep k hk fun ⟨i, ob, u, q, _⟩ => by simp at q⟩
end
end Go.Proofs.YtgkjcmglcnhpaaaGreatDoor
