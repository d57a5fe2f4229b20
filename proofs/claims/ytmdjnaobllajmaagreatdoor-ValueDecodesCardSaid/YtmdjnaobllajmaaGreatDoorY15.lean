/-
  What the statements of the chapter share, part 15: RWV, RSpec, PRd, PL2, PL3, PL4, CY, RB0.
-/
import Derived.Test.YtmdjnaobllajmaaGreatDoorY01
import Derived.Test.YtmdjnaobllajmaaGreatDoorY09
import Derived.Test.YtmdjnaobllajmaaGreatDoorY10
import Derived.Test.YtmdjnaobllajmaaGreatDoorY13
import Derived.Test.YtmdjnaobllajmaaGreatDoorY14
import Derived.Below
import Derived.ChangeArms
import Derived.ChangeOld
import Derived.ChangeSlices
set_option linter.unusedVariables false
set_option linter.unusedSimpArgs false
set_option maxRecDepth 100000
set_option maxHeartbeats 8000000
namespace Go.Proofs.YtmdjnaobllajmaaGreatDoor
open _root_.Bool renaming and_eq_true → Z0, false_eq_true → Z3
open _root_.ByteArray renaming empty → Zd
open _root_.List renaming length_append → Z1, append_assoc → Z4, length_drop → Z5, getElem?_eq_getElem → Z6, flatMap_cons → Z7, getElem?_eq_some_iff → Z8, append_nil → Z9, drop_eq_nil_of_le → Zb, length_cons → Zc, length_eq_one_iff → Zf, drop_drop → Zg
open _root_.Nat renaming zero_le → Za, le_refl → Ze
open _root_.Go.Proofs.Tryz renaming prog → Z2
open Go.RowKit
section
section
variable {hd : List Value} {h : List Ob} {W : World}
theorem Zr8 {α : Type} {k : Nat} {R : α → List Value → Prop} {f : α → List D} {v : Value} {l : List α} (q : SlRd W k R v l) (hR : ∀ x ∈ l, ∀ cs, R x cs → rdL hd h W (f x) cs ∧ (f x).length = k) : rd hd h W (.sl k (l.map f)) v := by
 obtain ⟨a, cap, rfl, h1, h2, h3⟩ := q
 rw [rd]
 refine ⟨a, cap, by simp, by simpa using h1, h2, (Wv _ _ _ _).2 fun i row hr => ?_⟩
 rw [List.getElem?_map, Option.map_eq_some_iff] at hr
 obtain ⟨x, hx, rfl⟩ := hr
 have hi := (Z8.1 hx).1
 obtain ⟨b, o, cs, rfl, hl, hc, hr⟩ := h3 i hi
 have hxe : l[i] = x := (Z8.1 hx).2
 rw [hxe] at hr
 obtain ⟨g1, g2⟩ := hR x (List.mem_of_getElem? hx) cs hr
 refine ⟨g2, b, o, rfl, (Vq _ _ _).2 fun j d hd' => ?_⟩
 obtain ⟨g3, g4⟩ := (Xa _ _).1 g1
 obtain ⟨u, hu, hr⟩ := g4 j d hd'
 have hj := (Z8.1 hu).1
 refine ⟨u, ?_, hr⟩
 have := hc j hj
 rw [(Z8.1 hu).2] at this
 rw [show o + (0 + i * k) + j = o + i * k + j by omega]; exact this
theorem Zv2 {d : D} {u : Value} : rdL hd h W [d] [u] ↔ rd hd h W d u := by
 rw [rdL]; constructor
 · rintro ⟨_, _, e, q, _⟩; cases e; exact q
 · intro q; exact ⟨u, [], rfl, q, by rw [rdL]⟩
theorem Za5 {d : D} {ds : List D} {u : Value} {us : List Value} : rdL hd h W (d :: ds) (u :: us) ↔ rd hd h W d u ∧ rdL hd h W ds us := by
 rw [rdL]; constructor
 · rintro ⟨_, _, e, q, r⟩; cases e; exact ⟨q, r⟩
 · intro q; exact ⟨u, us, rfl, q.1, q.2⟩
theorem rd_v {x u : Value} : rd hd h W (.v x) u ↔ u = x := by rw [rd]
end
theorem sl_all {α : Type} {w : World} {sz : Nat} {R : α → List Value → Prop} {v : Value} {l : List α} (h : SlRd w sz R v l) : ∀ x ∈ l, ∃ cs, R x cs := fun x hx => by
 obtain ⟨i, hi, rfl⟩ := List.getElem_of_mem hx
 obtain ⟨_, _, _, _, _, h3⟩ := h
 obtain ⟨_, _, cs, _, _, _, hr⟩ := h3 i hi
 exact ⟨cs, hr⟩
theorem sl_len {α : Type} {w : World} {sz : Nat} {R : α → List Value → Prop} {v : Value} {l : List α} (h : SlRd w sz R v l) : l.length ≤ 9223372036854775807 := by
 obtain ⟨_, cap, _, h2, h3, _⟩ := h
 have : maxLen = 9223372036854775807 := rfl
 omega
theorem sl_none {α : Type} (w : World) (sz : Nat) (R : α → List Value → Prop) : SlRd w sz R (.slice none 0 0) [] := ⟨none, 0, rfl, ⟨fun _ => rfl, Ze _⟩, by decide, fun i h => by simp at h⟩
theorem list_of {α : Type} {P : Nat → α → Prop} : ∀ n, (∀ i, i < n → ∃ a, P i a) → ∃ l : List α, l.length = n ∧ ∀ i (h : i < l.length), P i l[i]
 | 0, _ => ⟨[], rfl, fun i h => by simp at h⟩
 | n + 1, h => by
   obtain ⟨l, hl, hp⟩ := list_of n (fun i hi => h i (by omega))
   obtain ⟨a, ha⟩ := h n (by omega)
   refine ⟨l ++ [a], by simp [hl], fun i hi => ?_⟩
   by_cases h2 : i < l.length
   · rw [List.getElem_append_left h2]; exact hp i h2
   · have h3 : i = l.length := by simp at hi; omega
     subst h3
     simpa [hl] using ha
theorem add_at {a : Addr} (h : a.spot = none) (n : Nat) : a.add n = ⟨a.block, a.off + n, none⟩ := by
 unfold Addr.add
 split
 · rename_i h0; subst h0; cases a; simp_all
 · rfl
theorem spot_of_cell {w : World} {a : Addr} {v : Value} (h : w.cell? a = some v) : a.spot = none := by
 unfold World.cell? at h
 split at h
 · split at h
   · cases h
   · rename_i hs; simpa using hs
 · cases h
theorem Yi0 {P : Program} {w : World} {r : Reach} {base : Nat} {t : TypeId} {v : Value} {fs : Array Field} (ht : P.underlying t = some (.struct fs)) (h : Value.okWide P w r base t v) : ∃ cs, v = .agg cs := by
 simp only [Value.okWide, ht] at h
 obtain ⟨cs, h1, _⟩ := h
 exact ⟨cs, h1⟩
section
variable {H : Type} {enc : TypeId × Value → H} {w : World} {base : Nat} {spare : Nat → Bool} {held : Bool} {fuel : Nat} {t : TypeId} {cs : List Value} {x : DataW H × List MemPlace}
theorem Yh7 {α : Type} {e : TypeId} {sz : Nat} {R : α → List Value → Prop} (ht : Z2.underlying t = some (.slice e)) (hc : Z2.cellsOf e = sz) (h0 : 0 < sz)
 (hR : ∀ n, n < fuel → ∀ cs x, DataW.trod enc Z2 w base spare held n e cs = some x → ∃ a, R a cs) (h : DataW.trod enc Z2 w base spare held fuel t cs = some x) :
 ∃ v l, cs = [v] ∧ SlRd w sz R v l := by
 rcases DataW.trod_slice ht h with ⟨rfl, _⟩ | ⟨a, len, cap, elems, rest, n, hf, rfl, rfl, hb, hl, hm, hlen, hel, _, _⟩
 · exact ⟨_, [], rfl, sl_none _ _ _⟩
 · have each : ∀ i, i < len → ∃ y, ∃ cs', w.cells? base (a.add (i * sz)) sz = some cs' ∧ R y cs' := fun i hi => by
     have h1 := hel i hi
     rw [hc] at h1
     have h2 : i < elems.length := by omega
     rw [Z6 h2, Option.bind_eq_some_iff] at h1
     obtain ⟨cs', h3, h4⟩ := h1
     obtain ⟨y, hy⟩ := hR n (by omega) _ _ h4
     exact ⟨y, cs', h3, hy⟩
   obtain ⟨l, hll, hp⟩ := list_of len each
   subst hll
   refine ⟨_, l, rfl, some a, cap, rfl, ⟨by simp, hl⟩, hm, fun i hi => ?_⟩
   have hs : a.spot = none := by
    obtain ⟨_, cs0, h1, _⟩ := each 0 (by omega)
    have h2 := (World.cells?_some h1).2.2 0 h0
    have h3 : cs0.length = sz := (World.cells?_some h1).2.1
    rw [Z6 (by omega)] at h2
    have := spot_of_cell h2
    simpa [Addr.add] using this
   obtain ⟨cs', h1, h2⟩ := hp i hi
   obtain ⟨_, h3, h4⟩ := World.cells?_some h1
   refine ⟨a.block, a.off, cs', by cases a; simp_all, h3, fun j hj => ?_, h2⟩
   have h5 := h4 j (by omega)
   rw [add_at hs, add_at rfl, Z6 hj] at h5
   exact h5
theorem two_ {cs : List Value} (h : cs.length = 2) : ∃ a b, cs = [a, b] := by
 match cs, h with | [a, b], _ => exact ⟨a, b, rfl⟩
theorem six {cs : List Value} (h : cs.length = 6) : ∃ a b c d e f, cs = [a, b, c, d, e, f] := by
 match cs, h with | [a, b, c, d, e, f], _ => exact ⟨a, b, c, d, e, f, rfl⟩
theorem Ze6 {α : Type} {l : List α} {i : Nat} (h : i < l.length) : ∃ y, l[i]? = some y := ⟨_, Z6 h⟩
theorem fld {fs : Array Field} {n : Nat} {xs : List (DataW H × List MemPlace)} (hf : ∀ (i : Nat) (f : Field), fs[i]? = some f → DataW.trod enc Z2 w base spare held n f.type ((cs.drop f.offset).take (Z2.cellsOf f.type)) = xs[i]?)
 (i ty off k : Nat) {y : DataW H × List MemPlace} (h : (fs[i]?).map (fun f => (f.type, f.offset)) = some (ty, off)) (hc : Z2.cellsOf ty = k) (hx : xs[i]? = some y) : DataW.trod enc Z2 w base spare held n ty ((cs.drop off).take k) = some y := by
 cases hi : fs[i]? with
 | none => rw [hi] at h; cases h
 | some f =>
   rw [hi] at h
   simp only [Option.map_some, Option.some.injEq, Prod.mk.injEq] at h
   obtain ⟨rfl, rfl⟩ := h
   rw [← hx, ← hf i f hi, hc]
theorem c_int : Z2.cellsOf 3 = 1 := by kernel_rfl
theorem c_u8 : Z2.cellsOf 5 = 1 := by kernel_rfl
theorem c_string : Z2.cellsOf 9 = 1 := by kernel_rfl
theorem open_byte (h : DataW.trod enc Z2 w base spare held fuel 5 cs = some x) : ∃ b : UInt8, cs = [.int .u8 b.toNat] := by
 obtain ⟨p, hp, _, wp⟩ := DataW.trod_int Tryz.underlying5 h
 have hb : 0 ≤ p ∧ p ≤ 255 := by
  simp [Lit.wf, IntKind.min, IntKind.max, IntKind.signed, IntKind.bits] at wp
  omega
 refine ⟨UInt8.ofNat p.toNat, ?_⟩
 rw [hp]
 have : ((UInt8.ofNat p.toNat).toNat : Int) = p := by
  rw [UInt8.toNat_ofNat']
  omega
 rw [this]
theorem open_bytes (h : DataW.trod enc Z2 w base spare held fuel 46 cs = some x) : ∃ (v : Value) (l : List UInt8), cs = [v] ∧ rd [] [] w (.sl 1 (byD l)) v := by
 obtain ⟨v, l, e, hs⟩ := Yh7 (R := fun (b : UInt8) cs => cs = [.int .u8 b.toNat]) Tryz.underlying46 c_u8 (by decide) (fun n _ cs x h => open_byte h) h
 exact ⟨v, l, e, Zr8 (f := fun b : UInt8 => [D.v (.int .u8 b.toNat)]) hs fun x _ cs hc => by subst hc; exact ⟨Zv2.2 (rd_v.2 rfl), rfl⟩⟩
theorem c_int64 : Z2.cellsOf 2 = 1 := by kernel_rfl
theorem c_strs : Z2.cellsOf 22 = 1 := by kernel_rfl
theorem c_lats : Z2.cellsOf 23 = 1 := by kernel_rfl
theorem c_rules : Z2.cellsOf 24 = 1 := by kernel_rfl
theorem c_lat : Z2.cellsOf 26 = 6 := by kernel_rfl
theorem c_rule : Z2.cellsOf 131 = 2 := by kernel_rfl
theorem open_strs (h : DataW.trod enc Z2 w base spare held fuel 22 cs = some x) : ∃ (v : Value) (l : List ByteArray), cs = [v] ∧ rd [] [] w (.sl 1 (l.map strX)) v ∧ l.length ≤ 9223372036854775807 ∧ ∀ s ∈ l, s.size ≤ 9223372036854775807 := by
 obtain ⟨v, l, e, hs⟩ := Yh7 (R := fun (s : ByteArray) cs => cs = [.string s] ∧ s.size ≤ maxLen) Tryz.underlying22 c_string (by decide) (fun n _ cs x h => by
   obtain ⟨s, rfl, _, hs⟩ := DataW.trod_string Tryz.underlying9 h
   exact ⟨s, rfl, hs⟩) h
 refine ⟨v, l, e, Zr8 hs fun x _ cs hc => ?_, sl_len hs, fun s hx => ?_⟩
 · obtain ⟨rfl, _⟩ := hc
   exact ⟨Zv2.2 (rd_v.2 rfl), rfl⟩
 · obtain ⟨_, _, hz⟩ := sl_all hs s hx
   exact hz
theorem open_rule (h : DataW.trod enc Z2 w base spare held fuel 131 cs = some x) : ∃ a : Rl, rdL [] [] w (Zh3 a) cs ∧ a.cond.length ≤ 9223372036854775807 ∧ ∀ s ∈ a.cond, s.size ≤ 9223372036854775807 := by
 obtain ⟨xs, n, _, _, hl, hn, hf⟩ := DataW.trod_struct Tryz.underlying131 h
 rw [c_rule] at hl
 obtain ⟨a, b, rfl⟩ := two_ hl
 obtain ⟨y0, e0⟩ := Ze6 (l := xs) (i := 0) (by rw [hn]; decide)
 obtain ⟨y1, e1⟩ := Ze6 (l := xs) (i := 1) (by rw [hn]; decide)
 have h0 : DataW.trod enc Z2 w base spare held n 22 [a] = some y0 := fld hf 0 22 0 1 rfl c_strs e0
 have h1 : DataW.trod enc Z2 w base spare held n 9 [b] = some y1 := fld hf 1 9 1 1 rfl c_string e1
 obtain ⟨v, l, hv, hs, hll, hz⟩ := open_strs h0
 obtain ⟨s, hq, _, ws⟩ := DataW.trod_string Tryz.underlying9 h1
 obtain ⟨rfl⟩ : a = v := by simpa using hv
 obtain ⟨rfl⟩ : b = .string s := by simpa using hq
 exact ⟨⟨l, s⟩, Za5.2 ⟨hs, Zv2.2 (rd_v.2 rfl)⟩, hll, hz⟩
theorem open_lat : ∀ (m : Nat) (fuel : Nat) (cs : List Value) (x : DataW H × List MemPlace), fuel < m → DataW.trod enc Z2 w base spare held fuel 26 cs = some x → ∃ l, rdL [] [] w (latX l) cs ∧ Sm l
 | 0, _, _, _, hm, _ => by omega
 | m + 1, fuel, cs, x, hm, h => by
   obtain ⟨xs, n, hfu, _, hl, hn, hf⟩ := DataW.trod_struct Tryz.underlying26 h
   rw [c_lat] at hl
   obtain ⟨a, b, c, d, e, f, rfl⟩ := six hl
   obtain ⟨y0, e0⟩ := Ze6 (l := xs) (i := 0) (by rw [hn]; decide)
   obtain ⟨y1, e1⟩ := Ze6 (l := xs) (i := 1) (by rw [hn]; decide)
   obtain ⟨y2, e2⟩ := Ze6 (l := xs) (i := 2) (by rw [hn]; decide)
   obtain ⟨y3, e3⟩ := Ze6 (l := xs) (i := 3) (by rw [hn]; decide)
   obtain ⟨y4, e4⟩ := Ze6 (l := xs) (i := 4) (by rw [hn]; decide)
   obtain ⟨y5, e5⟩ := Ze6 (l := xs) (i := 5) (by rw [hn]; decide)
   have h0 : DataW.trod enc Z2 w base spare held n 3 [a] = some y0 := fld hf 0 3 0 1 rfl c_int e0
   have h1 : DataW.trod enc Z2 w base spare held n 2 [b] = some y1 := fld hf 1 2 1 1 rfl c_int64 e1
   have h2 : DataW.trod enc Z2 w base spare held n 2 [c] = some y2 := fld hf 2 2 2 1 rfl c_int64 e2
   have h3 : DataW.trod enc Z2 w base spare held n 22 [d] = some y3 := fld hf 3 22 3 1 rfl c_strs e3
   have h4 : DataW.trod enc Z2 w base spare held n 23 [e] = some y4 := fld hf 4 23 4 1 rfl c_lats e4
   have h5 : DataW.trod enc Z2 w base spare held n 24 [f] = some y5 := fld hf 5 24 5 1 rfl c_rules e5
   obtain ⟨p, hp, _, wp⟩ := DataW.trod_int Tryz.underlying3 h0
   obtain ⟨q, hq, _, wq⟩ := DataW.trod_int Tryz.underlying2 h1
   obtain ⟨r, hr, _, wr⟩ := DataW.trod_int Tryz.underlying2 h2
   obtain ⟨v1, l1, hv1, hs1, hl1, hz1⟩ := open_strs h3
   obtain ⟨v2, l2, hv2, hs2⟩ := Yh7 (R := fun l cs => rdL [] [] w (latX l) cs ∧ Sm l) Tryz.underlying23 c_lat (by decide) (fun k hk cs x hx => open_lat m k cs x (by omega) hx) h4
   obtain ⟨v3, l3, hv3, hs3⟩ := Yh7 (R := fun (a : Rl) cs => rdL [] [] w (Zh3 a) cs ∧ a.cond.length ≤ 9223372036854775807 ∧ ∀ s ∈ a.cond, s.size ≤ 9223372036854775807) Tryz.underlying24 c_rule (by decide) (fun _ _ _ _ h => open_rule h) h5
   obtain ⟨rfl⟩ : a = .int .i64 p := by simpa using hp
   obtain ⟨rfl⟩ : b = .int .i64 q := by simpa using hq
   obtain ⟨rfl⟩ : c = .int .i64 r := by simpa using hr
   obtain ⟨rfl⟩ : d = v1 := by simpa using hv1
   obtain ⟨rfl⟩ : e = v2 := by simpa using hv2
   obtain ⟨rfl⟩ : f = v3 := by simpa using hv3
   refine ⟨.mk p q r l1 l2 l3, ?_, .mk _ hl1 (sl_len hs2) (sl_len hs3) hz1 (fun r hr => ?_) (fun l hl => ?_)⟩
   · rw [Y4]
     exact Za5.2 ⟨rd_v.2 rfl, Za5.2 ⟨rd_v.2 rfl, Za5.2 ⟨rd_v.2 rfl, Za5.2 ⟨hs1, Za5.2 ⟨Zr8 hs2 fun x _ cs hc => ⟨hc.1, Xz x⟩, Zv2.2 (Zr8 hs3 fun x _ cs hc => ⟨hc.1, rfl⟩)⟩⟩⟩⟩⟩
   · obtain ⟨_, h⟩ := sl_all hs3 r hr; exact h.2
   · obtain ⟨_, h⟩ := sl_all hs2 l hl; exact h.2
end
theorem arg_bytes {H : Type} {enc : TypeId × Value → H} {W : World} {v : Value} {d : DataW H} {p : List MemPlace} (h : DataW.Trod enc Z2 W 0 (fun _ => true) true 46 v d p) (hv : ∃ a n c, v = .slice a n c) : ∃ l : List UInt8, rd [] [] W (.sl 1 (byD l)) v := by
 obtain ⟨a, n, c, rfl⟩ := hv
 obtain ⟨fuel, hf⟩ := h
 obtain ⟨v, l, e, hs⟩ := open_bytes hf
 have : v = .slice a n c := by simpa [Value.cells] using e.symm
 subst this
 exact ⟨l, hs⟩
theorem arg_lat {H : Type} {enc : TypeId × Value → H} {W : World} {v : Value} {d : DataW H} {p : List MemPlace} (h : DataW.Trod enc Z2 W 0 (fun _ => true) true 26 v d p) (hv : ∃ cs, v = .agg cs) : ∃ l : Lat, rd [] [] W (.agg (latX l)) v ∧ Sm l := by
 obtain ⟨cs, rfl⟩ := hv
 obtain ⟨fuel, hf⟩ := h
 obtain ⟨l, h1, h2⟩ := open_lat _ fuel _ _ (Nat.lt_succ_self _) hf
 exact ⟨l, by rw [rd]; exact ⟨cs, rfl, h1⟩, h2⟩
theorem walk_of {G : Nat → D} {f : FuncId} {args : List D} {vs : List Value} {W : World} (o : Ok G W [] [] (fun k => decide (k < W.heap.size))) (q : Does Z2 G f [] args (fun h' r => h' = [] ∧ r = .v (.bool true))) (ha : rdL [] [] W args vs) :
 Calls Z2 f vs.toArray W fun e w' => e = .returned (.bool true) ∧ Below W.heap.size W w' := by
 have hs : Sub W (only (fun k => decide (k < W.heap.size)) W) := fun a u hc => by
  rw [Ua, if_pos (by simpa using World.block_lt_of_cell? W _ hc)]; exact hc
 refine (q W [] _ vs o (W3 (.refl _ _) hs _ _ ha)).mono ?_
 rintro e w' ⟨v, hd', h', r, p', rfl, ⟨rfl, rfl⟩, o', hr, ev⟩
 rw [rd] at hr; subst hr
 exact ⟨rfl, ev.os, ev.tape, ev.output, ev.size, fun k hk => ev.keep k hk fun ⟨i, ob, u, q, _⟩ => by simp at q⟩
end
section
structure RS where
 data : List UInt8
 pos : Nat
 item : Nat
 err : Int
def RS.begun (s : RS) : RS := { s with item := s.pos }
def RS.bad (s : RS) : RS := { s with item := s.pos, err := 2 }
def RS.go (s : RS) (c : Nat) : RS := { s with item := s.pos, pos := s.pos + c }
def RS.num (s : RS) : Option (Nat × Nat) := numF 0 (s.data.drop s.pos)
def Yq (s : RS) : Nat × RS := if s.err ≠ 0 then (0, s) else match s.num with
 | none => (0, s.bad)
 | some (n, c) => (n, s.go c)
def Wy (s : RS) : Int × RS := (unzz (Yq s).1, (Yq s).2)
def Yx (s : RS) : Bool × RS := if s.err ≠ 0 then (false, s) else match s.data[s.pos]? with
 | none => (false, s.bad)
 | some b => if 1 < b.toNat then (false, s.bad) else (decide (b.toNat = 1), s.go 1)
def X3 (s : RS) : List UInt8 × RS := if s.err ≠ 0 then ([], s) else match s.num with
 | none => ([], s.bad)
 | some (n, c) => if s.data.length - (s.pos + c) < n then ([], s.bad) else ((s.data.drop (s.pos + c)).take n, s.go (c + n))
def Y6 (s : RS) : Nat × RS := if s.err ≠ 0 then (0, s) else match s.num with
 | none => (0, s.bad)
 | some (n, c) => if s.data.length - (s.pos + c) < n then (0, s.bad) else (n, s.go c)
def RS.fail (s : RS) : RS := if s.err = 0 then { s with err := 2, pos := s.item } else s
def RS.ends (s : RS) : Int := if s.err = 0 ∧ s.pos < s.data.length then 2 else s.err
structure RS.Ok (s : RS) : Prop where
 pos : s.pos ≤ s.data.length
 item : s.item ≤ s.pos
 err : s.err = 0 ∨ s.err = 2
theorem RS.num_some {s : RS} {n c : Nat} (h : s.num = some (n, c)) (ho : s.pos ≤ s.data.length) : s.pos + c ≤ s.data.length ∧ 1 ≤ c ∧ c ≤ 10 ∧ n < 18446744073709551616 := by
 obtain ⟨h1, h2, h3, _, h5, _⟩ := Js _ _ _ _ h
 rw [Z5] at h1
 exact ⟨by omega, h2, by omega, h5⟩
theorem RS.Ok.bad {s : RS} (h : s.Ok) : s.bad.Ok := ⟨h.pos, Ze _, .inr rfl⟩
theorem RS.Ok.go {s : RS} (h : s.Ok) {c : Nat} (hc : s.pos + c ≤ s.data.length) : (s.go c).Ok := ⟨hc, Nat.le_add_right _ _, h.err⟩
theorem RS.Ok.fail {s : RS} (h : s.Ok) : s.fail.Ok := by
 unfold RS.fail
 split
 · exact ⟨Nat.le_trans h.item h.pos, Ze _, .inr rfl⟩
 · exact h
theorem RS.fail_data (s : RS) : s.fail.data = s.data := by unfold RS.fail; split <;> rfl
theorem Us {s : RS} (h : s.Ok) : (Yq s).2.Ok ∧ (Yq s).2.data = s.data ∧ (Yq s).1 < 18446744073709551616 := by
 unfold Yq
 split
 · exact ⟨h, rfl, by show (0 : Nat) < _; omega⟩
 · split
   · exact ⟨h.bad, rfl, by show (0 : Nat) < _; omega⟩
   · rename_i n c hn
     obtain ⟨h1, _, _, h4⟩ := RS.num_some hn h.pos
     exact ⟨h.go h1, rfl, h4⟩
theorem Zs1 {s : RS} (h : s.Ok) : (Wy s).2.Ok ∧ (Wy s).2.data = s.data ∧ (-9223372036854775808 ≤ (Wy s).1 ∧ (Wy s).1 ≤ 9223372036854775807) :=
 ⟨(Us h).1, (Us h).2.1, unzz_bd _ (Us h).2.2⟩
theorem rdBool_ok {s : RS} (h : s.Ok) : (Yx s).2.Ok ∧ (Yx s).2.data = s.data := by
 unfold Yx
 split
 · exact ⟨h, rfl⟩
 · split
   · exact ⟨h.bad, rfl⟩
   · rename_i b hb
     split
     · exact ⟨h.bad, rfl⟩
     · have : s.pos < s.data.length := by
        rcases Nat.lt_or_ge s.pos s.data.length with h' | h'
        · exact h'
        · rw [List.getElem?_eq_none h'] at hb; cases hb
       exact ⟨h.go (by omega), rfl⟩
theorem Vb {s : RS} (h : s.Ok) : (X3 s).2.Ok ∧ (X3 s).2.data = s.data ∧ (X3 s).1.length ≤ s.data.length := by
 unfold X3
 split
 · exact ⟨h, rfl, Za _⟩
 · split
   · exact ⟨h.bad, rfl, Za _⟩
   · rename_i n c hn
     obtain ⟨h1, _, _, h4⟩ := RS.num_some hn h.pos
     split
     · exact ⟨h.bad, rfl, Za _⟩
     · exact ⟨h.go (by omega), rfl, by simp; omega⟩
theorem We {s : RS} (h : s.Ok) : (Y6 s).2.Ok ∧ (Y6 s).2.data = s.data ∧ (Y6 s).1 ≤ s.data.length := by
 unfold Y6
 split
 · exact ⟨h, rfl, Za _⟩
 · split
   · exact ⟨h.bad, rfl, Za _⟩
   · rename_i n c hn
     obtain ⟨h1, _, _, h4⟩ := RS.num_some hn h.pos
     split
     · exact ⟨h.bad, rfl, Za _⟩
     · exact ⟨h.go h1, rfl, by omega⟩
/-! What was read is what was written. -/
structure Took (s t : RS) (bs : List UInt8) : Prop where
 data : t.data = s.data
 pos : t.pos = s.pos + bs.length
 err : s.err = 0 ∧ t.err = 0
 read : s.data.drop s.pos = bs ++ t.data.drop t.pos
theorem Took.trans {s t u : RS} {a b : List UInt8} (h : Took s t a) (k : Took t u b) : Took s u (a ++ b) :=
 ⟨k.data.trans h.data, by rw [k.pos, h.pos, Z1]; omega, ⟨h.err.1, k.err.2⟩, by rw [h.read, k.read, Z4]⟩
theorem Took.refl {s : RS} (h : s.err = 0) : Took s s [] := ⟨rfl, by simp, ⟨h, h⟩, by simp⟩
theorem Zt6 {s : RS} {c : Nat} {bs : List UInt8} (he : s.err = 0) (hc : s.pos + c ≤ s.data.length) (h : (s.data.drop s.pos).take c = bs) : Took s (s.go c) bs := by
 have hl : bs.length = c := by rw [← h, List.length_take, Z5]; omega
 refine ⟨rfl, by rw [hl]; rfl, ⟨he, he⟩, ?_⟩
 rw [← h, show (s.go c).data.drop (s.go c).pos = (s.data.drop s.pos).drop c by rw [Zg]; rfl, List.take_append_drop]
theorem Zu9 {s : RS} (ho : s.Ok) (h : (Yq s).2.err = 0) : Took s (Yq s).2 (Yy (Yq s).1) := by
 unfold Yq at h ⊢
 by_cases he : s.err = 0
 · rw [if_neg (by simp [he])] at h ⊢
   cases hn : s.num with
   | none => rw [hn] at h; exact absurd h (by simp [RS.bad])
   | some p =>
     obtain ⟨n, c⟩ := p
     obtain ⟨h1, _, _, _⟩ := RS.num_some hn ho.pos
     obtain ⟨_, _, _, _, _, h6⟩ := Js _ _ _ _ hn
     exact Zt6 he h1 h6
 · rw [if_pos he] at h; exact absurd h he
theorem Yc0 {s : RS} (ho : s.Ok) (h : (Wy s).2.err = 0) : Took s (Wy s).2 (intE (Wy s).1) := by
 have := Zu9 ho h
 unfold intE Wy
 rw [zz_unzz]
 exact this
theorem rdCount_took {s : RS} (ho : s.Ok) (h : (Y6 s).2.err = 0) : Took s (Y6 s).2 (Yy (Y6 s).1) := by
 unfold Y6 at h ⊢
 by_cases he : s.err = 0
 · rw [if_neg (by simp [he])] at h ⊢
   cases hn : s.num with
   | none => rw [hn] at h; exact absurd h (by simp [RS.bad])
   | some p =>
     obtain ⟨n, c⟩ := p
     obtain ⟨h1, _, _, _⟩ := RS.num_some hn ho.pos
     obtain ⟨_, _, _, _, _, h6⟩ := Js _ _ _ _ hn
     rw [hn] at h
     simp only at h ⊢
     by_cases hb : s.data.length - (s.pos + c) < n
     · rw [if_pos hb] at h; exact absurd h (by simp [RS.bad])
     · rw [if_neg hb] at h ⊢
       exact Zt6 he h1 h6
 · rw [if_pos he] at h; exact absurd h he
theorem rdBytes_took {s : RS} (ho : s.Ok) (h : (X3 s).2.err = 0) : Took s (X3 s).2 (Zg6 (X3 s).1) := by
 unfold X3 at h ⊢
 by_cases he : s.err = 0
 · rw [if_neg (by simp [he])] at h ⊢
   cases hn : s.num with
   | none => rw [hn] at h; exact absurd h (by simp [RS.bad])
   | some p =>
     obtain ⟨n, c⟩ := p
     obtain ⟨h1, _, _, _⟩ := RS.num_some hn ho.pos
     obtain ⟨_, _, _, _, _, h6⟩ := Js _ _ _ _ hn
     rw [hn] at h
     simp only at h ⊢
     by_cases hb : s.data.length - (s.pos + c) < n
     · rw [if_pos hb] at h; exact absurd h (by simp [RS.bad])
     · rw [if_neg hb] at h ⊢
       refine Zt6 he (by omega) ?_
       have hl : ((s.data.drop (s.pos + c)).take n).length = n := by rw [List.length_take, Z5]; omega
       unfold Zg6
       rw [hl, ← h6, List.take_add, Zg]
 · rw [if_pos he] at h; exact absurd h he
theorem Zv5 {s : RS} (_ : s.Ok) (h : (Yx s).2.err = 0) : Took s (Yx s).2 (Zg3 (Yx s).1) := by
 unfold Yx at h ⊢
 by_cases he : s.err = 0
 · rw [if_neg (by simp [he])] at h ⊢
   cases hn : s.data[s.pos]? with
   | none => rw [hn] at h; exact absurd h (by simp [RS.bad])
   | some b =>
     rw [hn] at h
     simp only at h ⊢
     by_cases hb : 1 < b.toNat
     · rw [if_pos hb] at h; exact absurd h (by simp [RS.bad])
     · rw [if_neg hb] at h ⊢
       have hp : s.pos < s.data.length := by
        rcases Nat.lt_or_ge s.pos s.data.length with h' | h'
        · exact h'
        · rw [List.getElem?_eq_none h'] at hn; cases hn
       refine Zt6 he (by omega) ?_
       have hb1 : s.data[s.pos] = b := by rw [Z6 hp] at hn; exact Option.some.inj hn
       rw [List.drop_eq_getElem_cons hp, hb1, List.take_succ_cons, List.take_zero]
       unfold Zg3
       congr 1
       rcases Nat.lt_or_ge b.toNat 1 with h0 | h0
       · have : b.toNat = 0 := by omega
         rw [this]
         exact UInt8.toNat_inj.1 (by simp [this])
       · have : b.toNat = 1 := by omega
         rw [this]
         exact UInt8.toNat_inj.1 (by simp [this])
 · rw [if_pos he] at h; exact absurd h he
/-! What was written is read. -/
theorem num_of {s : RS} {n : Nat} {r : List UInt8} (hn : n < 18446744073709551616) (h : s.data.drop s.pos = Yy n ++ r) : s.num = some (n, (Yy n).length) := by
 unfold RS.num
 rw [h]
 exact Yc3 64 n 0 r hn hn (by omega) (.inl rfl)
theorem rdUint_of {s : RS} {n : Nat} {r : List UInt8} (he : s.err = 0) (hn : n < 18446744073709551616) (h : s.data.drop s.pos = Yy n ++ r) : Yq s = (n, s.go (Yy n).length) := by
 unfold Yq
 rw [if_neg (by simp [he]), num_of hn h]
theorem rdInt_of {s : RS} {n : Int} {r : List UInt8} (he : s.err = 0) (hn : -9223372036854775808 ≤ n ∧ n ≤ 9223372036854775807) (h : s.data.drop s.pos = intE n ++ r) : Wy s = (n, s.go (intE n).length) := by
 unfold Wy
 rw [rdUint_of he (zz_lt n hn.1 hn.2) h]
 show (unzz (zz n), _) = _
 rw [unzz_zz]
 rfl
theorem rdCount_of {s : RS} {n : Nat} {r : List UInt8} (he : s.err = 0) (hp : s.pos ≤ s.data.length) (hn : n < 18446744073709551616) (h : s.data.drop s.pos = Yy n ++ r) (hr : n ≤ r.length) : Y6 s = (n, s.go (Yy n).length) := by
 have hl := congrArg List.length h
 rw [Z5, Z1] at hl
 unfold Y6
 rw [if_neg (by simp [he]), num_of hn h]
 exact if_neg (by omega)
theorem rdBytes_of {s : RS} {b r : List UInt8} (he : s.err = 0) (hp : s.pos ≤ s.data.length) (hn : b.length < 18446744073709551616) (h : s.data.drop s.pos = Zg6 b ++ r) : X3 s = (b, s.go (Zg6 b).length) := by
 have h' : s.data.drop s.pos = Yy b.length ++ (b ++ r) := by rw [h]; unfold Zg6; rw [Z4]
 have hl := congrArg List.length h'
 rw [Z5, Z1, Z1] at hl
 unfold X3
 rw [if_neg (by simp [he]), num_of hn h']
 show (if _ then _ else _) = _
 rw [if_neg (by omega)]
 have e : s.data.drop (s.pos + (Yy b.length).length) = b ++ r := by rw [← Zg, h', List.drop_left]
 rw [e, List.take_left]
 unfold Zg6
 rw [Z1]
theorem rdBool_of {s : RS} {b : Bool} {r : List UInt8} (he : s.err = 0) (h : s.data.drop s.pos = Zg3 b ++ r) : Yx s = (b, s.go 1) := by
 have hp : s.pos < s.data.length := by
  have hl := congrArg List.length h
  rw [Z5, Z1] at hl
  have : (Zg3 b).length = 1 := rfl
  omega
 have hg : s.data[s.pos]? = some (if b then 1 else 0) := by
  have := congrArg (fun l => l[0]?) h
  simp only [List.getElem?_drop, Nat.add_zero] at this
  rw [this]
  rfl
 unfold Yx
 rw [if_neg (by simp [he]), hg]
 cases b <;> rfl
theorem go_pos {s : RS} {a r : List UInt8} (hp : s.pos ≤ s.data.length) (h : s.data.drop s.pos = a ++ r) : (s.go a.length).pos ≤ (s.go a.length).data.length := by
 have hl := congrArg List.length h
 rw [Z5, Z1] at hl
 show s.pos + a.length ≤ s.data.length
 omega
end
section
def strOf (l : List UInt8) : ByteArray := ⟨l.toArray⟩
theorem strOf_size (l : List UInt8) : (strOf l).size = l.length := rfl
def Y9 (s : RS) : ByteArray × RS := (strOf (X3 s).1, (X3 s).2)
def Yi {α : Type} (f : RS → α × RS) : Nat → RS → List α × RS
 | 0, s => ([], s)
 | n + 1, s => if s.err = 0 then ((f s).1 :: (Yi f n (f s).2).1, (Yi f n (f s).2).2) else ([], s)
theorem Zh4 {α : Type} (f : RS → α × RS) (s : RS) : Yi f 0 s = ([], s) := rfl
theorem Jq {α : Type} (f : RS → α × RS) (n : Nat) (s : RS) (h : s.err ≠ 0) : Yi f n s = ([], s) := by
 cases n with
 | zero => rfl
 | succ n => unfold Yi; rw [if_neg h]
theorem Jp {α : Type} (f : RS → α × RS) (n : Nat) (s : RS) (h : s.err = 0) : Yi f (n + 1) s = ((f s).1 :: (Yi f n (f s).2).1, (Yi f n (f s).2).2) := by
 conv => lhs; unfold Yi
 rw [if_pos h]
def LoopAt {α : Type} (R : List α × RS) (f : RS → α × RS) (acc : List α) (k : Nat) (s : RS) : Prop := R = (acc ++ (Yi f k s).1, (Yi f k s).2)
theorem LoopAt.start {α : Type} (f : RS → α × RS) (k : Nat) (s : RS) : LoopAt (Yi f k s) f [] k s := rfl
theorem LoopAt.step {α : Type} {R : List α × RS} {f : RS → α × RS} {acc : List α} {k : Nat} {s : RS} (h : LoopAt R f acc (k + 1) s) (he : s.err = 0) : LoopAt R f (acc ++ [(f s).1]) k (f s).2 := by
 unfold LoopAt at h ⊢
 rw [h, Jp f k s he, Z4]
 rfl
theorem LoopAt.end0 {α : Type} {R : List α × RS} {f : RS → α × RS} {acc : List α} {s : RS} (h : LoopAt R f acc 0 s) : R = (acc, s) := by
 unfold LoopAt at h
 rw [h, Zh4, Z9]
theorem LoopAt.endE {α : Type} {R : List α × RS} {f : RS → α × RS} {acc : List α} {k : Nat} {s : RS} (h : LoopAt R f acc k s) (he : s.err ≠ 0) : R = (acc, s) := by
 unfold LoopAt at h
 rw [h, Jq f k s he, Z9]
structure Tks {α : Type} (f : RS → α × RS) (enc : α → List UInt8) : Prop where
 ok : ∀ s, s.Ok → (f s).2.Ok ∧ (f s).2.data = s.data
 took : ∀ s, s.Ok → (f s).2.err = 0 → Took s (f s).2 (enc (f s).1)
theorem Xy : Tks Y9 Xq := ⟨fun _ h => ⟨(Vb h).1, (Vb h).2.1⟩, fun s h he => rdBytes_took h he⟩
theorem J6 {α : Type} {f : RS → α × RS} {enc : α → List UInt8} (hf : Tks f enc) : ∀ (n : Nat) (s : RS), s.Ok → (Yi f n s).2.Ok ∧ (Yi f n s).2.data = s.data
 | 0, s, h => ⟨h, rfl⟩
 | n + 1, s, h => by
   by_cases he : s.err = 0
   · rw [Jp f n s he]
     obtain ⟨h1, h2⟩ := hf.ok s h
     obtain ⟨h3, h4⟩ := J6 hf n _ h1
     exact ⟨h3, h4.trans h2⟩
   · rw [Jq f _ s he]
     exact ⟨h, rfl⟩
theorem Zv1 {α : Type} {f : RS → α × RS} {enc : α → List UInt8} (hf : Tks f enc) : ∀ (n : Nat) (s : RS), s.Ok → (Yi f n s).2.err = 0 → Took s (Yi f n s).2 ((Yi f n s).1.flatMap enc) ∧ (Yi f n s).1.length = n
 | 0, s, _, he => ⟨Took.refl he, rfl⟩
 | n + 1, s, h, he => by
   by_cases h0 : s.err = 0
   · rw [Jp f n s h0] at he ⊢
     obtain ⟨h1, h2⟩ := hf.ok s h
     obtain ⟨h3, h4⟩ := Zv1 hf n _ h1 he
     refine ⟨?_, by simp only [Zc, h4]⟩
     rw [Z7]
     exact (hf.took s h h3.err.1).trans h3
   · rw [Jq f _ s h0] at he
     exact absurd he h0
def Vx {α : Type} (f : RS → α × RS) (s : RS) : List α × RS := Yi f (Y6 s).1 (Y6 s).2
theorem Wb {α : Type} {f : RS → α × RS} {enc : α → List UInt8} (hf : Tks f enc) : Tks (Vx f) fun l => Yy l.length ++ l.flatMap enc := ⟨fun s h => by
    obtain ⟨h1, h2, _⟩ := We h
    obtain ⟨h3, h4⟩ := J6 hf (Y6 s).1 _ h1
    exact ⟨h3, h4.trans h2⟩, fun s h he => by
    obtain ⟨h1, h2, _⟩ := We h
    obtain ⟨h3, h4⟩ := Zv1 hf (Y6 s).1 _ h1 he
    have t := (rdCount_took h h3.err.1).trans h3
    show Took s _ (Yy (Vx f s).1.length ++ _)
    rw [show (Vx f s).1.length = (Y6 s).1 from h4]
    exact t⟩
def Rds {α : Type} (f : RS → α × RS) (x : α) (bs : List UInt8) : Prop := ∀ (s : RS) (r : List UInt8), s.Ok → s.err = 0 → s.data.length < 18446744073709551616 → s.data.drop s.pos = bs ++ r → ∃ s', f s = (x, s') ∧ s'.Ok ∧ Took s s' bs
theorem Zj3 {s t : RS} {bs r : List UInt8} (h : Took s t bs) (hr : s.data.drop s.pos = bs ++ r) : t.data.drop t.pos = r := by
 have := h.read
 rw [hr] at this
 exact (List.append_cancel_left this).symm
theorem Ye7 {s t : RS} {bs : List UInt8} (h : Took s t bs) : t.data.length = s.data.length := congrArg List.length h.data
theorem rds_go {s : RS} {bs r : List UInt8} (ho : s.Ok) (he : s.err = 0) (hr : s.data.drop s.pos = bs ++ r) : (s.go bs.length).Ok ∧ Took s (s.go bs.length) bs := by
 have hp := go_pos ho.pos hr
 refine ⟨ho.go hp, Zt6 he hp ?_⟩
 rw [hr, List.take_left]
theorem rds_uint {n : Nat} (hn : n < 18446744073709551616) : Rds Yq n (Yy n) := fun s r ho he _ hr => ⟨_, rdUint_of he hn hr, rds_go ho he hr⟩
theorem rds_int {n : Int} (hn : -9223372036854775808 ≤ n ∧ n ≤ 9223372036854775807) : Rds Wy n (intE n) := fun s r ho he _ hr => ⟨_, rdInt_of he hn hr, rds_go ho he hr⟩
theorem J3 (q : ByteArray) : Rds Y9 q (Xq q) := fun s r ho he hl hr => by
  have hb : s.data.drop s.pos = Zg6 q.data.toList ++ r := hr
  have hlen := congrArg List.length hb
  rw [Z5, Z1] at hlen
  unfold Zg6 at hlen
  rw [Z1] at hlen
  refine ⟨_, ?_, rds_go ho he hb⟩
  unfold Y9
  rw [rdBytes_of he ho.pos (by omega) hb]
  rfl
theorem Rds.bind {α β γ : Type} {f : RS → α × RS} {x : α} {a : List UInt8} (hf : Rds f x a) {g : RS → β × RS} {y : β} {b : List UInt8} (hg : Rds g y b) {h : RS → γ × RS} {z : γ} (hh : ∀ s s' s'', f s = (x, s') → g s' = (y, s'') → h s = (z, s'')) : Rds h z (a ++ b) := fun s r ho he hl hr => by
  rw [Z4] at hr
  obtain ⟨s', h1, h2, h3⟩ := hf s _ ho he hl hr
  obtain ⟨s'', h4, h5, h6⟩ := hg s' r h2 h3.err.2 (by rw [Ye7 h3]; exact hl) (Zj3 h3 hr)
  exact ⟨s'', hh s s' s'' h1 h4, h5, h3.trans h6⟩
theorem rds_loop {α : Type} {f : RS → α × RS} {enc : α → List UInt8} : ∀ (l : List α), (∀ x ∈ l, Rds f x (enc x)) → Rds (Yi f l.length) l (l.flatMap enc)
 | [], _ => fun s r ho he hl hr => ⟨s, rfl, ho, Took.refl he⟩
 | x :: t, h => fun s r ho he hl hr => by
   rw [Z7, Z4] at hr
   obtain ⟨s', h1, h2, h3⟩ := h x (by simp) s _ ho he hl hr
   obtain ⟨s'', h4, h5, h6⟩ := rds_loop t (fun y hy => h y (by simp [hy])) s' r h2 h3.err.2 (by rw [Ye7 h3]; exact hl) (Zj3 h3 hr)
   refine ⟨s'', ?_, h5, by rw [Z7]; exact h3.trans h6⟩
   show Yi f (t.length + 1) s = _
   rw [Jp f _ s he, h1, h4]
theorem Zx9 {α : Type} {enc : α → List UInt8} (h1 : ∀ x, 1 ≤ (enc x).length) : ∀ l : List α, l.length ≤ (l.flatMap enc).length
 | [] => Za _
 | x :: t => by
   rw [Z7, Z1, Zc]
   have := h1 x
   have := Zx9 h1 t
   omega
theorem J4 {α : Type} {f : RS → α × RS} {enc : α → List UInt8} (h1 : ∀ x, 1 ≤ (enc x).length) (l : List α) (h : ∀ x ∈ l, Rds f x (enc x)) : Rds (Vx f) l (Yy l.length ++ l.flatMap enc) := fun s r ho he hl hr => by
  rw [Z4] at hr
  have hlen := congrArg List.length hr
  rw [Z5, Z1, Z1] at hlen
  have := Zx9 h1 l
  have hc := rdCount_of he ho.pos (n := l.length) (by omega) hr (by rw [Z1]; omega)
  obtain ⟨h2, h3⟩ := rds_go ho he hr
  obtain ⟨s'', h4, h5, h6⟩ := rds_loop l h _ r h2 h3.err.2 hl (Zj3 h3 hr)
  refine ⟨s'', ?_, h5, h3.trans h6⟩
  unfold Vx
  rw [hc]
  exact h4
theorem Jl (n : Nat) : 1 ≤ (Yy n).length := by
 by_cases h : n < 128
 · rw [Ze8 h]; exact Ze _
 · rw [Zj1 (by omega), Zc]; omega
theorem Zj5 (s : ByteArray) : 1 ≤ (Xq s).length := by
 unfold Xq
 rw [Z1]
 have := Jl s.size
 omega
end
section
def strC (s t : ByteArray) : Int := if Jf s t then -1 else if s = t then 0 else 1
def lexC {α : Type} (c : α → α → Int) : List α → List α → Int
 | [], [] => 0
 | [], _ :: _ => -1
 | _ :: _, [] => 1
 | x :: s, y :: t => if c x y ≠ 0 then c x y else lexC c s t
theorem Zl9 {α : Type} (c : α → α → Int) (a b : List α) (k : Nat) (ha : k < a.length) (hb : b.length ≤ k) : lexC c (a.drop k) (b.drop k) = 1 := by
 rw [Wx a k ha, Zb hb]; rfl
theorem Zm0 {α : Type} (c : α → α → Int) (a b : List α) (k : Nat) (ha : a.length ≤ k) : lexC c (a.drop k) (b.drop k) = if k < b.length then -1 else 0 := by
 rw [Zb ha]
 by_cases h : k < b.length
 · rw [Wx b k h, if_pos h]; rfl
 · rw [Zb (by omega), if_neg h]; rfl
def Je (a b : Tk) : Int := orI [cmpI a.process b.process, cmpI a.n b.n]
def entC (a b : En) : Int := orI [strC a.name b.name, lexC Je a.clock b.clock]
/-! The order. -/
mutual
def valC : Val → Val → Int
 | .mk n ns ps es, b => if cmpI n b.n ≠ 0 then cmpI n b.n else if lexC strC ns b.names ≠ 0 then lexC strC ns b.names
   else if valsC ps b.parts ≠ 0 then valsC ps b.parts else lexC entC es b.entries
def valsC : List Val → List Val → Int
 | [], [] => 0
 | [], _ :: _ => -1
 | _ :: _, [] => 1
 | x :: s, y :: t => if valC x y ≠ 0 then valC x y else valsC s t
end
theorem valsC_eq : ∀ (a b : List Val), valsC a b = lexC valC a b
 | [], [] => by rw [valsC, lexC]
 | [], _ :: _ => by rw [valsC, lexC]
 | _ :: _, [] => by rw [valsC, lexC]
 | x :: s, y :: t => by rw [valsC, lexC, valsC_eq s t]
theorem valC_eq (a b : Val) : valC a b = if cmpI a.n b.n ≠ 0 then cmpI a.n b.n else if lexC strC a.names b.names ≠ 0 then lexC strC a.names b.names
 else if lexC valC a.parts b.parts ≠ 0 then lexC valC a.parts b.parts else lexC entC a.entries b.entries := by
 cases a with
 | mk n ns ps es => rw [valC, valsC_eq]; rfl
/-! The bottom. -/
def Zg2 : Val := .mk 0 [] [] []
mutual
def botV : Lat → Val
 | .mk k lo hi _ ps _ => if k = 2 then .mk lo [] [] [] else if k = 3 then .mk hi [] [] [] else if k = 6 ∨ k = 7 then .mk 0 [] (botVs ps) [] else Zg2
def botVs : List Lat → List Val
 | [] => []
 | p :: t => botV p :: botVs t
end
theorem botVs_eq : ∀ l, botVs l = l.map botV
 | [] => by rw [botVs]; rfl
 | p :: t => by rw [botVs, botVs_eq t]; rfl
/-! Elements. -/
def Vf (v : Val) (n list parts entries : Bool) : Bool := (n || decide (v.n = 0)) && (list || decide (v.names.length = 0)) && (parts || decide (v.parts.length = 0)) && (entries || decide (v.entries.length = 0))
def memB (only : List ByteArray) (s : ByteArray) : Bool := Wg s && (decide (only.length = 0) || hasS only s)
def Yw (only list : List ByteArray) : Bool := W6 list && list.all (memB only)
def Jk (rs : List Rl) (list : List ByteArray) : Bool := rs.all fun r => !Wo r.cond list || hasS list r.concl
def Zz9 (last : Int) (t : Tk) : Bool := decide (last < t.process ∧ t.process ≤ 63 ∧ 1 ≤ t.n ∧ t.n ≤ 1000000000000000)
def X6 : Int → List Tk → Bool
 | _, [] => true
 | last, t :: r => Zz9 last t && X6 t.process r
def Xk (c : List Tk) : Bool := X6 (-1) c
def Vu (p k : Int) (r : List Tk) : List Tk := if 0 < k then ⟨p, k⟩ :: r else r
def Xp (ch : Int → Int → Int) : List Tk → List Tk → List Tk
 | [], [] => []
 | x :: a, [] => Vu x.process (ch x.n 0) (Xp ch a [])
 | [], y :: b => Vu y.process (ch 0 y.n) (Xp ch [] b)
 | x :: a, y :: b => if x.process < y.process then Vu x.process (ch x.n 0) (Xp ch a (y :: b)) else if y.process < x.process then Vu y.process (ch 0 y.n) (Xp ch (x :: a) b)
   else Vu x.process (ch x.n y.n) (Xp ch a b)
 termination_by a b => a.length + b.length
def Zh9 (m n : Int) : Int := if n < m then m else 0
def J9 (a b : List Tk) : List Tk := Xp Zh9 a b
def U1 (a b : List Tk) : Int := if !Xk a || !Xk b then 3
 else if (J9 a b).length = 0 ∧ (J9 b a).length = 0 then 0 else if (J9 a b).length = 0 then 1 else if (J9 b a).length = 0 then 2 else 3
def Zd6 (list : List En) (k : Nat) (e : En) : Bool :=
 decide (e.clock.length ≠ 0) && Xk e.clock && Wg e.name && (match list[k - 1]? with
  | some p => decide (k = 0 ∨ entC p e < 0)
  | none => true) && (list.take k).all fun f => !(U1 e.clock f.clock == 1 || U1 e.clock f.clock == 2)
def Zn8 (list : List En) : Nat → List En → Bool
 | _, [] => true
 | k, e :: t => Zd6 list k e && Zn8 list (k + 1) t
def regB (list : List En) : Bool := Zn8 list 0 list
mutual
def Yt : Lat → Val → Bool
 | .mk k lo hi ns ps rs, v =>
   if k = 1 then Vf v true false false false && decide (v.n = 0 ∨ v.n = 1)
   else if k = 2 ∨ k = 3 then Vf v true false false false && decide (lo ≤ v.n ∧ v.n ≤ hi)
   else if k = 4 then Vf v false true false false && Yw ns v.names
   else if k = 10 then Vf v false true false false && Yw ns v.names && Jk rs v.names
   else if k = 8 then (if v.n = 0 ∨ v.n = 2 then Vf v true false false false else if v.n = 1 then Vf v true true false false && decide (v.names.length = 1) && Yw ns v.names else false)
   else if k = 9 then Vf v false false false true && regB v.entries
   else if k = 5 then Vf v false true true false && decide (v.names.length = v.parts.length) && Yw ns v.names && mapB ps v.parts
   else Vf v false false true false && decide (v.parts.length = ps.length) && Vm ps v.parts
def mapB : List Lat → List Val → Bool
 | [], _ => true
 | p :: _, vs => vs.all fun v => Yt p v && decide (valC v (botV p) ≠ 0)
def Vm : List Lat → List Val → Bool
 | p :: ps, v :: vs => Yt p v && Vm ps vs
 | [], _ => true
 | _ :: _, [] => true
end
def validB (l : Lat) (v : Val) : Bool := decide (chkE l = 0) && Yt l v
/-! The size. -/
mutual
def nodesN : Val → Nat
 | .mk _ ns ps es => 1 + ns.length + es.length + nodesNs ps + (es.map fun e => e.clock.length).sum
def nodesNs : List Val → Nat
 | [] => 0
 | v :: t => nodesN v + nodesNs t
end
/-! The encoding. -/
def Ya7 : List Tk → List UInt8
 | [] => []
 | t :: r => Yy t.process.toNat ++ (Yy t.n.toNat ++ Ya7 r)
def Wt (e : En) : List UInt8 := Yy e.clock.length ++ (Ya7 e.clock ++ Xq e.name)
def Zs9 : List En → List UInt8
 | [] => []
 | e :: r => Wt e ++ Zs9 r
def textsE : List ByteArray → List UInt8
 | [] => []
 | s :: r => Xq s ++ textsE r
mutual
def putV : Lat → Val → List UInt8
 | .mk k _ _ _ ps _, v =>
   if k = 1 then Zg3 (decide (v.n = 1))
   else if k = 2 ∨ k = 3 then intE v.n
   else if k = 4 ∨ k = 10 then Yy v.names.length ++ textsE v.names
   else if k = 5 then Yy v.names.length ++ putMap ps v.names v.parts
   else if k = 8 then Yy v.n.toNat ++ (if v.n = 1 then Xq (v.names.headD Zd) else [])
   else if k = 9 then Yy v.entries.length ++ Zs9 v.entries
   else Jr ps v.parts
def putMap : List Lat → List ByteArray → List Val → List UInt8
 | [], _, _ => []
 | p :: _, ns, vs => (ns.zip vs).flatMap fun x => Xq x.1 ++ putV p x.2
def Jr : List Lat → List Val → List UInt8
 | p :: ps, v :: vs => putV p v ++ Jr ps vs
 | [], _ => []
 | _ :: _, [] => []
end
def Yp (m : Nat) (s : RS) : Nat × RS := (if m < (Yq s).1 then 0 else (Yq s).1, if m < (Yq s).1 then (Yq s).2.fail else (Yq s).2)
def J5 (s : RS) : Tk × RS := (⟨((Yp 63 s).1 : Nat), ((Yp 1000000000000000 (Yp 63 s).2).1 : Nat)⟩, (Yp 1000000000000000 (Yp 63 s).2).2)
def Zv4 (s : RS) : List Tk × RS := Yi J5 (Y6 s).1 (Y6 s).2
def Vz (s : RS) : En × RS := (⟨(Zv4 s).1, (Y9 (Zv4 s).2).1⟩, (Y9 (Zv4 s).2).2)
def Xn (f : RS → Val × RS) (s : RS) : (ByteArray × Val) × RS := (((Y9 s).1, (f (Y9 s).2).1), (f (Y9 s).2).2)
mutual
def X0 : Lat → RS → Val × RS
 | .mk k _ _ _ ps _, s =>
   if k = 1 then (.mk (if (Yx s).1 then 1 else 0) [] [] [], (Yx s).2)
   else if k = 2 ∨ k = 3 then (.mk (Wy s).1 [] [] [], (Wy s).2)
   else if k = 4 ∨ k = 10 then (.mk 0 (Yi Y9 (Y6 s).1 (Y6 s).2).1 [] [], (Yi Y9 (Y6 s).1 (Y6 s).2).2)
   else if k = 5 then (.mk 0 ((Yg5 ps (Y6 s).1 (Y6 s).2).1.map Prod.fst) ((Yg5 ps (Y6 s).1 (Y6 s).2).1.map Prod.snd) [], (Yg5 ps (Y6 s).1 (Y6 s).2).2)
   else if k = 8 then (if (Yp 2 s).1 = 1 then (.mk 1 [(Y9 (Yp 2 s).2).1] [] [], (Y9 (Yp 2 s).2).2) else (.mk ((Yp 2 s).1 : Nat) [] [] [], (Yp 2 s).2))
   else if k = 9 then (.mk 0 [] [] (Yi Vz (Y6 s).1 (Y6 s).2).1, (Yi Vz (Y6 s).1 (Y6 s).2).2)
   else (.mk 0 [] (Yu ps s).1 [], (Yu ps s).2)
def Yg5 : List Lat → Nat → RS → List (ByteArray × Val) × RS
 | [], _, s => ([], s)
 | p :: _, n, s => Yi (Xn (X0 p)) n s
def Yu : List Lat → RS → List Val × RS
 | [], s => ([], s)
 | p :: ps, s => ((X0 p s).1 :: (Yu ps (X0 p s).2).1, (Yu ps (X0 p s).2).2)
end
end
section
theorem walk_nn (ch : Int → Int → Int) : Xp ch [] [] = [] := by rw [Xp]
theorem walk_cn (ch : Int → Int → Int) (x : Tk) (a : List Tk) : Xp ch (x :: a) [] = Vu x.process (ch x.n 0) (Xp ch a []) := by rw [Xp]
theorem walk_nc (ch : Int → Int → Int) (y : Tk) (b : List Tk) : Xp ch [] (y :: b) = Vu y.process (ch 0 y.n) (Xp ch [] b) := by rw [Xp]
theorem walk_lt (ch : Int → Int → Int) (x y : Tk) (a b : List Tk) (h : x.process < y.process) : Xp ch (x :: a) (y :: b) = Vu x.process (ch x.n 0) (Xp ch a (y :: b)) := by rw [Xp, if_pos h]
theorem walk_gt (ch : Int → Int → Int) (x y : Tk) (a b : List Tk) (h : y.process < x.process) : Xp ch (x :: a) (y :: b) = Vu y.process (ch 0 y.n) (Xp ch (x :: a) b) := by rw [Xp, if_neg (by omega), if_pos h]
theorem walk_eq (ch : Int → Int → Int) (x y : Tk) (a b : List Tk) (h : y.process = x.process) : Xp ch (x :: a) (y :: b) = Vu x.process (ch x.n y.n) (Xp ch a b) := by rw [Xp, if_neg (by omega), if_neg (by omega)]
theorem Zm7 : ∀ (c : List Tk) (l : Int), -1 ≤ l → X6 l c = true → c.length ≤ (63 - l).toNat
 | [], l, _, _ => Za _
 | t :: r, l, hl, h => by
   rw [X6, Z0] at h
   have h1 : l < t.process ∧ t.process ≤ 63 ∧ 1 ≤ t.n ∧ t.n ≤ 1000000000000000 := of_decide_eq_true h.1
   have := Zm7 r t.process (by omega) h.2
   simp only [Zc]
   omega
theorem Zp1 {c : List Tk} (h : Xk c = true) : c.length ≤ 64 := Zm7 c (-1) (by omega) h
def pairB (e f : En) : Bool := !((U1 e.clock f.clock == 1) || (U1 e.clock f.clock == 2))
theorem regGo_step (list : List En) (k : Nat) (h : k < list.length) : Zn8 list k (list.drop k) = (Zd6 list k list[k] && Zn8 list (k + 1) (list.drop (k + 1))) := by
 rw [Wx list k h, Zn8]
end
section
theorem Jz {v : Val} {n list parts entries : Bool} : Vf v n list parts entries = true ↔ (n = true ∨ v.n = 0) ∧ (list = true ∨ v.names = []) ∧ (parts = true ∨ v.parts = []) ∧ (entries = true ∨ v.entries = []) := by
 unfold Vf
 simp only [Z0, Bool.or_eq_true, decide_eq_true_eq, List.length_eq_zero_iff, and_assoc]
section
variable {k lo hi : Int} {ns : List ByteArray} {ps : List Lat} {rs : List Rl} {v : Val}
theorem isE_1 : Yt (.mk 1 lo hi ns ps rs) v = true ↔ (v.n = 0 ∨ v.n = 1) ∧ v.names = [] ∧ v.parts = [] ∧ v.entries = [] := by
 rw [Yt, if_pos (by rfl), Z0, Jz, decide_eq_true_eq]
 simp only [Z3, false_or, true_or, true_and]
 exact and_comm
theorem isE_23 (e : k = 2 ∨ k = 3) : Yt (.mk k lo hi ns ps rs) v = true ↔ (lo ≤ v.n ∧ v.n ≤ hi) ∧ v.names = [] ∧ v.parts = [] ∧ v.entries = [] := by
 rw [Yt, if_neg (by omega), if_pos e, Z0, Jz, decide_eq_true_eq]
 simp only [Z3, false_or, true_or, true_and]
 exact and_comm
theorem isE_4 : Yt (.mk 4 lo hi ns ps rs) v = true ↔ (v.n = 0 ∧ v.parts = [] ∧ v.entries = []) ∧ Yw ns v.names = true := by
 rw [Yt, if_neg (by decide), if_neg (by decide), if_pos (by rfl), Z0, Jz]
 simp only [Z3, false_or, true_or, true_and]
theorem isE_10 : Yt (.mk 10 lo hi ns ps rs) v = true ↔ (v.n = 0 ∧ v.parts = [] ∧ v.entries = []) ∧ Yw ns v.names = true ∧ Jk rs v.names = true := by
 rw [Yt, if_neg (by decide), if_neg (by decide), if_neg (by decide), if_pos (by rfl), Z0, Z0, Jz]
 simp only [Z3, false_or, true_or, true_and, and_assoc]
theorem isE_410 (e : k = 4 ∨ k = 10) (h : Yt (.mk k lo hi ns ps rs) v = true) : (v.n = 0 ∧ v.parts = [] ∧ v.entries = []) ∧ Yw ns v.names = true := by
 rcases e with rfl | rfl
 · exact isE_4.1 h
 · exact ⟨(isE_10.1 h).1, (isE_10.1 h).2.1⟩
theorem isE_8 : Yt (.mk 8 lo hi ns ps rs) v = true ↔ v.parts = [] ∧ v.entries = [] ∧ ((v.n = 0 ∧ v.names = []) ∨ (v.n = 2 ∧ v.names = []) ∨ (v.n = 1 ∧ v.names.length = 1 ∧ Yw ns v.names = true)) := by
 rw [Yt, if_neg (by decide), if_neg (by decide), if_neg (by decide), if_neg (by decide), if_pos (by rfl)]
 by_cases h02 : v.n = 0 ∨ v.n = 2
 · rw [if_pos h02, Jz]
   simp only [Z3, false_or, true_or, true_and]
   constructor
   · rintro ⟨a, b, c⟩
     refine ⟨b, c, ?_⟩
     rcases h02 with h | h
     · exact .inl ⟨h, a⟩
     · exact .inr (.inl ⟨h, a⟩)
   · rintro ⟨b, c, h | h | h⟩
     · exact ⟨h.2, b, c⟩
     · exact ⟨h.2, b, c⟩
     · omega
 · rw [if_neg h02]
   by_cases h1 : v.n = 1
   · rw [if_pos h1, Z0, Z0, Jz, decide_eq_true_eq]
     simp only [Z3, false_or, true_or, true_and]
     constructor
     · rintro ⟨⟨⟨a, b⟩, c⟩, d⟩
       exact ⟨a, b, .inr (.inr ⟨h1, c, d⟩)⟩
     · rintro ⟨b, c, h | h | h⟩
       · omega
       · omega
       · exact ⟨⟨⟨b, c⟩, h.2.1⟩, h.2.2⟩
   · rw [if_neg h1]
     constructor
     · intro h; cases h
     · rintro ⟨_, _, h | h | h⟩ <;> omega
theorem isE_9 : Yt (.mk 9 lo hi ns ps rs) v = true ↔ (v.n = 0 ∧ v.names = [] ∧ v.parts = []) ∧ regB v.entries = true := by
 rw [Yt, if_neg (by decide), if_neg (by decide), if_neg (by decide), if_neg (by decide), if_neg (by decide), if_pos (by rfl), Z0, Jz]
 simp only [Z3, false_or, true_or, true_and, and_true]
theorem isE_5 : Yt (.mk 5 lo hi ns ps rs) v = true ↔ (v.n = 0 ∧ v.entries = []) ∧ v.names.length = v.parts.length ∧ Yw ns v.names = true ∧ mapB ps v.parts = true := by
 rw [Yt, if_neg (by decide), if_neg (by decide), if_neg (by decide), if_neg (by decide), if_neg (by decide), if_neg (by decide), if_pos (by rfl), Z0, Z0, Z0, Jz, decide_eq_true_eq]
 simp only [Z3, false_or, true_or, true_and, and_assoc]
theorem isE_67 (e : k = 6 ∨ k = 7) : Yt (.mk k lo hi ns ps rs) v = true ↔ (v.n = 0 ∧ v.names = [] ∧ v.entries = []) ∧ v.parts.length = ps.length ∧ Vm ps v.parts = true := by
 rw [Yt, if_neg (by omega), if_neg (by omega), if_neg (by omega), if_neg (by omega), if_neg (by omega), if_neg (by omega), if_neg (by omega), Z0, Z0, Jz, decide_eq_true_eq]
 simp only [Z3, false_or, true_or, true_and, and_assoc]
end
theorem mapB_one (p : Lat) (vs : List Val) : mapB [p] vs = true ↔ ∀ v ∈ vs, Yt p v = true ∧ valC v (botV p) ≠ 0 := by
 rw [mapB, List.all_eq_true]
 constructor
 · intro h v hv
   have := h v hv
   rw [Z0, decide_eq_true_eq] at this
   exact this
 · intro h v hv
   rw [Z0, decide_eq_true_eq]
   exact h v hv
theorem Yd3 : ∀ (ps : List Lat) (vs : List Val), vs.length = ps.length → (Vm ps vs = true ↔ ∀ i (h : i < ps.length) (h' : i < vs.length), Yt ps[i] vs[i] = true)
 | [], [], _ => ⟨fun _ i h => by simp at h, fun _ => by rw [Vm]⟩
 | [], _ :: _, h => by simp at h
 | _ :: _, [], h => by simp at h
 | p :: ps, v :: vs, h => by
   rw [Vm, Z0, Yd3 ps vs (by simpa using h)]
   constructor
   · rintro ⟨h1, h2⟩ i hi hi'
     cases i with
     | zero => exact h1
     | succ i => exact h2 i (by simpa using hi) (by simpa using hi')
   · intro h
     exact ⟨h 0 (by simp) (by simp), fun i hi hi' => h (i + 1) (by simpa using hi) (by simpa using hi')⟩
theorem Yk2 {only list : List ByteArray} (h : Yw only list = true) : ∀ s ∈ list, Wg s = true := fun s hs => by
  unfold Yw at h
  rw [Z0] at h
  have := List.all_eq_true.1 h.2 s hs
  unfold memB at this
  rw [Z0] at this
  exact this.1
theorem name_le {s : ByteArray} (h : Wg s = true) : 1 ≤ s.size ∧ s.size ≤ 16 := by
 unfold Wg at h
 rw [Z0] at h
 exact of_decide_eq_true h.1
/-! What was read. -/
theorem Xb (m : Nat) {s : RS} (h : s.Ok) : (Yp m s).2.Ok ∧ (Yp m s).2.data = s.data := by
 unfold Yp
 obtain ⟨h1, h2, _⟩ := Us h
 show (if m < (Yq s).1 then (Yq s).2.fail else (Yq s).2).Ok ∧ (if m < (Yq s).1 then (Yq s).2.fail else (Yq s).2).data = s.data
 split
 · exact ⟨h1.fail, (RS.fail_data _).trans h2⟩
 · exact ⟨h1, h2⟩
theorem fail_err (s : RS) : s.fail.err ≠ 0 := by
 unfold RS.fail
 split
 · exact fun h => absurd (show (2 : Int) = 0 from h) (by decide)
 · assumption
theorem Wl (m : Nat) {s : RS} (h : s.Ok) (he : (Yp m s).2.err = 0) : Took s (Yp m s).2 (Yy (Yp m s).1) := by
 by_cases hm : m < (Yq s).1
 · have : (Yp m s).2 = (Yq s).2.fail := if_pos hm
   rw [this] at he
   exact absurd he (fail_err _)
 · have e : Yp m s = Yq s := by
    unfold Yp
    rw [if_neg hm, if_neg hm]
   rw [e] at he ⊢
   exact Zu9 h he
theorem Zq8 : Tks J5 fun t => Yy t.process.toNat ++ Yy t.n.toNat := ⟨fun s h => by
    obtain ⟨h1, h2⟩ := Xb 63 h
    obtain ⟨h3, h4⟩ := Xb 1000000000000000 h1
    exact ⟨h3, h4.trans h2⟩, fun s h he => by
    obtain ⟨h1, h2⟩ := Xb 63 h
    have t2 := Wl 1000000000000000 h1 he
    exact (Wl 63 h t2.err.1).trans t2⟩
theorem Zc4 : ∀ l : List Tk, Ya7 l = l.flatMap fun t => Yy t.process.toNat ++ Yy t.n.toNat
  | [] => rfl
  | t :: r => by rw [Ya7, Z7, Zc4 r, Z4]
theorem Zy2 : ∀ l : List En, Zs9 l = l.flatMap Wt
 | [] => rfl
 | t :: r => by rw [Zs9, Z7, Zy2 r]
theorem textsE_eq : ∀ l : List ByteArray, textsE l = l.flatMap Xq
 | [] => rfl
 | t :: r => by rw [textsE, Z7, textsE_eq r]
theorem Zt7 : Tks Vz Wt := ⟨fun s h => by
    obtain ⟨h1, h2⟩ := (Wb Zq8).ok s h
    obtain ⟨h3, h4⟩ := Xy.ok _ h1
    exact ⟨h3, h4.trans h2⟩, fun s h he => by
    obtain ⟨h1, h2⟩ := (Wb Zq8).ok s h
    have t2 := Xy.took _ h1 he
    have t1 := (Wb Zq8).took s h t2.err.1
    have t := t1.trans t2
    unfold Wt
    rw [Zc4, ← Z4]
    exact t⟩
theorem Zr1 {f : RS → Val × RS} {enc : Val → List UInt8} (hf : Tks f enc) : Tks (Xn f) fun x => Xq x.1 ++ enc x.2 := ⟨fun s h => by
    obtain ⟨h1, h2⟩ := Xy.ok s h
    obtain ⟨h3, h4⟩ := hf.ok _ h1
    exact ⟨h3, h4.trans h2⟩, fun s h he => by
    obtain ⟨h1, h2⟩ := Xy.ok s h
    have t2 := hf.took _ h1 he
    exact (Xy.took s h t2.err.1).trans t2⟩
theorem Wj {l p : Lat} (h : p ∈ l.parts) : SizeOf.sizeOf p < SizeOf.sizeOf l := by
 cases l
 have := List.sizeOf_lt_of_mem h
 simp only [Lat.parts] at this
 simp only [Lat.mk.sizeOf_spec]
 omega
theorem Zc8 : ∀ (ps : List Lat), (∀ p ∈ ps, ∀ s, s.Ok → (X0 p s).2.Ok ∧ (X0 p s).2.data = s.data) → ∀ s : RS, s.Ok → (Yu ps s).2.Ok ∧ (Yu ps s).2.data = s.data
 | [], _, s, h => by rw [Yu]; exact ⟨h, rfl⟩
 | p :: t, H, s, h => by
   rw [Yu]
   obtain ⟨h1, h2⟩ := H p (by simp) s h
   obtain ⟨h3, h4⟩ := Zc8 t (fun q hq => H q (by simp [hq])) _ h1
   exact ⟨h3, h4.trans h2⟩
theorem Zg5 : ∀ (ps : List Lat), (∀ p ∈ ps, Tks (X0 p) (putV p)) → ∀ s : RS, s.Ok → (Yu ps s).2.err = 0 → Took s (Yu ps s).2 (Jr ps (Yu ps s).1) ∧ (Yu ps s).1.length = ps.length
 | [], _, s, h, he => by rw [Yu] at he ⊢; exact ⟨by rw [Jr]; exact Took.refl he, rfl⟩
 | p :: t, H, s, h, he => by
   rw [Yu] at he ⊢
   obtain ⟨h1, h2⟩ := (H p (by simp)).ok s h
   obtain ⟨h3, h4⟩ := Zg5 t (fun q hq => H q (by simp [hq])) _ h1 he
   refine ⟨?_, by simp only [Zc, h4]⟩
   rw [Jr]
   exact ((H p (by simp)).took s h h3.err.1).trans h3
theorem Yg4 {lo hi : Int} {ns : List ByteArray} {ps : List Lat} {rs : List Rl} (s : RS) : X0 (.mk 1 lo hi ns ps rs) s = (.mk (if (Yx s).1 then 1 else 0) [] [] [], (Yx s).2) := by rw [X0]; rfl
theorem Zr7 {k lo hi : Int} {ns : List ByteArray} {ps : List Lat} {rs : List Rl} (hk : k = 2 ∨ k = 3) (s : RS) : X0 (.mk k lo hi ns ps rs) s = (.mk (Wy s).1 [] [] [], (Wy s).2) := by
 rw [X0, if_neg (by omega), if_pos hk]
theorem Zk4 {k lo hi : Int} {ns : List ByteArray} {ps : List Lat} {rs : List Rl} (hk : k = 4 ∨ k = 10) (s : RS) : X0 (.mk k lo hi ns ps rs) s = (.mk 0 (Vx Y9 s).1 [] [], (Vx Y9 s).2) := by
 rw [X0, if_neg (by omega), if_neg (by omega), if_pos hk]; rfl
theorem Yg3 {lo hi : Int} {ns : List ByteArray} {p : Lat} {rs : List Rl} (s : RS) : X0 (.mk 5 lo hi ns [p] rs) s = (.mk 0 ((Vx (Xn (X0 p)) s).1.map Prod.fst) ((Vx (Xn (X0 p)) s).1.map Prod.snd) [], (Vx (Xn (X0 p)) s).2) := by
 rw [X0, if_neg (by decide), if_neg (by decide), if_neg (by decide), if_pos (by rfl)]
 simp only [Yg5]
 rfl
theorem Zn9 {lo hi : Int} {ns : List ByteArray} {ps : List Lat} {rs : List Rl} (s : RS) : X0 (.mk 8 lo hi ns ps rs) s = if (Yp 2 s).1 = 1 then (.mk 1 [(Y9 (Yp 2 s).2).1] [] [], (Y9 (Yp 2 s).2).2) else (.mk ((Yp 2 s).1 : Nat) [] [] [], (Yp 2 s).2) := by
 rw [X0, if_neg (by decide), if_neg (by decide), if_neg (by decide), if_neg (by decide), if_pos (by rfl)]
theorem Yg2 {lo hi : Int} {ns : List ByteArray} {ps : List Lat} {rs : List Rl} (s : RS) : X0 (.mk 9 lo hi ns ps rs) s = (.mk 0 [] [] (Vx Vz s).1, (Vx Vz s).2) := by
 rw [X0, if_neg (by decide), if_neg (by decide), if_neg (by decide), if_neg (by decide), if_neg (by decide), if_pos (by rfl)]; rfl
theorem Zr6 {k lo hi : Int} {ns : List ByteArray} {ps : List Lat} {rs : List Rl} (hk : k = 6 ∨ k = 7) (s : RS) : X0 (.mk k lo hi ns ps rs) s = (.mk 0 [] (Yu ps s).1 [], (Yu ps s).2) := by
 rw [X0, if_neg (by omega), if_neg (by omega), if_neg (by omega), if_neg (by omega), if_neg (by omega), if_neg (by omega)]
theorem putV_1 {lo hi : Int} {ns : List ByteArray} {ps : List Lat} {rs : List Rl} (v : Val) : putV (.mk 1 lo hi ns ps rs) v = Zg3 (decide (v.n = 1)) := by rw [putV, if_pos (by rfl)]
theorem Zw4 {k lo hi : Int} {ns : List ByteArray} {ps : List Lat} {rs : List Rl} (hk : k = 2 ∨ k = 3) (v : Val) : putV (.mk k lo hi ns ps rs) v = intE v.n := by
 rw [putV, if_neg (by omega), if_pos hk]
theorem Zk8 {k lo hi : Int} {ns : List ByteArray} {ps : List Lat} {rs : List Rl} (hk : k = 4 ∨ k = 10) (v : Val) : putV (.mk k lo hi ns ps rs) v = Yy v.names.length ++ v.names.flatMap Xq := by
 rw [putV, if_neg (by omega), if_neg (by omega), if_pos hk, textsE_eq]
theorem putV_5 {lo hi : Int} {ns : List ByteArray} {p : Lat} {rs : List Rl} (v : Val) : putV (.mk 5 lo hi ns [p] rs) v = Yy v.names.length ++ (v.names.zip v.parts).flatMap fun x => Xq x.1 ++ putV p x.2 := by
  rw [putV, if_neg (by decide), if_neg (by decide), if_neg (by decide), if_pos (by rfl), putMap]
theorem putV_8 {lo hi : Int} {ns : List ByteArray} {ps : List Lat} {rs : List Rl} (v : Val) : putV (.mk 8 lo hi ns ps rs) v = Yy v.n.toNat ++ (if v.n = 1 then Xq (v.names.headD Zd) else []) := by
 rw [putV, if_neg (by decide), if_neg (by decide), if_neg (by decide), if_neg (by decide), if_pos (by rfl)]
theorem putV_9 {lo hi : Int} {ns : List ByteArray} {ps : List Lat} {rs : List Rl} (v : Val) : putV (.mk 9 lo hi ns ps rs) v = Yy v.entries.length ++ v.entries.flatMap Wt := by
 rw [putV, if_neg (by decide), if_neg (by decide), if_neg (by decide), if_neg (by decide), if_neg (by decide), if_pos (by rfl), Zy2]
theorem Zw3 {k lo hi : Int} {ns : List ByteArray} {ps : List Lat} {rs : List Rl} (hk : k = 6 ∨ k = 7) (v : Val) : putV (.mk k lo hi ns ps rs) v = Jr ps v.parts := by
 rw [putV, if_neg (by omega), if_neg (by omega), if_neg (by omega), if_neg (by omega), if_neg (by omega), if_neg (by omega)]
theorem Vc {k : Int} (h : 1 ≤ k ∧ k ≤ 10) : k = 1 ∨ (k = 2 ∨ k = 3) ∨ (k = 4 ∨ k = 10) ∨ k = 5 ∨ (k = 6 ∨ k = 7) ∨ k = 8 ∨ k = 9 := by omega
theorem zip_map {α β : Type} : ∀ l : List (α × β), (l.map Prod.fst).zip (l.map Prod.snd) = l
 | [] => rfl
 | (a, b) :: t => by simp [zip_map t]
theorem Zr0 (f : Nat) : ∀ l : Lat, SizeOf.sizeOf l ≤ f → WfL l → Tks (X0 l) (putV l) := by
 induction f with
 | zero => intro l hn; cases l; simp at hn
 | succ f ih =>
   intro l hn hwf
   have hk := hwf.kinds
   have hp : ∀ p ∈ l.parts, Tks (X0 p) (putV p) := fun p hp => ih p (by have := Wj hp; omega) (hwf.part hp)
   obtain ⟨k, lo, hi, ns, ps, rs⟩ := l
   simp only [Lat.kind, Lat.lo, Lat.hi, Lat.names, Lat.parts, Lat.rules] at hk hp
   rcases Vc hk.1 with rfl | e | e | rfl | e | rfl | rfl
   · refine ⟨fun s h => ?_, fun s h he => ?_⟩
     · rw [Yg4]; exact rdBool_ok h
     · rw [Yg4] at he ⊢
       have := Zv5 h he
       rw [putV_1]
       simp only [Val.n]
       cases hb : (Yx s).1 <;> rw [hb] at this <;> exact this
   · refine ⟨fun s h => ?_, fun s h he => ?_⟩
     · rw [Zr7 e]; exact ⟨(Zs1 h).1, (Zs1 h).2.1⟩
     · rw [Zr7 e] at he ⊢
       rw [Zw4 e]
       exact Yc0 h he
   · refine ⟨fun s h => ?_, fun s h he => ?_⟩
     · rw [Zk4 e]; exact (Wb Xy).ok s h
     · rw [Zk4 e] at he ⊢
       rw [Zk8 e]
       exact (Wb Xy).took s h he
   · obtain ⟨p, rfl⟩ := Zf.1 (hk.2.1 rfl)
     have hq := Wb (Zr1 (hp p (by simp)))
     refine ⟨fun s h => ?_, fun s h he => ?_⟩
     · rw [Yg3]; exact hq.ok s h
     · rw [Yg3] at he ⊢
       rw [putV_5]
       simp only [Val.names, Val.parts, zip_map, List.length_map]
       exact hq.took s h he
   · refine ⟨fun s h => ?_, fun s h he => ?_⟩
     · rw [Zr6 e]; exact Zc8 ps (fun p hpm => (hp p hpm).ok) s h
     · rw [Zr6 e] at he ⊢
       rw [Zw3 e]
       exact (Zg5 ps hp s h he).1
   · refine ⟨fun s h => ?_, fun s h he => ?_⟩
     · rw [Zn9]
       obtain ⟨h1, h2⟩ := Xb 2 h
       split
       · obtain ⟨h3, h4⟩ := Xy.ok _ h1
         exact ⟨h3, h4.trans h2⟩
       · exact ⟨h1, h2⟩
     · rw [Zn9] at he ⊢
       obtain ⟨h1, h2⟩ := Xb 2 h
       rw [putV_8]
       by_cases h8 : (Yp 2 s).1 = 1
       · rw [if_pos h8] at he ⊢
         simp only [Val.n, Val.names, if_true, List.headD_cons]
         have t2 := Xy.took _ h1 he
         have t1 := Wl 2 h t2.err.1
         rw [h8] at t1
         exact t1.trans t2
       · rw [if_neg h8] at he ⊢
         rw [show (if (Val.mk ((Yp 2 s).1 : Nat) [] [] []).n = 1 then Xq ((Val.mk ((Yp 2 s).1 : Nat) [] [] []).names.headD Zd) else []) = [] from if_neg (by show ¬ (((Yp 2 s).1 : Nat) : Int) = 1; omega), Z9]
         exact Wl 2 h he
   · refine ⟨fun s h => ?_, fun s h he => ?_⟩
     · rw [Yg2]; exact (Wb Zt7).ok s h
     · rw [Yg2] at he ⊢
       rw [putV_9]
       exact (Wb Zt7).took s h he
/-! What was written. -/
theorem rds_bool (b : Bool) : Rds Yx b (Zg3 b) := fun s r ho he _ hr => ⟨_, rdBool_of he hr, rds_go ho he hr⟩
theorem Vk {m n : Nat} (hn : n ≤ m) (hm : m < 18446744073709551616) : Rds (Yp m) n (Yy n) := fun s r ho he hl hr => by
  obtain ⟨s', h1, h2⟩ := rds_uint (n := n) (by omega) s r ho he hl hr
  refine ⟨s', ?_, h2⟩
  unfold Yp
  rw [h1, if_neg (by omega), if_neg (by omega)]
theorem rds_tick {t : Tk} (h1 : 0 ≤ t.process ∧ t.process ≤ 63) (h2 : 0 ≤ t.n ∧ t.n ≤ 1000000000000000) : Rds J5 t (Yy t.process.toNat ++ Yy t.n.toNat) :=
 (Vk (m := 63) (n := t.process.toNat) (by omega) (by decide)).bind (Vk (m := 1000000000000000) (n := t.n.toNat) (by omega) (by decide)) fun s s' s'' e1 e2 => by
   unfold J5
   rw [e1, e2]
   obtain ⟨p, n⟩ := t
   simp only at h1 h2 ⊢
   rw [Int.toNat_of_nonneg h1.1, Int.toNat_of_nonneg h2.1]
theorem Zo5 (e : En) : 1 ≤ (Wt e).length := by
 unfold Wt
 rw [Z1]
 have := Jl e.clock.length
 omega
theorem Un : ∀ (last : Int) (c : List Tk), -1 ≤ last → X6 last c = true → ∀ t ∈ c, (0 ≤ t.process ∧ t.process ≤ 63) ∧ (0 ≤ t.n ∧ t.n ≤ 1000000000000000)
 | _, [], _, _, t, h => by simp at h
 | last, x :: r, hl, hc, t, h => by
   rw [X6, Z0] at hc
   have hx : last < x.process ∧ x.process ≤ 63 ∧ 1 ≤ x.n ∧ x.n ≤ 1000000000000000 := of_decide_eq_true hc.1
   rcases List.mem_cons.1 h with rfl | h
   · omega
   · exact Un x.process r (by omega) hc.2 t h
theorem rds_entry {e : En} (h : Xk e.clock = true) : Rds Vz e (Wt e) := by
 unfold Wt
 rw [Zc4, ← Z4]
 refine (J4 (f := J5) (fun t => by rw [Z1]; have := Jl t.process.toNat; omega) e.clock fun t ht => ?_).bind (J3 e.name) fun s s' s'' e1 e2 => ?_
 · obtain ⟨a, b⟩ := Un (-1) e.clock (by omega) h t ht
   exact rds_tick a b
 · unfold Vz
   rw [show Zv4 s = (e.clock, s') from e1, e2]
theorem Zk3 (list : List En) : ∀ (k : Nat) (l : List En), Zn8 list k l = true → ∀ e ∈ l, Xk e.clock = true ∧ Wg e.name = true
 | _, [], _, e, h => by simp at h
 | k, x :: t, hr, e, h => by
   rw [Zn8, Z0] at hr
   rcases List.mem_cons.1 h with rfl | h
   · have := hr.1
     unfold Zd6 at this
     simp only [Z0] at this
     exact ⟨this.1.1.1.2, this.1.1.2⟩
   · exact Zk3 list (k + 1) t hr.2 e h
theorem rds_parts : ∀ (ps : List Lat) (vs : List Val), vs.length = ps.length → Vm ps vs = true → (∀ p ∈ ps, ∀ v, Yt p v = true → Rds (X0 p) v (putV p v)) → Rds (Yu ps) vs (Jr ps vs)
 | [], [], _, _, _ => fun s r ho he hl hr => ⟨s, by rw [Yu], ho, by rw [Jr]; exact Took.refl he⟩
 | [], _ :: _, h, _, _ => by simp at h
 | _ :: _, [], h, _, _ => by simp at h
 | p :: ps, v :: vs, hl, he, H => by
   rw [Vm, Z0] at he
   rw [Jr]
   refine (H p (by simp) v he.1).bind (rds_parts ps vs (by simpa using hl) he.2 fun q hq => H q (by simp [hq])) fun s s' s'' e1 e2 => ?_
   rw [Yu, e1, e2]
theorem rds_read (f : Nat) : ∀ (l : Lat) (v : Val), SizeOf.sizeOf l ≤ f → WfL l → Yt l v = true → Rds (X0 l) v (putV l v) := by
 induction f with
 | zero => intro l v hn; cases l; simp at hn
 | succ f ih =>
   intro l v hn hwf hel
   have hk := hwf.kinds
   have hrg : ¬ _ := of_decide_eq_false hwf.ranges
   have hp : ∀ p ∈ l.parts, ∀ v, Yt p v = true → Rds (X0 p) v (putV p v) := fun p hp v => ih p v (by have := Wj hp; omega) (hwf.part hp)
   obtain ⟨k, lo, hi, ns, ps, rs⟩ := l
   simp only [Lat.kind, Lat.lo, Lat.hi, Lat.names, Lat.parts, Lat.rules] at hk hp hrg
   rcases Vc hk.1 with rfl | e | e | rfl | e | rfl | rfl
   · have hu := isE_1.1 hel
     obtain ⟨vn, vns, vps, ves⟩ := v
     simp only [Val.n, Val.names, Val.parts, Val.entries] at hu
     obtain ⟨hn, rfl, rfl, rfl⟩ := hu
     rw [putV_1]
     intro s r ho he hl hr
     obtain ⟨s', h1, h2⟩ := rds_bool _ s r ho he hl hr
     refine ⟨s', ?_, h2⟩
     rw [Yg4, h1]
     rcases hn with rfl | rfl <;> rfl
   · have hu := (isE_23 e).1 hel
     obtain ⟨vn, vns, vps, ves⟩ := v
     simp only [Val.n, Val.names, Val.parts, Val.entries] at hu
     obtain ⟨hn, rfl, rfl, rfl⟩ := hu
     rw [Zw4 e]
     intro s r ho he hl hr
     obtain ⟨s', h1, h2⟩ := rds_int (n := vn) (by omega) s r ho he hl hr
     refine ⟨s', ?_, h2⟩
     rw [Zr7 e, h1]
   · have hu := isE_410 e hel
     obtain ⟨vn, vns, vps, ves⟩ := v
     simp only [Val.n, Val.names, Val.parts, Val.entries] at hu
     obtain ⟨⟨rfl, rfl, rfl⟩, _⟩ := hu
     rw [Zk8 e]
     intro s r ho he hl hr
     obtain ⟨s', h1, h2⟩ := J4 (f := Y9) Zj5 vns (fun x _ => J3 x) s r ho he hl hr
     refine ⟨s', ?_, h2⟩
     rw [Zk4 e, h1]
   · have hu := isE_5.1 hel
     obtain ⟨vn, vns, vps, ves⟩ := v
     simp only [Val.n, Val.names, Val.parts, Val.entries] at hu
     obtain ⟨⟨rfl, rfl⟩, hlen, _, hm⟩ := hu
     obtain ⟨p, rfl⟩ := Zf.1 (hk.2.1 rfl)
     rw [mapB_one] at hm
     rw [putV_5]
     simp only [Val.names, Val.parts]
     have hz : (vns.zip vps).length = vns.length := by rw [List.length_zip]; omega
     intro s r ho he hl hr
     rw [← hz] at hr
     obtain ⟨s', h1, h2⟩ := J4 (f := Xn (X0 p)) (enc := fun x => Xq x.1 ++ putV p x.2) (fun x => by rw [Z1]; have := Zj5 x.1; omega) (vns.zip vps) (fun x hx => by
       obtain ⟨a, b⟩ := x
       have hb := (List.of_mem_zip hx).2
       exact (J3 a).bind (hp p (by simp) b (hm b hb).1) fun s s' s'' e1 e2 => by
         unfold Xn
         rw [e1, e2]) s r ho he hl hr
     rw [hz] at h2
     refine ⟨s', ?_, h2⟩
     rw [Yg3, h1, List.map_fst_zip (by omega), List.map_snd_zip (by omega)]
   · have hu := (isE_67 e).1 hel
     obtain ⟨vn, vns, vps, ves⟩ := v
     simp only [Val.n, Val.names, Val.parts, Val.entries] at hu
     obtain ⟨⟨rfl, rfl, rfl⟩, hlen, hm⟩ := hu
     rw [Zw3 e]
     intro s r ho he hl hr
     obtain ⟨s', h1, h2⟩ := rds_parts ps vps hlen hm hp s r ho he hl hr
     refine ⟨s', ?_, h2⟩
     rw [Zr6 e, h1]
   · have hu := isE_8.1 hel
     obtain ⟨vn, vns, vps, ves⟩ := v
     simp only [Val.n, Val.names, Val.parts, Val.entries] at hu
     obtain ⟨rfl, rfl, hu⟩ := hu
     rw [putV_8]
     rcases hu with ⟨rfl, rfl⟩ | ⟨rfl, rfl⟩ | ⟨rfl, hlen, _⟩
     · rw [show (if (Val.mk 0 [] [] []).n = 1 then Xq ((Val.mk 0 [] [] []).names.headD Zd) else []) = [] from if_neg (by decide), Z9]
       intro s r ho he hl hr
       obtain ⟨s', h1, h2⟩ := Vk (m := 2) (n := 0) (by decide) (by decide) s r ho he hl hr
       exact ⟨s', by rw [Zn9, h1]; rfl, h2⟩
     · rw [show (if (Val.mk 2 [] [] []).n = 1 then Xq ((Val.mk 2 [] [] []).names.headD Zd) else []) = [] from if_neg (by decide), Z9]
       intro s r ho he hl hr
       obtain ⟨s', h1, h2⟩ := Vk (m := 2) (n := 2) (by decide) (by decide) s r ho he hl hr
       exact ⟨s', by rw [Zn9, h1]; rfl, h2⟩
     · obtain ⟨q, rfl⟩ := Zf.1 hlen
       exact (Vk (m := 2) (n := 1) (by decide) (by decide)).bind (J3 q) fun s s' s'' e1 e2 => by
         rw [Zn9, e1]
         show (if (1 : Nat) = 1 then _ else _) = _
         rw [if_pos rfl, e2]
   · have hu := isE_9.1 hel
     obtain ⟨vn, vns, vps, ves⟩ := v
     simp only [Val.n, Val.names, Val.parts, Val.entries] at hu
     obtain ⟨⟨rfl, rfl, rfl⟩, hreg⟩ := hu
     rw [putV_9]
     intro s r ho he hl hr
     obtain ⟨s', h1, h2⟩ := J4 (f := Vz) Zo5 ves (fun x hx => rds_entry (Zk3 ves 0 ves hreg x hx).1) s r ho he hl hr
     refine ⟨s', ?_, h2⟩
     rw [Yg2, h1]
/-! The decoder. -/
def Xv (l : Lat) (b : List UInt8) : Val × Int :=
 if chkE l ≠ 0 then (Zg2, 1) else if (X0 l ⟨b, 0, 0, 0⟩).2.ends ≠ 0 ∨ Yt l (X0 l ⟨b, 0, 0, 0⟩).1 = false then (Zg2, 2) else ((X0 l ⟨b, 0, 0, 0⟩).1, 0)
theorem Ju (b : List UInt8) : RS.Ok ⟨b, 0, 0, 0⟩ := ⟨Za _, Ze _, .inl rfl⟩
theorem Zi5 {l : Lat} (hl : chkE l = 0) (b : List UInt8) (v : Val) (hb : b.length < 18446744073709551616) : Xv l b = (v, 0) ↔ Yt l v = true ∧ b = putV l v := by
 have hwf := Ze5 hl
 unfold Xv
 rw [if_neg (fun h => h hl)]
 constructor
 · intro h
   by_cases hc : (X0 l ⟨b, 0, 0, 0⟩).2.ends ≠ 0 ∨ Yt l (X0 l ⟨b, 0, 0, 0⟩).1 = false
   · rw [if_pos hc] at h
     injection h with _ h
     exact absurd h (by decide)
   · rw [if_neg hc] at h
     injection h with h _
     subst h
     have hel : Yt l (X0 l ⟨b, 0, 0, 0⟩).1 = true := by
      cases h : Yt l (X0 l ⟨b, 0, 0, 0⟩).1
      · exact absurd (.inr h) hc
      · rfl
     refine ⟨hel, ?_⟩
     have hends : (X0 l ⟨b, 0, 0, 0⟩).2.ends = 0 := Decidable.byContradiction fun h => hc (.inl h)
     unfold RS.ends at hends
     have hT := Zr0 _ l (Ze _) hwf
     obtain ⟨hok, hd⟩ := hT.ok _ (Ju b)
     by_cases h0 : (X0 l ⟨b, 0, 0, 0⟩).2.err = 0
     · have ht := hT.took _ (Ju b) h0
       have hnot : ¬ (X0 l ⟨b, 0, 0, 0⟩).2.pos < (X0 l ⟨b, 0, 0, 0⟩).2.data.length := fun h => by
         rw [if_pos ⟨h0, h⟩] at hends
         exact absurd hends (by decide)
       have hr := ht.read
       rw [show (X0 l ⟨b, 0, 0, 0⟩).2.data.drop (X0 l ⟨b, 0, 0, 0⟩).2.pos = [] from Zb (by omega), Z9] at hr
       exact hr
     · rw [if_neg (fun h => h0 h.1)] at hends
       exact absurd hends h0
 · rintro ⟨hel, rfl⟩
   obtain ⟨s', h1, h2, h3⟩ := rds_read _ l v (Ze _) hwf hel ⟨putV l v, 0, 0, 0⟩ [] (Ju _) rfl hb (by rw [Z9]; rfl)
   rw [h1]
   have hd := h3.data
   have hp := h3.pos
   simp only at hd hp ⊢
   have he : s'.ends = 0 := by
    unfold RS.ends
    rw [if_neg (by rw [hd, hp]; omega)]
    exact h3.err.2
   rw [if_neg (by rw [he, hel]; simp)]
end
section
attribute [local irreducible] on aOp
attribute [local go_sem] decide_true decide_false Bool.not_true Bool.not_false
attribute [local simp] byD_len
def cmpC (a b : Cmd) : Int := orI [cmpI a.client b.client, cmpI a.seq b.seq, Lib.compareBytes (encC a) (encC b)]
variable (G : Nat → D) (hG : ∀ g, low 0 (G g))
include hG
end
section
variable {P : Program} {G : Nat → D} {h : List Ob} {f : FuncId} {args : List D}
theorem Does.drop {K K' : List Ob → D → Prop} (hG : ∀ g, low 0 (G g)) (q : Does P G f h args K) (k : ∀ h' r, K h' r → ∃ m, h.length ≤ m ∧ m ≤ h'.length ∧ lowH m (h'.take m) ∧ low m (cvD (fun i => decide (m ≤ i)) h' r) ∧ K' (h'.take m) (cvD (fun i => decide (m ≤ i)) h' r)) : Does P G f h args K' := fun w hd p vs o ha => by
 refine (q w hd p vs o ha).mono ?_
 rintro e w' ⟨v, hd', h', r, p', rfl, hK, ok, hr, ev⟩
 obtain ⟨m, h2, h3, h4, h5, h6⟩ := k _ _ hK
 obtain ⟨p2, o2, ev2, cv⟩ := ok.give fun i => decide (m ≤ i)
 have htk : (Zi0 (fun i => decide (m ≤ i)) h').take m = h'.take m := by
  apply List.ext_getElem?
  intro i
  rw [List.getElem?_take, List.getElem?_take]
  split
  · rename_i hi
    unfold Zi0
    rw [List.getElem?_mapIdx]
    cases h'[i]? with
    | none => rfl
    | some ob => simp [show ¬ m ≤ i by omega]
  · rfl
 have hlk : (Zi0 (fun i => decide (m ≤ i)) h').length = h'.length := by simp [Zi0]
 have o3 := o2.take (m := m) (by rw [htk]; exact h4) fun g => Zl7 (Za _) _ (hG g)
 have ev3 := (ev.trans ev2).take o h2 (by rw [hlk]; exact h3)
 have q3 := Zo0 (m := m) (by rw [hlk, ok.len]) _ _ h5 (cv _ _ hr)
 rw [htk] at o3 ev3 q3
 exact ⟨v, _, _, _, p2, rfl, h6, o3, q3, ev3⟩
end
end Go.Proofs.YtmdjnaobllajmaaGreatDoor
