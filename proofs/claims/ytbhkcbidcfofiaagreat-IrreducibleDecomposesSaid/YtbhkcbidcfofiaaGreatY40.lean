/-
  What the statements of the chapter share, part 40: RWI.
-/
import Derived.Test.YtbhkcbidcfofiaaGreatY15
import Derived.Test.YtbhkcbidcfofiaaGreatY38
set_option linter.unusedVariables false
set_option linter.unusedSimpArgs false
set_option maxRecDepth 100000
set_option maxHeartbeats 8000000
namespace Go.Proofs.YtbhkcbidcfofiaaGreat
open _root_.Go.Proofs.Tryz renaming prog → Z0
open Go.RowKit
section
section
variable {H : Type} {enc : TypeId × Value → H} {w : World} {base : Nat} {spare : Nat → Bool} {held : Bool} {fuel : Nat} {cs : List Value} {x : DataW H × List MemPlace}
theorem c_vals : Z0.cellsOf 27 = 1 := by kernel_rfl
theorem c_val : Z0.cellsOf 30 = 4 := by kernel_rfl
theorem c_ents : Z0.cellsOf 28 = 1 := by kernel_rfl
theorem c_ent : Z0.cellsOf 69 = 2 := by kernel_rfl
theorem c_ticks : Z0.cellsOf 67 = 1 := by kernel_rfl
theorem c_tick : Z0.cellsOf 84 = 2 := by kernel_rfl
theorem four_ {cs : List Value} (h : cs.length = 4) : ∃ a b c d, cs = [a, b, c, d] := by
 match cs, h with | [a, b, c, d], _ => exact ⟨a, b, c, d, rfl⟩
theorem open_tick (h : DataW.trod enc Z0 w base spare held fuel 84 cs = some x) : ∃ a : Tk, rdL [] [] w (tkX a) cs := by
 obtain ⟨xs, n, _, _, hl, hn, hf⟩ := DataW.trod_struct Tryz.underlying84 h
 rw [c_tick] at hl
 obtain ⟨a, b, rfl⟩ := two_ hl
 obtain ⟨y0, e0⟩ := Vp (l := xs) (i := 0) (by rw [hn]; decide)
 obtain ⟨y1, e1⟩ := Vp (l := xs) (i := 1) (by rw [hn]; decide)
 have h0 : DataW.trod enc Z0 w base spare held n 3 [a] = some y0 := fld hf 0 3 0 1 rfl c_int e0
 have h1 : DataW.trod enc Z0 w base spare held n 2 [b] = some y1 := fld hf 1 2 1 1 rfl Yr6 e1
 obtain ⟨p, hp, _, _⟩ := DataW.trod_int Tryz.underlying3 h0
 obtain ⟨q, hq, _, _⟩ := DataW.trod_int Tryz.underlying2 h1
 obtain ⟨rfl⟩ : a = .int .i64 p := by simpa using hp
 obtain ⟨rfl⟩ : b = .int .i64 q := by simpa using hq
 exact ⟨⟨p, q⟩, Vu.2 ⟨rd_v.2 rfl, Zm3.2 (rd_v.2 rfl)⟩⟩
theorem open_ent (h : DataW.trod enc Z0 w base spare held fuel 69 cs = some x) : ∃ a : En, rdL [] [] w (enX a) cs ∧ a.clock.length ≤ 9223372036854775807 ∧ a.name.size ≤ 9223372036854775807 := by
 obtain ⟨xs, n, _, _, hl, hn, hf⟩ := DataW.trod_struct Tryz.underlying69 h
 rw [c_ent] at hl
 obtain ⟨a, b, rfl⟩ := two_ hl
 obtain ⟨y0, e0⟩ := Vp (l := xs) (i := 0) (by rw [hn]; decide)
 obtain ⟨y1, e1⟩ := Vp (l := xs) (i := 1) (by rw [hn]; decide)
 have h0 : DataW.trod enc Z0 w base spare held n 67 [a] = some y0 := fld hf 0 67 0 1 rfl c_ticks e0
 have h1 : DataW.trod enc Z0 w base spare held n 9 [b] = some y1 := fld hf 1 9 1 1 rfl Yr5 e1
 obtain ⟨v, l, hv, hs⟩ := Zt3 (R := fun (a : Tk) cs => rdL [] [] w (tkX a) cs) Tryz.underlying67 c_tick (by decide) (fun _ _ _ _ h => open_tick h) h0
 obtain ⟨s, hq, _, ws⟩ := DataW.trod_string Tryz.underlying9 h1
 obtain ⟨rfl⟩ : a = v := by simpa using hv
 obtain ⟨rfl⟩ : b = .string s := by simpa using hq
 exact ⟨⟨l, s⟩, Vu.2 ⟨Zj4 hs fun x _ cs hc => ⟨hc, rfl⟩, Zm3.2 (rd_v.2 rfl)⟩, Yh7 hs, ws⟩
theorem open_val : ∀ (m : Nat) (fuel : Nat) (cs : List Value) (x : DataW H × List MemPlace), fuel < m → DataW.trod enc Z0 w base spare held fuel 30 cs = some x → ∃ v, rdL [] [] w (vaX v) cs ∧ VSm v
 | 0, _, _, _, hm, _ => by omega
 | m + 1, fuel, cs, x, hm, h => by
   obtain ⟨xs, n, hfu, _, hl, hn, hf⟩ := DataW.trod_struct Tryz.underlying30 h
   rw [c_val] at hl
   obtain ⟨a, b, c, d, rfl⟩ := four_ hl
   obtain ⟨y0, e0⟩ := Vp (l := xs) (i := 0) (by rw [hn]; decide)
   obtain ⟨y1, e1⟩ := Vp (l := xs) (i := 1) (by rw [hn]; decide)
   obtain ⟨y2, e2⟩ := Vp (l := xs) (i := 2) (by rw [hn]; decide)
   obtain ⟨y3, e3⟩ := Vp (l := xs) (i := 3) (by rw [hn]; decide)
   have h0 : DataW.trod enc Z0 w base spare held n 2 [a] = some y0 := fld hf 0 2 0 1 rfl Yr6 e0
   have h1 : DataW.trod enc Z0 w base spare held n 22 [b] = some y1 := fld hf 1 22 1 1 rfl c_strs e1
   have h2 : DataW.trod enc Z0 w base spare held n 27 [c] = some y2 := fld hf 2 27 2 1 rfl c_vals e2
   have h3 : DataW.trod enc Z0 w base spare held n 28 [d] = some y3 := fld hf 3 28 3 1 rfl c_ents e3
   obtain ⟨p, hp, _, wp⟩ := DataW.trod_int Tryz.underlying2 h0
   obtain ⟨v1, l1, hv1, hs1, hl1, hz1⟩ := Yc1 h1
   obtain ⟨v2, l2, hv2, hs2⟩ := Zt3 (R := fun l cs => rdL [] [] w (vaX l) cs ∧ VSm l) Tryz.underlying27 c_val (by decide) (fun k hk cs x hx => open_val m k cs x (by omega) hx) h2
   obtain ⟨v3, l3, hv3, hs3⟩ := Zt3 (R := fun (a : En) cs => rdL [] [] w (enX a) cs ∧ a.clock.length ≤ 9223372036854775807 ∧ a.name.size ≤ 9223372036854775807) Tryz.underlying28 c_ent (by decide) (fun _ _ _ _ h => open_ent h) h3
   obtain ⟨rfl⟩ : a = .int .i64 p := by simpa using hp
   obtain ⟨rfl⟩ : b = v1 := by simpa using hv1
   obtain ⟨rfl⟩ : c = v2 := by simpa using hv2
   obtain ⟨rfl⟩ : d = v3 := by simpa using hv3
   refine ⟨.mk p l1 l2 l3, ?_, .mk _ hl1 (Yh7 hs2) (Yh7 hs3) hz1 (fun r hr => ?_) (fun l hl => ?_)⟩
   · rw [Y5]
     exact Vu.2 ⟨rd_v.2 rfl, Vu.2 ⟨hs1, Vu.2 ⟨Zj4 hs2 fun x _ cs hc => ⟨hc.1, Xn x⟩, Zm3.2 (Zj4 hs3 fun x _ cs hc => ⟨hc.1, rfl⟩)⟩⟩⟩
   · obtain ⟨_, h⟩ := sl_all hs3 r hr; exact h.2
   · obtain ⟨_, h⟩ := sl_all hs2 l hl; exact h.2
end
theorem arg_val {H : Type} {enc : TypeId × Value → H} {W : World} {v : Value} {d : DataW H} {p : List MemPlace} (h : DataW.Trod enc Z0 W 0 (fun _ => true) true 30 v d p) (hv : ∃ cs, v = .agg cs) : ∃ x : Val, rd [] [] W (.agg (vaX x)) v ∧ VSm x := by
 obtain ⟨cs, rfl⟩ := hv
 obtain ⟨fuel, hf⟩ := h
 obtain ⟨l, h1, h2⟩ := open_val _ fuel _ _ (Nat.lt_succ_self _) hf
 exact ⟨l, by rw [rd]; exact ⟨cs, rfl, h1⟩, h2⟩
end
end Go.Proofs.YtbhkcbidcfofiaaGreat
