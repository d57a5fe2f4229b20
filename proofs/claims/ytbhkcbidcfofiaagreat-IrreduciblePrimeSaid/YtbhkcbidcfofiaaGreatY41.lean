/-
  What the statements of the chapter share, part 41: RWI, RWA.
-/
import Derived.Test.YtbhkcbidcfofiaaGreatY15
import Derived.Test.YtbhkcbidcfofiaaGreatY34
import Derived.Test.YtbhkcbidcfofiaaGreatY40
import Derived.ChangeArms
set_option linter.unusedVariables false
set_option linter.unusedSimpArgs false
set_option maxRecDepth 100000
set_option maxHeartbeats 8000000
namespace Go.Proofs.YtbhkcbidcfofiaaGreat
open _root_.Nat renaming lt_succ_self → Z1
open _root_.Go.Proofs.Tryz renaming prog → Z0
open Go.RowKit
section
section
variable {H : Type} {enc : TypeId × Value → H} {w : World} {base : Nat} {spare : Nat → Bool} {held : Bool} {fuel : Nat} {cs : List Value} {x : DataW H × List MemPlace}
theorem c_vals : Z0.cellsOf 27 = 1 := by kernel_rfl
theorem c_val : Z0.cellsOf 30 = 4 := by kernel_rfl
theorem c_ents : Z0.cellsOf 28 = 1 := by kernel_rfl
theorem c_ent : Z0.cellsOf 69 = 2 := by kernel_rfl
theorem c_ticks : Z0.cellsOf 67 = 1 := by kernel_rfl
theorem c_tick : Z0.cellsOf 84 = 2 := by kernel_rfl
theorem four_ {cs : List Value} (h : cs.length = 4) : ∃ a b c d, cs = [a, b, c, d] := by
 match cs, h with | [a, b, c, d], _ => exact ⟨a, b, c, d, rfl⟩
theorem open_tick (h : DataW.trod enc Z0 w base spare held fuel 84 cs = some x) : ∃ a : Tk, rdL [] [] w (tkX a) cs := by
 obtain ⟨xs, n, _, _, hl, hn, hf⟩ := DataW.trod_struct Tryz.underlying84 h
 rw [c_tick] at hl
 obtain ⟨a, b, rfl⟩ := two_ hl
 obtain ⟨y0, e0⟩ := Vl (l := xs) (i := 0) (by rw [hn]; decide)
 obtain ⟨y1, e1⟩ := Vl (l := xs) (i := 1) (by rw [hn]; decide)
 have h0 : DataW.trod enc Z0 w base spare held n 3 [a] = some y0 := fld hf 0 3 0 1 rfl c_int e0
 have h1 : DataW.trod enc Z0 w base spare held n 2 [b] = some y1 := fld hf 1 2 1 1 rfl Yq4 e1
 obtain ⟨p, hp, _, _⟩ := DataW.trod_int Tryz.underlying3 h0
 obtain ⟨q, hq, _, _⟩ := DataW.trod_int Tryz.underlying2 h1
 obtain ⟨rfl⟩ : a = .int .i64 p := by simpa using hp
 obtain ⟨rfl⟩ : b = .int .i64 q := by simpa using hq
 exact ⟨⟨p, q⟩, Vg.2 ⟨rd_v.2 rfl, Zl6.2 (rd_v.2 rfl)⟩⟩
theorem open_ent (h : DataW.trod enc Z0 w base spare held fuel 69 cs = some x) : ∃ a : En, rdL [] [] w (enX a) cs ∧ a.clock.length ≤ 9223372036854775807 ∧ a.name.size ≤ 9223372036854775807 := by
 obtain ⟨xs, n, _, _, hl, hn, hf⟩ := DataW.trod_struct Tryz.underlying69 h
 rw [c_ent] at hl
 obtain ⟨a, b, rfl⟩ := two_ hl
 obtain ⟨y0, e0⟩ := Vl (l := xs) (i := 0) (by rw [hn]; decide)
 obtain ⟨y1, e1⟩ := Vl (l := xs) (i := 1) (by rw [hn]; decide)
 have h0 : DataW.trod enc Z0 w base spare held n 67 [a] = some y0 := fld hf 0 67 0 1 rfl c_ticks e0
 have h1 : DataW.trod enc Z0 w base spare held n 9 [b] = some y1 := fld hf 1 9 1 1 rfl Yq3 e1
 obtain ⟨v, l, hv, hs⟩ := Zs7 (R := fun (a : Tk) cs => rdL [] [] w (tkX a) cs) Tryz.underlying67 c_tick (by decide) (fun _ _ _ _ h => open_tick h) h0
 obtain ⟨s, hq, _, ws⟩ := DataW.trod_string Tryz.underlying9 h1
 obtain ⟨rfl⟩ : a = v := by simpa using hv
 obtain ⟨rfl⟩ : b = .string s := by simpa using hq
 exact ⟨⟨l, s⟩, Vg.2 ⟨Zi5 hs fun x _ cs hc => ⟨hc, rfl⟩, Zl6.2 (rd_v.2 rfl)⟩, Yf7 hs, ws⟩
theorem Zw5 : ∀ (m : Nat) (fuel : Nat) (cs : List Value) (x : DataW H × List MemPlace), fuel < m → DataW.trod enc Z0 w base spare held fuel 30 cs = some x → ∃ v, rdL [] [] w (vaX v) cs ∧ VSm v
 | 0, _, _, _, hm, _ => by omega
 | m + 1, fuel, cs, x, hm, h => by
   obtain ⟨xs, n, hfu, _, hl, hn, hf⟩ := DataW.trod_struct Tryz.underlying30 h
   rw [c_val] at hl
   obtain ⟨a, b, c, d, rfl⟩ := four_ hl
   obtain ⟨y0, e0⟩ := Vl (l := xs) (i := 0) (by rw [hn]; decide)
   obtain ⟨y1, e1⟩ := Vl (l := xs) (i := 1) (by rw [hn]; decide)
   obtain ⟨y2, e2⟩ := Vl (l := xs) (i := 2) (by rw [hn]; decide)
   obtain ⟨y3, e3⟩ := Vl (l := xs) (i := 3) (by rw [hn]; decide)
   have h0 : DataW.trod enc Z0 w base spare held n 2 [a] = some y0 := fld hf 0 2 0 1 rfl Yq4 e0
   have h1 : DataW.trod enc Z0 w base spare held n 22 [b] = some y1 := fld hf 1 22 1 1 rfl c_strs e1
   have h2 : DataW.trod enc Z0 w base spare held n 27 [c] = some y2 := fld hf 2 27 2 1 rfl c_vals e2
   have h3 : DataW.trod enc Z0 w base spare held n 28 [d] = some y3 := fld hf 3 28 3 1 rfl c_ents e3
   obtain ⟨p, hp, _, wp⟩ := DataW.trod_int Tryz.underlying2 h0
   obtain ⟨v1, l1, hv1, hs1, hl1, hz1⟩ := Zz8 h1
   obtain ⟨v2, l2, hv2, hs2⟩ := Zs7 (R := fun l cs => rdL [] [] w (vaX l) cs ∧ VSm l) Tryz.underlying27 c_val (by decide) (fun k hk cs x hx => Zw5 m k cs x (by omega) hx) h2
   obtain ⟨v3, l3, hv3, hs3⟩ := Zs7 (R := fun (a : En) cs => rdL [] [] w (enX a) cs ∧ a.clock.length ≤ 9223372036854775807 ∧ a.name.size ≤ 9223372036854775807) Tryz.underlying28 c_ent (by decide) (fun _ _ _ _ h => open_ent h) h3
   obtain ⟨rfl⟩ : a = .int .i64 p := by simpa using hp
   obtain ⟨rfl⟩ : b = v1 := by simpa using hv1
   obtain ⟨rfl⟩ : c = v2 := by simpa using hv2
   obtain ⟨rfl⟩ : d = v3 := by simpa using hv3
   refine ⟨.mk p l1 l2 l3, ?_, .mk _ hl1 (Yf7 hs2) (Yf7 hs3) hz1 (fun r hr => ?_) (fun l hl => ?_)⟩
   · rw [Y5]
     exact Vg.2 ⟨rd_v.2 rfl, Vg.2 ⟨hs1, Vg.2 ⟨Zi5 hs2 fun x _ cs hc => ⟨hc.1, V9 x⟩, Zl6.2 (Zi5 hs3 fun x _ cs hc => ⟨hc.1, rfl⟩)⟩⟩⟩
   · obtain ⟨_, h⟩ := sl_all hs3 r hr; exact h.2
   · obtain ⟨_, h⟩ := sl_all hs2 l hl; exact h.2
end
end
section
section
variable {H : Type} {enc : TypeId × Value → H} {w : World} {base : Nat} {spare : Nat → Bool} {held : Bool} {fuel : Nat} {t : TypeId} {cs : List Value} {x : DataW H × List MemPlace}
theorem trod_arr {P : Program} {n : Nat} {e : TypeId} (ht : P.underlying t = some (.array n e)) (h : DataW.trod enc P w base spare held fuel t cs = some x) :
  cs.length = P.cellsOf t ∧ ∃ m, ∀ i, i < n → ∃ y, DataW.trod enc P w base spare held m e ((cs.drop (i * P.cellsOf e)).take (P.cellsOf e)) = some y := by
 cases fuel with
 | zero => simp [DataW.trod] at h
 | succ m =>
  unfold DataW.trod at h
  rw [ht] at h
  have h' : (if cs.length = P.cellsOf t then ((List.range n).mapM fun i => DataW.trod enc P w base spare held m e ((cs.drop (i * P.cellsOf e)).take (P.cellsOf e))).map fun xs => ((.agg (xs.map (·.1)) : DataW H), xs.flatMap (·.2)) else none) = some x := h
  split at h'
  rotate_left
  · cases h'
  rename_i hl
  obtain ⟨xs, hp, _⟩ := Option.map_eq_some_iff.1 h'
  refine ⟨hl, m, fun i hi => ?_⟩
  have hlen : xs.length = n := by simpa using mapM_some_length hp
  have := mapM_some_get hp i i (by simp [hi])
  exact ⟨xs[i], by rw [this, List.getElem?_eq_getElem (by omega)]⟩
theorem Yl5 {w : World} : ∀ {a b : List D} {c d : List Value}, rdL [] [] w a c → rdL [] [] w b d → rdL [] [] w (a ++ b) (c ++ d)
 | [], b, c, d, h, k => by rw [rdL] at h; subst h; exact k
 | x :: a, b, c, d, h, k => by
  rw [rdL] at h
  obtain ⟨u, t, rfl, h1, h2⟩ := h
  exact Vg.2 ⟨h1, Yl5 h2 k⟩
end
theorem okWide_array {P : Program} {w : World} {r : Reach} {base : Nat} {t e : TypeId} {n : Nat} {v : Value} (ht : P.underlying t = some (.array n e)) (h : Value.okWide P w r base t v) : ∃ cs, v = .agg cs := by
 simp only [Value.okWide, ht] at h
 obtain ⟨cs, h1, _⟩ := h
 exact ⟨cs, h1⟩
theorem c_val3 : Z0.cellsOf 51 = 12 := by kernel_rfl
theorem arg_val3 {H : Type} {enc : TypeId × Value → H} {W : World} {v : Value} {d : DataW H} {p : List MemPlace} (h : DataW.Trod enc Z0 W 0 (fun _ => true) true 51 v d p) (hv : ∃ cs, v = .agg cs) : ∃ a b c : Val, rd [] [] W (.agg (va3 a b c)) v ∧ VSm a ∧ VSm b ∧ VSm c := by
 obtain ⟨cs, rfl⟩ := hv
 obtain ⟨fuel, hf⟩ := h
 obtain ⟨hl, m, hy⟩ := trod_arr Tryz.underlying51 hf
 rw [c_val3] at hl
 rw [c_val] at hy
 obtain ⟨y0, e0⟩ := hy 0 (by decide)
 obtain ⟨y1, e1⟩ := hy 1 (by decide)
 obtain ⟨y2, e2⟩ := hy 2 (by decide)
 obtain ⟨a, ra, sa⟩ := Zw5 _ m _ _ (Z1 _) e0
 obtain ⟨b, rb, sb⟩ := Zw5 _ m _ _ (Z1 _) e1
 obtain ⟨c, rc, sc⟩ := Zw5 _ m _ _ (Z1 _) e2
 refine ⟨a, b, c, ?_, sa, sb, sc⟩
 rw [rd]
 refine ⟨cs, rfl, ?_⟩
 have hl' : cs.toList.length = 12 := hl
 have hs : cs.toList = ((cs.toList.drop (0 * 4)).take 4) ++ (((cs.toList.drop (1 * 4)).take 4) ++ ((cs.toList.drop (2 * 4)).take 4)) := by
  match h : cs.toList, hl' with
  | [_, _, _, _, _, _, _, _, _, _, _, _], _ => rfl
 rw [hs, va3]
 exact Yl5 ra (Yl5 rb rc)
end
end Go.Proofs.YtbhkcbidcfofiaaGreat
