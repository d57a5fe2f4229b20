/-
  What the statements of the chapter share, part 33: QD7.
-/
import Derived.Test.YtbhkcbidcfofiaaGreatY32
set_option linter.unusedVariables false
set_option linter.unusedSimpArgs false
set_option maxRecDepth 100000
set_option maxHeartbeats 8000000
namespace Go.Proofs.YtbhkcbidcfofiaaGreat
open _root_.List renaming mem_of_getElem? → Z0, getElem?_eq_some_iff → Z1
open Go.RowKit
section
theorem Zu1 {l : Lat} (h : W4 l = true) : (l.kind ≠ 8 ∧ l.kind ≠ 10) ∧ ∀ p ∈ l.parts, W4 p = true := by
 obtain ⟨k, lo, hi, ns, ps, rs⟩ := l
 rw [W4, Bool.and_eq_true, Bool.not_eq_true', decide_eq_false_iff_not] at h
 exact ⟨⟨fun e => h.1 (.inl e), fun e => h.1 (.inr e)⟩, Zd1.1 h.2⟩
theorem nodes_mem {v x : Val} (hx : x ∈ v.parts) : W6 x ≤ W6 v := by
 have h1 := V1 v
 have h2 : ∀ l : List Val, x ∈ l → W6 x ≤ Ys l := fun l => by
  induction l with
  | nil => exact fun h => by cases h
  | cons y t iht =>
   intro h
   rw [Ys]
   rcases List.mem_cons.1 h with rfl | h
   · omega
   · have := iht h; omega
 have := h2 _ hx
 omega
variable (G : Nat → D) (hG : ∀ g, low 0 (G g))
include hG
theorem dec_d (f : Nat) : ∀ (l : Lat) (v : Val), SizeOf.sizeOf l ≤ f → Sm l → chkE l = 0 → W4 l = true → VSm v → Yb l v = true → W6 v ≤ 1000 → DecOk G l v := by
 induction f with
 | zero => intro l v hn; cases l; simp at hn
 | succ f ih =>
 intro l v hn hsm hc hd hv he hno
 have hwf := Wt hc
 obtain ⟨hk, hk5, hk7, hk6, _⟩ := hwf.kinds
 obtain ⟨⟨n8, n10⟩, hdp⟩ := Zu1 hd
 have hpp : ∀ p ∈ l.parts, ∀ x ∈ v.parts, Yb p x = true → DecOk G p x := fun p hp x hx hex => ih p x (by have := Yz hp; omega) (hsm.part p hp) (Zy7 hc hp) (hdp p hp) (hv.part x hx) hex (Nat.le_trans (nodes_mem hx) hno)
 by_cases h123 : l.kind = 1 ∨ l.kind = 2 ∨ l.kind = 3
 · exact dec_num G hG l v hsm hc hv h123
 by_cases h4 : l.kind = 4
 · exact dec_set G hG l v h4 hv hno
 by_cases h5 : l.kind = 5
 · refine dec_map G hG l v h5 hwf hv he hno fun p hp x hx => hpp p hp x hx ?_
   obtain ⟨q, hq⟩ := List.length_eq_one_iff.1 (hk5 h5)
   have hpq : p = q := by rw [hq] at hp; simpa using hp
   have : Yb (.mk 5 l.lo l.hi l.names [q] l.rules) v = true := by rw [← hq, ← h5]; cases l; exact he
   rw [hpq]
   exact ((V5.1 this).2.2.2 x hx).1
 by_cases h6 : l.kind = 6
 · have hpe := (el67 (k := 6) (lo := l.lo) (hi := l.hi) (ns := l.names) (ps := l.parts) (rs := l.rules) (v := v) (.inl rfl)).1 (by rw [← h6]; cases l; exact he)
   refine dec_prd G hG l v h6 hsm hc hv he hno fun k p x h1 h2 => ?_
   obtain ⟨q1, e1⟩ := Z1.1 h1
   obtain ⟨q2, e2⟩ := Z1.1 h2
   have := (Zb0 l.parts v.parts hpe.1.1).1 hpe.1.2 k q1 q2
   rw [e1, e2] at this
   exact hpp p (Z0 h1) x (Z0 h2) this
 by_cases h7 : l.kind = 7
 · obtain ⟨p, q, a, w, hpq, hab, ha, hw, _⟩ := Zg3 hwf h7 he
   refine dec_lex G hG l v h7 hsm hc hv he hno fun k p' x h1 h2 => ?_
   rw [hpq] at h1
   rw [hab] at h2
   refine hpp p' (by rw [hpq]; exact Z0 h1) x (by rw [hab]; exact Z0 h2) ?_
   match k with
   | 0 => cases h1; cases h2; exact ha
   | 1 => cases h1; cases h2; exact hw
   | k + 2 => simp at h1
 exact dec_reg G hG l v (by omega) hv he hno
end
end Go.Proofs.YtbhkcbidcfofiaaGreat
