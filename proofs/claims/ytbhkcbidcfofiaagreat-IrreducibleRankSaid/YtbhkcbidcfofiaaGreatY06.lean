/-
  What the statements of the chapter share, part 06: F1, D9, D10.
-/
import Derived.Test.YtbhkcbidcfofiaaGreatY05
set_option linter.unusedVariables false
set_option linter.unusedSimpArgs false
set_option maxRecDepth 100000
set_option maxHeartbeats 8000000
namespace Go.Proofs.YtbhkcbidcfofiaaGreat
open _root_.Array renaming getElem?_eq_getElem → Za
open _root_.ByteArray renaming toList → Z8
open _root_.List renaming getElem?_eq_getElem → Z0, getElem?_eq_some_iff → Z1, map_congr_left → Z2, length_map → Z3, length_set → Z4, map_map → Z6, getElem?_append_right → Z9, mem_toArray → Zc, mem_map → Zd
open _root_.Nat renaming lt_or_ge → Z7, le_refl → Ze
open _root_.Option renaming map_some → Z5, isSome_iff_exists → Zb
open Go.RowKit
section
mutual
def ren (π : Nat → Nat) : D → D
 | .any => .any
 | .v x => .v x
 | .sl k xs => .sl k (renR π xs)
 | .agg ds => .agg (renL π ds)
 | .tup ds => .tup (renL π ds)
 | .rp ds => .rp (renL π ds)
 | .ptr i o => .ptr (π i) o
 | .buf i n => .buf (π i) n
 | .bp i n r j => .bp (π i) n r j
 | .win i n a b => .win (π i) n a b
 | .arr i o n c k => .arr (π i) o n c k
 | .mp i => .mp (π i)
 | .e0 => .e0
 | .fn f ds => .fn f (renL π ds)
def renL (π : Nat → Nat) : List D → List D
 | [] => []
 | d :: t => ren π d :: renL π t
def renR (π : Nat → Nat) : List (List D) → List (List D)
 | [] => []
 | d :: t => renL π d :: renR π t
end
theorem V7 (π : Nat → Nat) : ∀ l, renL π l = l.map (ren π)
 | [] => by rw [renL]; rfl
 | d :: t => by rw [renL, V7 π t]; rfl
theorem We (π : Nat → Nat) : ∀ l, renR π l = l.map (renL π)
 | [] => by rw [renR]; rfl
 | d :: t => by rw [renR, We π t]; rfl
def Va (π : Nat → Nat) : Ob → Ob
 | .cells ds => .cells (renL π ds)
 | .buf e k xs => .buf e k (renR π xs)
 | .map es c => .map (es.map fun e => (e.1, e.2.1, ren π e.2.2)) c
 | .iter m s l a => .iter (π m) s l a
 | .hole => .hole
 | .dead => .dead
theorem Uk {π : Nat → Nat} (ob : Ob) : (Va π ob).live = ob.live := by cases ob <;> rfl
theorem Yd2 {π : Nat → Nat} (ob : Ob) : (Va π ob).isHole = ob.isHole := by cases ob <;> rfl
structure Emb (m : Nat) (π : Nat → Nat) (hd : List Value) (h : List Ob) (hd' : List Value) (h' : List Ob) : Prop where
 hd : ∀ i, i < m → ∀ u, hd[i]? = some u → hd'[π i]? = some u
 usd : ∀ i, i < m → used h i → used h' (π i)
 buf : ∀ (i : Nat) e k xs', i < m → used h i → h'[π i]? = some (.buf e k xs') → ∃ e0 xs, h[i]? = some (.buf e0 k xs) ∧ xs.length = xs'.length
section
variable {m : Nat} {π : Nat → Nat} {hd hd' : List Value} {h h' : List Ob} {W W' : World}
mutual
theorem rd_emb (c : Emb m π hd h hd' h') (hl : hd.length = h.length) (s : Sub W W') : ∀ (d : D) (u : Value), low m d → rd hd h W d u → rd hd' h' W' (ren π d) u
 | .any, _, _, _ => by rw [ren, rd]; trivial
 | .v x, u, _, q => by rw [rd] at q; rw [ren, rd]; exact q
 | .sl k xs, u, l, q => by
   rw [low] at l; rw [rd] at q; rw [ren, rd]
   obtain ⟨a, cap, h1, h2, h3, h4⟩ := q
   have e : (renR π xs).length = xs.length := by rw [We]; simp
   exact ⟨a, cap, by rw [e]; exact h1, by rw [e]; exact h2, h3, Yd5 c hl s k a xs 0 l h4⟩
 | .agg ds, u, l, q => by
   rw [low] at l; rw [rd] at q; rw [ren, rd]
   obtain ⟨cs, h1, h2⟩ := q
   exact ⟨cs, h1, Zj0 c hl s ds _ l h2⟩
 | .tup ds, u, l, q => by
   rw [low] at l; rw [rd] at q; rw [ren, rd]
   obtain ⟨cs, h1, h2⟩ := q
   exact ⟨cs, h1, Zj0 c hl s ds _ l h2⟩
 | .rp ds, u, l, q => by
   rw [low] at l; rw [rd] at q; rw [ren, rd]
   obtain ⟨b, o, h1, h2⟩ := q
   exact ⟨b, o, h1, Yi4 c hl s ds b o l h2⟩
 | .ptr i o, u, l, q => by
   rw [low] at l; rw [rd] at q; rw [ren, rd]
   obtain ⟨B, h1, h2⟩ := q
   exact ⟨B, c.hd i l _ h1, h2⟩
 | .buf i n, u, l, q => by
   rw [low] at l; rw [rd] at q; rw [ren, rd]
   obtain ⟨h0, hi, h2⟩ := q
   refine ⟨h0, c.usd i l hi, fun e k xs hx => ?_⟩
   obtain ⟨e0, xs0, hh0, l0⟩ := c.buf i e k xs l hi hx
   obtain ⟨h3, h4⟩ := h2 e0 k xs0 hh0
   exact ⟨l0 ▸ h3, fun he => c.hd i l _ (h4 (l0.trans he))⟩
 | .bp i n r j, u, l, q => by
   rw [low] at l; rw [rd] at q; rw [ren, rd]
   obtain ⟨h0, hi, h2⟩ := q
   refine ⟨h0, c.usd i l hi, fun e k xs hx => ?_⟩
   obtain ⟨e0, xs0, hh0, l0⟩ := c.buf i e k xs l hi hx
   obtain ⟨h3, h4⟩ := h2 e0 k xs0 hh0
   refine ⟨l0 ▸ h3, fun he => ?_⟩
   obtain ⟨B, cap, h5, h6⟩ := h4 (l0.trans he)
   exact ⟨B, cap, c.hd i l _ h5, h6⟩
 | .win i n a b, u, l, q => by
   rw [low] at l; rw [rd] at q; rw [ren, rd]
   obtain ⟨h0, hi, h2⟩ := q
   refine ⟨h0, c.usd i l hi, fun e k xs hx => ?_⟩
   obtain ⟨e0, xs0, hh0, l0⟩ := c.buf i e k xs l hi hx
   obtain ⟨h3, h4⟩ := h2 e0 k xs0 hh0
   refine ⟨l0 ▸ h3, fun he => ?_⟩
   obtain ⟨h5, h6, h7⟩ := h4 (l0.trans he)
   refine ⟨h5, h6, h7.imp id ?_⟩
   rintro ⟨B, cap, qq, h8, h9⟩
   exact ⟨B, cap, qq, c.hd i l _ h8, h9⟩
 | .arr i o n cc kk, u, l, q => by
   rw [low] at l; rw [rd] at q; rw [ren, rd]
   obtain ⟨B, h1, h2⟩ := q
   exact ⟨B, c.hd i l _ h1, h2⟩
 | .mp i, u, l, q => by
   rw [low] at l; rw [rd] at q; rw [ren, rd]
   obtain ⟨r, h1, h2⟩ := q
   exact ⟨r, c.hd i l _ h1, h2⟩
 | .e0, u, _, q => by rw [rd] at q; rw [ren, rd]; exact q
 | .fn f ds, u, l, q => by
   rw [low] at l; rw [rd] at q; rw [ren, rd]
   obtain ⟨cs, h1, h2⟩ := q
   exact ⟨cs, h1, Zj0 c hl s ds _ l h2⟩
theorem Zj0 (c : Emb m π hd h hd' h') (hl : hd.length = h.length) (s : Sub W W') : ∀ (ds : List D) (us : List Value), lowL m ds → rdL hd h W ds us → rdL hd' h' W' (renL π ds) us
 | [], _, _, q => by rw [rdL] at q; rw [renL, rdL]; exact q
 | d :: ds, us, l, q => by
   rw [lowL] at l; rw [rdL] at q; rw [renL, rdL]
   obtain ⟨u, t, h1, h2, h3⟩ := q
   exact ⟨u, t, h1, rd_emb c hl s d u l.1 h2, Zj0 c hl s ds t l.2 h3⟩
theorem Yi4 (c : Emb m π hd h hd' h') (hl : hd.length = h.length) (s : Sub W W') : ∀ (ds : List D) (b o : Nat), lowL m ds → rdAt hd h W b o ds → rdAt hd' h' W' b o (renL π ds)
 | [], _, _, _, _ => by rw [renL, rdAt]; trivial
 | d :: ds, b, o, l, q => by
   rw [lowL] at l; rw [rdAt] at q; rw [renL, rdAt]
   obtain ⟨⟨u, h1, h2⟩, h3⟩ := q
   exact ⟨⟨u, s _ _ h1, rd_emb c hl s d u l.1 h2⟩, Yi4 c hl s ds b (o + 1) l.2 h3⟩
theorem Yd5 (c : Emb m π hd h hd' h') (hl : hd.length = h.length) (s : Sub W W') (k : Nat) (a : Option Addr) : ∀ (xs : List (List D)) (o : Nat), lowR m xs → Xo hd h W k a o xs → Xo hd' h' W' k a o (renR π xs)
 | [], _, _, _ => by rw [renR, Xo]; trivial
 | ds :: t, o, l, q => by
   rw [lowR] at l; rw [Xo] at q; rw [renR, Xo]
   obtain ⟨⟨b, r, h1, h2⟩, h3, h4⟩ := q
   exact ⟨⟨b, r, h1, Yi4 c hl s ds b (r + o) l.1 h2⟩, by rw [V7, Z3]; exact h3, Yd5 c hl s k a t (o + k) l.2 h4⟩
end
end
structure Une (m : Nat) (π : Nat → Nat) (hd : List Value) (h : List Ob) (hd' : List Value) (h' : List Ob) : Prop where
 hd : ∀ i, i < m → ∀ u, hd[π i]? = some u → hd'[i]? = some u
 usd : ∀ i, i < m → used h (π i) → used h' i
 buf : ∀ (i : Nat) e k xs', i < m → h'[i]? = some (.buf e k xs') → ∃ e0 xs, h[π i]? = some (.buf e0 k xs) ∧ xs.length = xs'.length
section
variable {m : Nat} {π : Nat → Nat} {hd hd' : List Value} {h h' : List Ob} {W W' : World}
mutual
theorem rd_une (c : Une m π hd h hd' h') (hl : hd.length = h.length) (s : Sub W W') : ∀ (d : D) (u : Value), low m d → rd hd h W (ren π d) u → rd hd' h' W' d u
 | .any, _, _, _ => by rw [rd]; trivial
 | .v x, u, _, q => by rw [ren, rd] at q; rw [rd]; exact q
 | .sl k xs, u, l, q => by
   rw [low] at l; rw [ren, rd] at q; rw [rd]
   obtain ⟨a, cap, h1, h2, h3, h4⟩ := q
   have e : (renR π xs).length = xs.length := by rw [We]; simp
   rw [e] at h1 h2
   exact ⟨a, cap, h1, h2, h3, Yd3 c hl s k a xs 0 l h4⟩
 | .agg ds, u, l, q => by
   rw [low] at l; rw [ren, rd] at q; rw [rd]
   obtain ⟨cs, h1, h2⟩ := q
   exact ⟨cs, h1, Zb0 c hl s ds _ l h2⟩
 | .tup ds, u, l, q => by
   rw [low] at l; rw [ren, rd] at q; rw [rd]
   obtain ⟨cs, h1, h2⟩ := q
   exact ⟨cs, h1, Zb0 c hl s ds _ l h2⟩
 | .rp ds, u, l, q => by
   rw [low] at l; rw [ren, rd] at q; rw [rd]
   obtain ⟨b, o, h1, h2⟩ := q
   exact ⟨b, o, h1, Yi1 c hl s ds b o l h2⟩
 | .ptr i o, u, l, q => by
   rw [low] at l; rw [ren, rd] at q; rw [rd]
   obtain ⟨B, h1, h2⟩ := q
   exact ⟨B, c.hd i l _ h1, h2⟩
 | .buf i n, u, l, q => by
   rw [low] at l; rw [ren, rd] at q; rw [rd]
   obtain ⟨h0, hi, h2⟩ := q
   refine ⟨h0, c.usd i l hi, fun e k xs hx => ?_⟩
   obtain ⟨e0, xs0, hh0, l0⟩ := c.buf i e k xs l hx
   obtain ⟨h3, h4⟩ := h2 e0 k xs0 hh0
   exact ⟨l0 ▸ h3, fun he => c.hd i l _ (h4 (l0.trans he))⟩
 | .bp i n r j, u, l, q => by
   rw [low] at l; rw [ren, rd] at q; rw [rd]
   obtain ⟨h0, hi, h2⟩ := q
   refine ⟨h0, c.usd i l hi, fun e k xs hx => ?_⟩
   obtain ⟨e0, xs0, hh0, l0⟩ := c.buf i e k xs l hx
   obtain ⟨h3, h4⟩ := h2 e0 k xs0 hh0
   refine ⟨l0 ▸ h3, fun he => ?_⟩
   obtain ⟨B, cap, h5, h6⟩ := h4 (l0.trans he)
   exact ⟨B, cap, c.hd i l _ h5, h6⟩
 | .win i n a b, u, l, q => by
   rw [low] at l; rw [ren, rd] at q; rw [rd]
   obtain ⟨h0, hi, h2⟩ := q
   refine ⟨h0, c.usd i l hi, fun e k xs hx => ?_⟩
   obtain ⟨e0, xs0, hh0, l0⟩ := c.buf i e k xs l hx
   obtain ⟨h3, h4⟩ := h2 e0 k xs0 hh0
   refine ⟨l0 ▸ h3, fun he => ?_⟩
   obtain ⟨h5, h6, h7⟩ := h4 (l0.trans he)
   refine ⟨h5, h6, h7.imp id ?_⟩
   rintro ⟨B, cap, qq, h8, h9⟩
   exact ⟨B, cap, qq, c.hd i l _ h8, h9⟩
 | .arr i o n cc kk, u, l, q => by
   rw [low] at l; rw [ren, rd] at q; rw [rd]
   obtain ⟨B, h1, h2⟩ := q
   exact ⟨B, c.hd i l _ h1, h2⟩
 | .mp i, u, l, q => by
   rw [low] at l; rw [ren, rd] at q; rw [rd]
   obtain ⟨r, h1, h2⟩ := q
   exact ⟨r, c.hd i l _ h1, h2⟩
 | .e0, u, _, q => by rw [ren, rd] at q; rw [rd]; exact q
 | .fn f ds, u, l, q => by
   rw [low] at l; rw [ren, rd] at q; rw [rd]
   obtain ⟨cs, h1, h2⟩ := q
   exact ⟨cs, h1, Zb0 c hl s ds _ l h2⟩
theorem Zb0 (c : Une m π hd h hd' h') (hl : hd.length = h.length) (s : Sub W W') : ∀ (ds : List D) (us : List Value), lowL m ds → rdL hd h W (renL π ds) us → rdL hd' h' W' ds us
 | [], _, _, q => by rw [renL, rdL] at q; rw [rdL]; exact q
 | d :: ds, us, l, q => by
   rw [lowL] at l; rw [renL, rdL] at q; rw [rdL]
   obtain ⟨u, t, h1, h2, h3⟩ := q
   exact ⟨u, t, h1, rd_une c hl s d u l.1 h2, Zb0 c hl s ds t l.2 h3⟩
theorem Yi1 (c : Une m π hd h hd' h') (hl : hd.length = h.length) (s : Sub W W') : ∀ (ds : List D) (b o : Nat), lowL m ds → rdAt hd h W b o (renL π ds) → rdAt hd' h' W' b o ds
 | [], _, _, _, _ => by rw [rdAt]; trivial
 | d :: ds, b, o, l, q => by
   rw [lowL] at l; rw [renL, rdAt] at q; rw [rdAt]
   obtain ⟨⟨u, h1, h2⟩, h3⟩ := q
   exact ⟨⟨u, s _ _ h1, rd_une c hl s d u l.1 h2⟩, Yi1 c hl s ds b (o + 1) l.2 h3⟩
theorem Yd3 (c : Une m π hd h hd' h') (hl : hd.length = h.length) (s : Sub W W') (k : Nat) (a : Option Addr) : ∀ (xs : List (List D)) (o : Nat), lowR m xs → Xo hd h W k a o (renR π xs) → Xo hd' h' W' k a o xs
 | [], _, _, _ => by rw [Xo]; trivial
 | ds :: t, o, l, q => by
   rw [lowR] at l; rw [renR, Xo] at q; rw [Xo]
   obtain ⟨⟨b, r, h1, h2⟩, h3, h4⟩ := q
   exact ⟨⟨b, r, h1, Yi1 c hl s ds b (r + o) l.1 h2⟩, by rw [V7, Z3] at h3; exact h3, Yd3 c hl s k a t (o + k) l.2 h4⟩
end
end
mutual
theorem J8 (π : Nat → Nat) : ∀ d, low 0 d → ren π d = d
 | .any, _ => by rw [ren]
 | .v x, _ => by rw [ren]
 | .sl k xs, l => by rw [low] at l; rw [ren, renR_low0 π xs l]
 | .agg ds, l => by rw [low] at l; rw [ren, W5 π ds l]
 | .tup ds, l => by rw [low] at l; rw [ren, W5 π ds l]
 | .rp ds, l => by rw [low] at l; rw [ren, W5 π ds l]
 | .ptr i o, l => by rw [low] at l; omega
 | .buf i n, l => by rw [low] at l; omega
 | .bp i n r j, l => by rw [low] at l; omega
 | .win i n a b, l => by rw [low] at l; omega
 | .arr i o n c k, l => by rw [low] at l; omega
 | .mp i, l => by rw [low] at l; omega
 | .e0, _ => by rw [ren]
 | .fn f ds, l => by rw [low] at l; rw [ren, W5 π ds l]
theorem W5 (π : Nat → Nat) : ∀ d, lowL 0 d → renL π d = d
 | [], _ => by rw [renL]
 | d :: t, l => by rw [lowL] at l; rw [renL, J8 π d l.1, W5 π t l.2]
theorem renR_low0 (π : Nat → Nat) : ∀ d, lowR 0 d → renR π d = d
 | [], _ => by rw [renR]
 | d :: t, l => by rw [lowR] at l; rw [renR, W5 π d l.1, renR_low0 π t l.2]
end
def plc {α : Type} (π : Nat → Nat) (h : List α) : Nat → List α → List α
 | _, [] => h
 | j, ob :: t => plc π (h.set (π j) ob) (j + 1) t
theorem Yi7 {α : Type} {π : Nat → Nat} : ∀ (l : List α) (h : List α) (j : Nat), (plc π h j l).length = h.length
 | [], _, _ => rfl
 | ob :: t, h, j => by rw [plc, Yi7 t]; simp
theorem Zm7 {α : Type} {π : Nat → Nat} {x : Nat} : ∀ (l : List α) (h : List α) (j : Nat), (∀ i, i < l.length → π (j + i) ≠ x) → (plc π h j l)[x]? = h[x]?
 | [], _, _, _ => rfl
 | ob :: t, h, j, q => by
  rw [plc, Zm7 t _ (j + 1) fun i hi => by rw [show j + 1 + i = j + (i + 1) by omega]; exact q (i + 1) (by simp; omega)]
  rw [List.getElem?_set_ne (by have := q 0 (by simp); rwa [Nat.add_zero] at this)]
theorem plc_at {α : Type} {π : Nat → Nat} : ∀ (l : List α) (h : List α) (j i : Nat), (∀ a b, a < l.length → b < l.length → π (j + a) = π (j + b) → a = b) → i < l.length → π (j + i) < h.length → (plc π h j l)[π (j + i)]? = l[i]?
 | [], _, _, _, _, q, _ => by simp at q
 | ob :: t, h, j, 0, inj, q, hl => by
  rw [plc, Zm7 t _ (j + 1) fun i hi he => by
   have := inj (i + 1) 0 (by simp; omega) (by simp) (by rw [← he]; congr 1; omega)
   omega]
  rw [Nat.add_zero] at hl ⊢
  rw [List.getElem?_set_self hl]; rfl
 | ob :: t, h, j, i + 1, inj, q, hl => by
  rw [plc, show j + (i + 1) = j + 1 + i by omega]
  rw [plc_at t _ (j + 1) i (fun a b ha hb he => ?_) (by simpa using q) (by rw [Z4, show j + 1 + i = j + (i + 1) by omega]; exact hl)]
  · rfl
  · have := inj (a + 1) (b + 1) (by simp; omega) (by simp; omega) (by rw [show j + (a + 1) = j + 1 + a by omega, show j + (b + 1) = j + 1 + b by omega]; exact he)
    omega
theorem obOk_emb {m : Nat} {π : Nat → Nat} {hd hd' : List Value} {h h' : List Ob} {w : World} {p : Nat → Bool} (c : Emb m π hd h hd' h') (hl : hd.length = h.length) {ob : Ob} {u : Value} (l : lowOb m ob) (q : obOk w hd h p u ob) : obOk w hd' h' p u (Va π ob) := by
 have s : Sub (only p w) (only p w) := fun _ _ h => h
 cases ob with
 | dead => trivial
 | hole => exact q
 | cells ds => obtain ⟨B, cs, t, h1, h2, h3, h4⟩ := q; exact ⟨B, cs, t, h1, h2, Zj0 c hl s _ _ l h3, h4⟩
 | buf e k xs =>
  obtain ⟨cs, h1, h2, h3, h4⟩ := q
  have el : (renR π xs).length = xs.length := by rw [We]; simp
  have ef : (renR π xs).flatten = renL π xs.flatten := by rw [We, V7, List.map_flatten]; congr 1; apply Z2; intro r _; rw [V7]
  refine ⟨cs, by rw [el]; exact h1, by rw [ef]; exact Zj0 c hl s _ _ (Je.2 l) h2, fun row hr => ?_, h4⟩
  rw [We] at hr
  obtain ⟨r0, h5, rfl⟩ := Zd.1 hr
  rw [V7, Z3]; exact h3 r0 h5
 | map es clock =>
  obtain ⟨r, arr, h1, h2, h3, h4, h5⟩ := q
  have e1 : (es.map fun e => (e.1, e.2.1, ren π e.2.2)).map (fun e => (e.1, e.2.1)) = es.map fun e => (e.1, e.2.1) := by rw [Z6]; rfl
  have e2 : (es.map fun e => (e.1, e.2.1, ren π e.2.2)).map (·.2.2) = renL π (es.map (·.2.2)) := by rw [V7, Z6, Z6]; rfl
  exact ⟨r, arr, h1, h2, by rw [e1]; exact h3, by rw [e2]; exact Zj0 c hl s _ _ l h4, h5⟩
 | iter i since seen last =>
  obtain ⟨B, r, h1, h2, h3, h4⟩ := q
  exact ⟨B, r, h1, h2, c.hd i l _ h3, h4⟩
theorem obOk_une {m : Nat} {π : Nat → Nat} {hd hd' : List Value} {h h' : List Ob} {w : World} {p : Nat → Bool} (c : Une m π hd h hd' h') (hl : hd.length = h.length) {ob : Ob} {u : Value} (l : lowOb m ob) (q : obOk w hd h p u (Va π ob)) : obOk w hd' h' p u ob := by
 have s : Sub (only p w) (only p w) := fun _ _ h => h
 cases ob with
 | dead => trivial
 | hole => exact q
 | cells ds => obtain ⟨B, cs, t, h1, h2, h3, h4⟩ := q; exact ⟨B, cs, t, h1, h2, Zb0 c hl s _ _ l h3, h4⟩
 | buf e k xs =>
  obtain ⟨cs, h1, h2, h3, h4⟩ := q
  have el : (renR π xs).length = xs.length := by rw [We]; simp
  have ef : (renR π xs).flatten = renL π xs.flatten := by rw [We, V7, List.map_flatten]; congr 1; apply Z2; intro r _; rw [V7]
  rw [el] at h1; rw [ef] at h2
  refine ⟨cs, h1, Zb0 c hl s _ _ (Je.2 l) h2, fun row hr => ?_, h4⟩
  have := h3 (renL π row) (by rw [We]; exact Zd.2 ⟨row, hr, rfl⟩)
  rwa [V7, Z3] at this
 | map es clock =>
  obtain ⟨r, arr, h1, h2, h3, h4, h5⟩ := q
  have e1 : (es.map fun e => (e.1, e.2.1, ren π e.2.2)).map (fun e => (e.1, e.2.1)) = es.map fun e => (e.1, e.2.1) := by rw [Z6]; rfl
  have e2 : (es.map fun e => (e.1, e.2.1, ren π e.2.2)).map (·.2.2) = renL π (es.map (·.2.2)) := by rw [V7, Z6, Z6]; rfl
  rw [e1] at h3; rw [e2] at h4
  exact ⟨r, arr, h1, h2, h3, Zb0 c hl s _ _ l h4, h5⟩
 | iter i since seen last =>
  obtain ⟨B, r, h1, h2, h3, h4⟩ := q
  exact ⟨B, r, h1, h2, c.hd i l _ h3, h4⟩
def Post (G : Nat → D) (w : World) (hd : List Value) (h : List Ob) (p : Nat → Bool) (K : List Ob → D → Prop) (v : Value) (w' : World) : Prop :=
 ∃ hd' h' r p', K h' r ∧ Ok G w' hd' h' p' ∧ rd hd' h' (only p' w') r v ∧ Evo w hd h p w' hd' h' p'
theorem Post.mono {G : Nat → D} {w w' : World} {hd : List Value} {h : List Ob} {p : Nat → Bool} {K K' : List Ob → D → Prop} {v : Value} (q : Post G w hd h p K v w') (k : ∀ h' r, K h' r → K' h' r) : Post G w hd h p K' v w' := by
 obtain ⟨hd', h', r, p', a, b⟩ := q
 exact ⟨hd', h', r, p', k _ _ a, b⟩
structure Lies (π : Nat → Nat) (h1 h : List Ob) : Prop where
 at_ : ∀ i ob, h1[i]? = some ob → h[π i]? = some (Va π ob)
 inj : ∀ i j, i < h1.length → j < h1.length → π i = π j → i = j
 lw : lowH h1.length h1
def pull (π : Nat → Nat) (hd : List Value) (m : Nat) : List Value := (List.range m).map fun i => (hd[π i]?).getD .nilFunc
section
variable {G : Nat → D} {w w' : World} {hd : List Value} {h h1 : List Ob} {p : Nat → Bool} {π : Nat → Nat}
theorem Ze0 (o : Ok G w hd h p) (L : Lies π h1 h) {i : Nat} (hi : i < h1.length) : (pull π hd h1.length)[i]? = hd[π i]? := by
 have := L.at_ i _ (Z0 hi)
 have hl : π i < hd.length := by rw [o.len]; exact (Z1.1 this).1
 simp [pull, hi, hl]
theorem Lies.une (o : Ok G w hd h p) (L : Lies π h1 h) : Une h1.length π hd h (pull π hd h1.length) h1 := by
 refine ⟨fun i hi u q => by rw [Ze0 o L hi]; exact q, fun i hi q => ?_, fun i e k xs hi q => ?_⟩
 · obtain ⟨ob, q1, q2⟩ := q
   have := L.at_ i _ (Z0 hi)
   rw [q1] at this; cases this
   exact ⟨_, Z0 hi, by rw [← Yd2 (π := π)]; exact q2⟩
 · exact ⟨e, renR π xs, L.at_ i _ q, by rw [We]; simp⟩
theorem low_mono0 {m : Nat} {d : D} (q : low 0 d) : low m d := Zt9 (Nat.zero_le m) d q
theorem Lies.ok (o : Ok G w hd h p) (hG : ∀ g, low 0 (G g)) (L : Lies π h1 h) : Ok G w (pull π hd h1.length) h1 p := by
 have c := L.une o
 refine ⟨by simp [pull], fun i ob u q1 q2 => ?_, fun i j oi oj ui uj b q1 q2 l1 l2 r1 r2 b1 b2 => ?_, fun g => ?_, o.ex⟩
 · have hi := (Z1.1 q1).1
   rw [Ze0 o L hi] at q2
   exact obOk_une c o.len (L.lw ob (List.mem_of_getElem? q1)) (o.ob _ _ _ (L.at_ i ob q1) q2)
 · have hi := (Z1.1 q1).1
   have hj := (Z1.1 q2).1
   rw [Ze0 o L hi] at r1; rw [Ze0 o L hj] at r2
   exact L.inj i j hi hj (o.inj _ _ _ _ _ _ b (L.at_ i _ q1) (L.at_ j _ q2) (by rw [Uk]; exact l1) (by rw [Uk]; exact l2) r1 r2 b1 b2)
 · have := o.gl g
   rw [← J8 π _ (hG g)] at this
   exact rd_une c o.len (fun _ _ h => h) _ _ (low_mono0 (hG g)) this
theorem Lies.own (o : Ok G w hd h p) (L : Lies π h1 h) {b : Nat} (q : Own (pull π hd h1.length) h1 b) : ∃ i, i < h1.length ∧ ∃ ob u, h[π i]? = some ob ∧ ob.live = true ∧ hd[π i]? = some u ∧ blk u = some b := by
 obtain ⟨i, ob, u, q1, q2, q3, q4⟩ := q
 have hi := (Z1.1 q1).1
 rw [Ze0 o L hi] at q3
 exact ⟨i, hi, _, u, L.at_ i ob q1, by rw [Uk]; exact q2, q3, q4⟩
theorem Post.frame (o : Ok G w hd h p) (hG : ∀ g, low 0 (G g)) (L : Lies π h1 h) {K1 : List Ob → D → Prop} (fit : ∀ h1' r1, K1 h1' r1 → (∀ i j, i < h1'.length → j < h1'.length → π i = π j → i = j) ∧ ∀ j, h1.length ≤ j → j < h1'.length → h[π j]? = some .hole)
 {v : Value} (q : Post G w (pull π hd h1.length) h1 p K1 v w') : Post G w hd h p (fun h' r => ∃ h1' r1, K1 h1' r1 ∧ h' = plc π h 0 (h1'.map (Va π)) ∧ r = ren π r1) v w' := by
 obtain ⟨hd1', h1', r1, p', k, o', qr, e⟩ := q
 obtain ⟨inj, slot⟩ := fit _ _ k
 have hle := e.carry.len
 have hin : ∀ j, j < h1'.length → π j < h.length := fun j hj => by
  rcases Z7 j h1.length with hj' | hj'
  · exact (Z1.1 (L.at_ j _ (Z0 hj'))).1
  · exact (Z1.1 (slot j hj' hj)).1
 have A1 : ∀ j, j < h1'.length → (plc π h 0 (h1'.map (Va π)))[π j]? = (h1'[j]?).map (Va π) := fun j hj => by
  have := plc_at (π := π) (h1'.map (Va π)) h 0 j (fun a b ha hb he => inj a b (by simpa using ha) (by simpa using hb) (by simpa using he)) (by simpa using hj) (by simpa using hin j hj)
  simpa using this
 have A2 : ∀ j, j < h1'.length → (plc π hd 0 hd1')[π j]? = hd1'[j]? := fun j hj => by
  have := plc_at (π := π) hd1' hd 0 j (fun a b ha hb he => inj a b (by rw [← o'.len]; exact ha) (by rw [← o'.len]; exact hb) (by simpa using he)) (by rw [o'.len]; exact hj) (by rw [o.len]; simpa using hin j hj)
  simpa using this
 have O1 : ∀ x, (∀ j, j < h1'.length → π j ≠ x) → (plc π h 0 (h1'.map (Va π)))[x]? = h[x]? := fun x hx => Zm7 _ _ _ fun i hi => by rw [Nat.zero_add]; exact hx i (by simpa using hi)
 have O2 : ∀ x, (∀ j, j < h1'.length → π j ≠ x) → (plc π hd 0 hd1')[x]? = hd[x]? := fun x hx => Zm7 _ _ _ fun i hi => by rw [Nat.zero_add]; exact hx i (by rw [← o'.len]; exact hi)
 have P1 : ∀ j, j < h1.length → (pull π hd h1.length)[j]? = hd[π j]? := fun j hj => Ze0 o L hj
 generalize hh : plc π h 0 (h1'.map (Va π)) = h' at A1 O1
 generalize hv : plc π hd 0 hd1' = hd' at A2 O2
 have len1 : h'.length = h.length := by rw [← hh, Yi7]
 have len2 : hd'.length = hd.length := by rw [← hv, Yi7]
 have split : ∀ x, (∃ j, j < h1'.length ∧ π j = x) ∨ ∀ j, j < h1'.length → π j ≠ x := fun x => by
  by_cases hx : ∃ j, j < h1'.length ∧ π j = x
  · exact .inl hx
  · exact .inr fun j hj he => hx ⟨j, hj, he⟩
 have emb : Emb h1'.length π hd1' h1' hd' h' := by
  refine ⟨fun i hi u q => by rw [A2 i hi]; exact q, fun i hi ⟨ob, q1, q2⟩ => ⟨Va π ob, by rw [A1 i hi, q1]; rfl, by rw [Yd2]; exact q2⟩, fun i E k xs hi _ q => ?_⟩
  rw [A1 i hi, Z0 hi] at q
  simp only [Z5, Option.some.injEq] at q
  cases ho : h1'[i] with
  | buf e0 k0 ys => rw [ho] at q; cases q; exact ⟨_, ys, by rw [Z0 hi, ho], by rw [We]; simp⟩
  | _ => rw [ho] at q; cases q
 have own1 : ∀ b, b < w.heap.size → Own hd1' h1' b → ∃ i, i < h1.length ∧ ∃ ob u, h[π i]? = some ob ∧ ob.live = true ∧ hd[π i]? = some u ∧ blk u = some b := fun b hb ho => L.own o (e.own b hb ho)
 have ownR : ∀ {b : Nat}, Own (pull π hd h1.length) h1 b → Own hd h b := fun ho => by
  obtain ⟨i, _, ob, u, q1, q2, q3, q4⟩ := L.own o ho
  exact ⟨π i, ob, u, q1, q2, q3, q4⟩
 have ownB : ∀ {b x : Nat} {ob : Ob} {u : Value}, h'[x]? = some ob → ob.live = true → hd'[x]? = some u → blk u = some b → (∃ j, j < h1'.length ∧ π j = x) → Own hd1' h1' b := fun {b x ob u} q1 q2 q3 q4 ⟨j, hj, hx⟩ => by
  subst hx
  rw [A1 j hj, Z0 hj] at q1
  cases q1
  rw [A2 j hj] at q3
  exact ⟨j, _, u, Z0 hj, by rw [← Uk (π := π)]; exact q2, q3, q4⟩
 have nohole : ∀ {j : Nat} {u : Value}, h1.length ≤ j → j < h1'.length → hd[π j]? = some u → u = .nilFunc := fun {j u} h2 h3 hu => o.ob _ _ _ (slot j h2 h3) hu
 have E : Evo w hd h p w' hd' h' p' := by
  refine ⟨e.os, e.tape, e.output, e.size, fun b hb hn => e.keep b hb fun ho => hn (ownR ho), e.vis, fun b hb hp => (e.seen b hb hp).imp id ownR, fun b hb ho => ?_, by omega, fun i B q => ?_, fun i B q => ?_, fun i q => ?_, fun i E k xs hu q => ?_⟩
  · obtain ⟨x, ob, u, q1, q2, q3, q4⟩ := ho
    rcases split x with hx | hx
    · exact ownR (e.own b hb (ownB q1 q2 q3 q4 hx))
    · rw [O1 x hx] at q1; rw [O2 x hx] at q3
      exact ⟨x, ob, u, q1, q2, q3, q4⟩
  · rcases split i with ⟨j, hj, rfl⟩ | hx
    · rcases Z7 j h1.length with hj' | hj'
      · rw [A2 j hj]; exact e.carry.ptr j B (by rw [P1 j hj']; exact q)
      · cases nohole hj' hj q
    · rw [O2 i hx]; exact q
  · rcases split i with ⟨j, hj, rfl⟩ | hx
    · rcases Z7 j h1.length with hj' | hj'
      · rw [A2 j hj]; exact e.carry.mp j B (by rw [P1 j hj']; exact q)
      · cases nohole hj' hj q
    · rw [O2 i hx]; exact q
  · rcases split i with ⟨j, hj, rfl⟩ | hx
    · rcases Z7 j h1.length with hj' | hj'
      · exact emb.usd j hj (e.carry.usd j ((L.une o).usd j hj' q))
      · obtain ⟨ob, q1, q2⟩ := q
        rw [slot j hj' hj] at q1; cases q1; cases q2
    · obtain ⟨ob, q1, q2⟩ := q
      exact ⟨ob, by rw [O1 i hx]; exact q1, q2⟩
  · rcases split i with ⟨j, hj, rfl⟩ | hx
    · rcases Z7 j h1.length with hj' | hj'
      · have hu1 := (L.une o).usd j hj' hu
        obtain ⟨e0, ys, g1, g2⟩ := emb.buf j E k xs hj (e.carry.usd j hu1) q
        obtain ⟨e1, zs, g3, g4, g5⟩ := e.carry.buf j e0 k ys hu1 g1
        refine ⟨e1, renR π zs, L.at_ j _ g3, by rw [We, Z3]; omega, fun he => ?_⟩
        rw [We, Z3] at he
        rw [A2 j hj, g5 (by omega), P1 j hj']
      · obtain ⟨ob, q1, q2⟩ := hu
        rw [slot j hj' hj] at q1; cases q1; cases q2
    · rw [O1 i hx] at q
      exact ⟨E, xs, q, Ze _, fun _ => O2 i hx⟩
 have outB : ∀ {x : Nat} {ob : Ob} {u : Value} {b : Nat}, (∀ j, j < h1'.length → π j ≠ x) → h[x]? = some ob → ob.live = true → hd[x]? = some u → blk u = some b → ¬ Own (pull π hd h1.length) h1 b := fun {x ob u b} hx q1 q2 q3 q4 ho => by
  obtain ⟨i, hi, ob', u', g1, g2, g3, g4⟩ := L.own o ho
  exact hx i (by omega) (o.inj _ _ _ _ _ _ b g1 q1 g2 q2 g3 q3 g4 q4)
 refine ⟨hd', h', ren π r1, p', ⟨h1', r1, k, hh.symm, rfl⟩, ⟨by rw [len1, len2]; exact o.len, fun i ob u q1 q2 => ?_, fun i j oi oj ui uj b q1 q2 l1 l2 r1' r2 b1 b2 => ?_, Zb5 E o, Zb7 E o⟩, rd_emb emb o'.len (fun _ _ h => h) _ _ (rd_low o'.len _ _ qr) qr, E⟩
 · rcases split i with ⟨j, hj, rfl⟩ | hx
   · rw [A1 j hj, Z0 hj] at q1
     rw [A2 j hj] at q2
     cases q1
     exact obOk_emb emb o'.len (o'.allLow _ (List.getElem_mem hj)) (o'.ob j _ u (Z0 hj) q2)
   · rw [O1 i hx] at q1; rw [O2 i hx] at q2
     refine (o.ob i ob u q1 q2).move E o (fun hl b hb => e.keep b (o.lt ⟨i, ob, u, q1, hl, q2, hb⟩) (outB hx q1 hl q2 hb)) fun hl b hb hp => ?_
     cases hp' : p' b with
     | false => rfl
     | true =>
      rcases e.seen b (o.lt ⟨i, ob, u, q1, hl, q2, hb⟩) hp' with h2 | h2
      · rw [hp] at h2; cases h2
      · exact absurd h2 (outB hx q1 hl q2 hb)
 · have mix : ∀ {x y : Nat} {ox oy : Ob} {ux uy : Value}, h'[x]? = some ox → h'[y]? = some oy → ox.live = true → oy.live = true → hd'[x]? = some ux → hd'[y]? = some uy → blk ux = some b → blk uy = some b → (∃ j, j < h1'.length ∧ π j = x) → (∀ j, j < h1'.length → π j ≠ y) → False := fun {x y ox oy ux uy} q1 q2 l1 l2 r1 r2 b1 b2 hx hy => by
    rw [O1 y hy] at q2; rw [O2 y hy] at r2
    have hb := o.lt ⟨y, oy, uy, q2, l2, r2, b2⟩
    exact outB hy q2 l2 r2 b2 (e.own b hb (ownB q1 l1 r1 b1 hx))
   rcases split i with hi | hi <;> rcases split j with hj | hj
   · obtain ⟨a, ha, rfl⟩ := hi
     obtain ⟨c, hc, rfl⟩ := hj
     rw [A1 a ha, Z0 ha] at q1
     rw [A1 c hc, Z0 hc] at q2
     rw [A2 a ha] at r1'; rw [A2 c hc] at r2
     cases q1; cases q2
     rw [o'.inj a c _ _ ui uj b (Z0 ha) (Z0 hc) (by rw [← Uk (π := π)]; exact l1) (by rw [← Uk (π := π)]; exact l2) r1' r2 b1 b2]
   · exact (mix q1 q2 l1 l2 r1' r2 b1 b2 hi hj).elim
   · exact (mix q2 q1 l2 l1 r2 r1' b2 b1 hj hi).elim
   · rw [O1 i hi] at q1; rw [O2 i hi] at r1'
     rw [O1 j hj] at q2; rw [O2 j hj] at r2
     exact o.inj i j oi oj ui uj b q1 q2 l1 l2 r1' r2 b1 b2
end
end
section
variable {P : Program} {G : Nat → D} {n : Nat} {e : Nat → D} {h : List Ob}
section
variable {x y : Code} {Q : Exit → S → Prop} {s : S} {c : Operand}
theorem Vp (k : aw P G x (Zv2 (aw P G y Q) Q) s) : aw P G (.seq x y) Q s := aw_seq fun _ q => Zk5 k fun e s r => by cases e <;> first | exact q _ r | exact r
theorem Xs {id : Nat} {l : List Oper} (k : ao P G l.toArray l (Q .normal) s) : aw P G (.region id l.toArray false) Q s := aw_region fun _ q => fun B a w r R hR => k B a w r R fun s' a' w' t => hR s' a' w' (q _ t)
theorem Zd1 (k : ev G s.env c = .v (.bool true)) (h1 : aw P G x Q s) : aw P G (.cond c x y) Q s := aw_cond true k (fun _ => h1) fun h => by cases h
theorem Za1 (k : ev G s.env c = .v (.bool false)) (h1 : aw P G y Q s) : aw P G (.cond c x y) Q s := aw_cond false k (fun h => by cases h) fun _ => h1
end
section
variable {ops : Array Oper} {rest : List Oper} {Q : S → Prop} {t : Nat} {op : Op} {ty : TypeId} {pos : String} {aft : Array Edge} {gd : Option (Nat × Bool)}
theorem ao1 (hw : Yc ops gd e = some true) (ht : decide (t < n) = true) (H : ∀ K : List Ob → D → Prop, (∀ h' d, ao P G ops rest Q ⟨n, upd e t d, h'⟩ → K h' d) → aOp P G e h K op) : ao P G ops (⟨some t, op, ty, pos, aft, gd⟩ :: rest) Q ⟨n, e, h⟩ :=
 ao_cons hw fun K k => H K fun h' d q => k h' d (by unfold S.put; simp only [if_pos (of_decide_eq_true ht)]; exact q)
theorem ao1' (hw : Yc ops gd e = some true) (H : ∀ K : List Ob → D → Prop, (∀ h' d, ao P G ops rest Q ⟨n, e, h'⟩ → K h' d) → aOp P G e h K op) : ao P G ops (⟨none, op, ty, pos, aft, gd⟩ :: rest) Q ⟨n, e, h⟩ := ao_cons hw H
theorem ao0 (hw : Yc ops gd e = some false) (ht : decide (t < n) = true) (H : ao P G ops rest Q ⟨n, upd e t (.v undef), h⟩) : ao P G ops (⟨some t, op, ty, pos, aft, gd⟩ :: rest) Q ⟨n, e, h⟩ :=
 ao_skip hw (by unfold S.put; simp only [if_pos (of_decide_eq_true ht)]; exact H)
theorem ao0' (hw : Yc ops gd e = some false) (H : ao P G ops rest Q ⟨n, e, h⟩) : ao P G ops (⟨none, op, ty, pos, aft, gd⟩ :: rest) Q ⟨n, e, h⟩ := ao_skip hw H
theorem ao2 {x : Operand} {args : Array Operand} {tys : Array TypeId} {f : FuncId} {cap : List D} {R : List Ob → D → Prop} (hw : Yc ops gd e = some true) (ht : decide (t < n) = true) (hx : ev G e x = .fn f cap) (he : entB P f = true)
 (hc : Does P G f h (args.toList.map (ev G e) ++ cap) R) (H : ∀ h' r, R h' r → ao P G ops rest Q ⟨n, upd e t r, h'⟩) : ao P G ops (⟨some t, .call ⟨.value x, args, tys⟩, ty, pos, aft, gd⟩ :: rest) Q ⟨n, e, h⟩ :=
 ao_call hw hx he hc fun h' r q => by unfold S.put; simp only [if_pos (of_decide_eq_true ht)]; exact H h' r q
end
@[go_sem] theorem upd_app (t : Nat) (d : D) (x : Nat) : upd e t d x = if x = t then d else e x := rfl
@[go_sem] theorem ev_tmp (t : Nat) : ev G e (.tmp t) = e t := rfl
@[go_sem] theorem ev_const (v : Value) : ev G e (.const v) = .v v := rfl
@[go_sem] theorem ev_func (f : FuncId) : ev G e (.func f) = .fn f [] := rfl
@[go_sem] theorem ev_global (g : Nat) : ev G e (.global g) = G g := rfl
section
variable {K : List Ob → D → Prop} {x y z : Operand} {t u : TypeId}
@[go_sem] theorem aOp_move : aOp P G e h K (.move x) = K h (ev G e x) := rfl
@[go_sem] theorem aOp_assign : aOp P G e h K (.assign x) = K h (ev G e x) := rfl
theorem Yo {b : Bool} (k : ev G e x = .v (.bool b)) (q : K h (if b then ev G e y else ev G e z)) : aOp P G e h K (.pick x y z) := ⟨b, k, q⟩
@[go_sem] theorem aOp_bin {op : BinOp} : aOp P G e h K (.binOp op t x y u) = on (binD P op t x y (ev G e x) (ev G e y)) (K h) := rfl
@[go_sem] theorem aOp_un {op : UnOp} : aOp P G e h K (.unOp op t x) = on (unD P op (ev G e x)) (K h) := rfl
@[go_sem] theorem aOp_conv : aOp P G e h K (.convert t u x) = cvA P h t u (ev G e x) K := rfl
@[go_sem] theorem aOp_build {parts : Array (Nat × Operand)} : aOp P G e h K (.build t parts) = on (Zs3 P t (parts.toList.map fun q => (q.1, ev G e q.2))) fun ds => K h (.agg ds) := rfl
@[go_sem] theorem aOp_lit {parts : Array (Nat × Operand)} {len : Nat} : aOp P G e h K (.buildSlice t len parts) = on (litD P t len (parts.toList.map fun q => (q.1, ev G e q.2))) fun r => K (h ++ [.buf r.1 r.2.1 r.2.2]) (.buf h.length len) := rfl
@[go_sem] theorem aOp_slice {lo hi : Option Operand} : aOp P G e h K (.slice t x lo hi none) = slcA P t (ev G e x) (lo.map (ev G e)) (hi.map (ev G e)) (K h) := rfl
@[go_sem] theorem aOp_index : aOp P G e h K (.index t x y) = indA P t (ev G e x) (ev G e y) (K h) := rfl
@[go_sem] theorem aOp_extract {i : Nat} : aOp P G e h K (.extract x i) = on (extrD i (ev G e x)) (K h) := rfl
@[go_sem] theorem aOp_field {f : Nat} : aOp P G e h K (.field t x f) = on (fieldD P t f (ev G e x)) (K h) := rfl
@[go_sem] theorem aOp_load : aOp P G e h K (.load t x) = on (Ug P h t (ev G e x)) (K h) := rfl
@[go_sem] theorem aOp_store : aOp P G e h K (.store t x y) = on (J5 P h t (ev G e x) (ev G e y)) fun h' => K h' (.v undef) := rfl
@[go_sem] theorem aOp_faddr {f : Nat} : aOp P G e h K (.fieldAddr t x f) = on (Zz2 P t f (ev G e x)) (K h) := rfl
@[go_sem] theorem aOp_iaddr : aOp P G e h K (.indexAddr t x y) = idxA P h t (ev G e x) (ev G e y) (K h) := rfl
@[go_sem] theorem aOp_nil : aOp P G e h K (.nilCheck x) = (isPtr (ev G e x) = true ∧ K h (ev G e x)) := rfl
@[go_sem] theorem aOp_box : aOp P G e h K (.box t x) = on (ev G e x).cells fun ds => K (h ++ [.cells ds]) (.ptr h.length 0) := rfl
@[go_sem] theorem aOp_alloc : aOp P G e h K (.alloc t) = on (Vq P t) fun ds => K (h ++ [.cells ds]) (.ptr h.length 0) := rfl
end
@[go_sem] theorem on_some' {α : Type} {a : α} {K : α → Prop} : on (some a) K = K a := rfl
section
variable {t : TypeId} {x y : Operand} {k : IntKind} {a b : Int}
@[go_sem] theorem binD_v {op : BinOp} {X Y : Value} : binD P op t x y (.v X) (.v Y) = binV P op t x y X Y := rfl
@[go_sem] theorem b_eql : binV P .eql t x y (.int k a) (.int k b) = some (.v (.bool (decide (a = b)))) := by cases k <;> rfl
@[go_sem] theorem b_neq : binV P .neq t x y (.int k a) (.int k b) = some (.v (.bool (!decide (a = b)))) := by cases k <;> rfl
@[go_sem] theorem b_lss : binV P .lss t x y (.int k a) (.int k b) = some (.v (.bool (decide (a < b)))) := by cases k <;> rfl
@[go_sem] theorem b_leq : binV P .leq t x y (.int k a) (.int k b) = some (.v (.bool (decide (a ≤ b)))) := by cases k <;> rfl
@[go_sem] theorem b_gtr : binV P .gtr t x y (.int k a) (.int k b) = some (.v (.bool (decide (b < a)))) := by cases k <;> rfl
@[go_sem] theorem b_geq : binV P .geq t x y (.int k a) (.int k b) = some (.v (.bool (decide (b ≤ a)))) := by cases k <;> rfl
@[go_sem] theorem b_add : binV P .add t x y (.int k a) (.int k b) = some (.v (.int k (k.wrap (a + b)))) := by cases k <;> rfl
@[go_sem] theorem b_sub : binV P .sub t x y (.int k a) (.int k b) = some (.v (.int k (k.wrap (a - b)))) := by cases k <;> rfl
@[go_sem] theorem b_mul : binV P .mul t x y (.int k a) (.int k b) = some (.v (.int k (k.wrap (a * b)))) := by cases k <;> rfl
@[go_sem] theorem u_neg {op : IntKind} : unD P .neg (.v (.int k a)) = some (.v (.int k (k.wrap (0 - a)))) := rfl
@[go_sem] theorem u_not {c : Bool} : unD P .not (.v (.bool c)) = some (.v (.bool (!c))) := rfl
end
@[go_sem] theorem extrD_tup {i : Nat} {ds : List D} : extrD i (.tup ds) = ds[i]? := rfl
section
variable {K : List Ob → D → Prop} {t u : TypeId}
@[go_sem] theorem aOp_bi {b : Builtin} {args : Array Operand} {tys : Array TypeId} : aOp P G e h K (.call ⟨.builtin b, args, tys⟩) = biA P h b tys.toList (args.toList.map (ev G e)) K := rfl
@[go_sem] theorem biA_len {x : D} : biA P h .len [t] [x] K = on (lenD P t x) (K h) := rfl
@[go_sem] theorem biA_append {x y : D} : biA P h .append [t, u] [x, y] K = apA P h t u x y K := rfl
@[go_sem] theorem lenD_sl {k : Nat} {xs : List (List D)} (q : slT P t = true) : lenD P t (.sl k xs) = some (.v (.int .i64 xs.length)) := by simp only [lenD, q, if_true]
@[go_sem] theorem lenD_buf {i n : Nat} (q : slT P t = true) : lenD P t (.buf i n) = some (.v (.int .i64 n)) := by simp only [lenD, q, if_true]
@[go_sem] theorem lenD_nil (q : slT P t = true) : lenD P t (.v (.slice none 0 0)) = some (.v (.int .i64 0)) := by
 unfold slT at q
 split at q
 · rename_i e he
   unfold lenD Builtin.len_ Go.underlying
   simp [Wj, bind, Sem.bind, program, he, pure, goInt]
 · cases q
@[go_sem] theorem lenD_str {s : ByteArray} (q : strT P t = true) : lenD P t (.v (.string s)) = some (.v (.int .i64 s.size)) := by
 unfold strT at q
 split at q
 · rename_i he
   unfold lenD Builtin.len_ Go.underlying
   simp [Wj, bind, Sem.bind, program, he, pure, goInt]
 · cases q
@[go_sem] theorem idxA_sl {k : Nat} {xs : List (List D)} {κ : IntKind} {m : Int} {K : D → Prop} : idxA P h t (.sl k xs) (.v (.int κ m)) K = (((elT P t).bind (szT P)) = some k ∧ 0 ≤ m ∧ m < (xs.length : Int) ∧ ∀ row, xs[m.toNat]? = some row → K (.rp row)) := rfl
@[go_sem] theorem idxA_buf {i n : Nat} {κ : IntKind} {m : Int} {K : D → Prop} : idxA P h t (.buf i n) (.v (.int κ m)) K = (∃ e k xs, h[i]? = some (.buf e k xs) ∧ xs.length = n ∧ ((elT P t).bind (szT P)) = some k ∧ 0 ≤ m ∧ m < (n : Int) ∧ K (.bp i n m.toNat 0)) := rfl
@[go_sem] theorem idxA_win {i n a b : Nat} {κ : IntKind} {m : Int} {K : D → Prop} : idxA P h t (.win i n a b) (.v (.int κ m)) K = (∃ e k xs, h[i]? = some (.buf e k xs) ∧ xs.length = n ∧ ((elT P t).bind (szT P)) = some k ∧ 0 ≤ m ∧ m < ((b - a : Nat) : Int) ∧ K (.bp i n (a + m.toNat) 0)) := rfl
@[go_sem] theorem getD_one {ds : List D} {o : Nat} (q : aggT P t = some false) : getD P t ds o = ds[o]? := by simp only [getD, q]
theorem getD_agg {ds : List D} {o m : Nat} (q : aggT P t = some true) (r : szT P t = some m) (l : o + m ≤ ds.length) : getD P t ds o = some (.agg ((ds.drop o).take m)) := by simp only [getD, q, r, if_pos l]
@[go_sem] theorem loadD_rp {ds : List D} : Ug P h t (.rp ds) = getD P t ds 0 := rfl
@[go_sem] theorem faddr_eq {f : Nat} {x : D} : Zz2 P t f x = (fldT P t f).bind fun q => if nzT P q.2 = true then addD q.1 x else none := rfl
@[go_sem] theorem addD_ptr {i o q : Nat} : addD o (.ptr i q) = some (.ptr i (q + o)) := rfl
@[go_sem] theorem addD_rp {o : Nat} {ds : List D} : addD o (.rp ds) = some (.rp (ds.drop o)) := rfl
@[go_sem] theorem addD_bp {i o n r j : Nat} : addD o (.bp i n r j) = some (.bp i n r (j + o)) := rfl
@[go_sem] theorem getD_agg' {ds : List D} {o : Nat} (q : aggT P t = some true) : getD P t ds o = match szT P t with
 | some n => if o + n ≤ ds.length then some (.agg ((ds.drop o).take n)) else none
 | none => none := by unfold getD; rw [q]; cases szT P t <;> rfl
end
theorem Yn {α : Type} {f : α → List D} {l : List α} {i : Nat} {a : α} {K : List D → Prop} (q : l[i]? = some a) (k : K (f a)) : ∀ row, (l.map f)[i]? = some row → K row := fun row hr => by
 rw [List.getElem?_map, q] at hr; cases hr; exact k
theorem Vt {α : Type} {f : α → List D} {l : List α} {i : Nat} {row : List D} (q : (l.map f)[i]? = some row) : ∃ a, l[i]? = some a ∧ f a = row := by
 rw [List.getElem?_map, Option.map_eq_some_iff] at q; exact q
section
variable {K : S → Prop} {Q : Exit → S → Prop} {s : S} {i j : Nat}
theorem Jf (q : K s) : Zv2 K Q .normal s := q
theorem Yg6 (q : Q (.exit i) s) : Zv2 K Q (.exit i) s := q
theorem thenS_r (q : Q .ret s) : Zv2 K Q .ret s := q
theorem inB_n (q : Q .normal s) : Uh i Q .normal s := q
theorem inB_r (q : Q .ret s) : Uh i Q .ret s := q
theorem inB_x (q : Q .normal s) : Uh i Q (.exit i) s := by
 show if i = i then _ else _
 rw [if_pos rfl]; exact q
theorem inB_y (hne : (j == i) = false) (q : Q (.exit j) s) : Uh i Q (.exit j) s := by
 show if j = i then _ else _
 rw [if_neg (by simpa using hne)]; exact q
end
theorem X1 {K : List Ob → D → Prop} {q : Prop} [Decidable q] (h1 : q → K h (.v (.bool true))) (h0 : ¬ q → K h (.v (.bool false))) : K h (.v (.bool (decide q))) := by
 by_cases hq : q
 · rw [decide_eq_true hq]; exact h1 hq
 · rw [decide_eq_false hq]; exact h0 hq
theorem Zh4 {K : List Ob → D → Prop} {q : Prop} [Decidable q] (h1 : q → K h (.v (.bool false))) (h0 : ¬ q → K h (.v (.bool true))) : K h (.v (.bool (!decide q))) := by
 by_cases hq : q
 · rw [decide_eq_true hq]; exact h1 hq
 · rw [decide_eq_false hq]; exact h0 hq
theorem Yh {c : Code} {Q : Exit → S → Prop} (I : Nat → (Nat → D) → List Ob → Prop) (m : Nat) (h0 : I m e h) (round : ∀ m e h, I m e h → aw P G c (Zv2 (fun s' => s'.n = n ∧ ∃ m', m' < m ∧ I m' s'.env s'.h) Q) ⟨n, e, h⟩) : aw P G (.loop c) Q ⟨n, e, h⟩ :=
 aw_loop (fun m s => s.n = n ∧ I m s.env s.h) m ⟨rfl, h0⟩ fun m ⟨n', e', h'⟩ ⟨hn, hI⟩ => by
  have hn : n' = n := hn
  subst hn
  exact Zk5 (round m e' h' hI) fun ex s q => by
   cases ex <;> first | (obtain ⟨q1, m', q2, q3⟩ := q; exact ⟨m', q2, q1, q3⟩) | exact q
section
variable {K : List Ob → D → Prop} {t u : TypeId} {k κ : IntKind} {m : Int} {x : D} {b : List UInt8}
@[go_sem] theorem cv_int (q : (intT P t).isSome = true) (r : (intT P u).isSome = true) : cvA P h t u (.v (.int κ m)) K = on ((intT P u).map fun k => D.v (.int k (k.wrap m))) (K h) := by
 obtain ⟨κ', q⟩ := Zb.1 q
 obtain ⟨k, r⟩ := Zb.1 r
 have h1 := Zy2 q
 have h2 := Zy2 r
 have e : Wj P (convert t u (.int κ m)) = some (.int k (k.wrap m)) := by
  unfold convert Go.underlying
  simp [bind, Sem.bind, program, Wj, h1, h2, pure, Conv.intToInt]
 unfold cvA convD
 simp only [e, Z5, on, r]
@[go_sem] theorem cv_sl {n : Nat} {xs : List (List D)} : cvA P h t u (.sl n xs) K = bstD P t u h (.sl n xs) (K h) := rfl
@[go_sem] theorem cv_buf {i n : Nat} : cvA P h t u (.buf i n) K = bstD P t u h (.buf i n) (K h) := rfl
theorem cv_by {s : ByteArray} (hb : byT P u = true) (ht : (P.underlying t).isSome = true) (hs : s.size ≤ 140737488355328) (q : K h (.sl 1 (byD s.data.toList))) : cvA P h t u (.v (.string s)) K := .inl ⟨hb, ht, hs, q⟩
theorem Zr3 {K : D → Prop} {n : Nat} {xs : List (List D)} {lo hi : Option D} {l r : Int} (h1 : (elT P t).bind (szT P) = some n) (hl : bndD 0 lo = some l) (hr : bndD xs.length hi = some r) (h2 : 0 ≤ l) (h3 : l ≤ r) (h4 : r ≤ xs.length) (q : K (.sl n ((xs.take r.toNat).drop l.toNat))) : slcA P t (.sl n xs) lo hi K := ⟨l, r, h1, hl, hr, h2, h3, h4, q⟩
theorem ind_str {K : D → Prop} {s : ByteArray} (h1 : strT P t = true) (h2 : 0 ≤ m) (h3 : m < (s.size : Int)) (q : ∀ b, s.data[m.toNat]? = some b → K (.v (.int .u8 b.toNat))) : indA P t (.v (.string s)) (.v (.int κ m)) K := ⟨h1, h2, h3, q⟩
@[go_sem] theorem b_quo {x y : Operand} {a c : Int} (q : (c == 0) = false) : binV P .quo t x y (.int k a) (.int k c) = some (.v (.int k (k.wrap (a.tdiv c)))) := by
 have q : c ≠ 0 := by simpa using q
 cases k <;> simp [binV, binOp, Op.intDiv, eqGuard, q, bind, Sem.bind, pure, Wj]
@[go_sem] theorem b_rem {x y : Operand} {a c : Int} (q : (c == 0) = false) : binV P .rem t x y (.int k a) (.int k c) = some (.v (.int k (a.tmod c))) := by
 have q : c ≠ 0 := by simpa using q
 cases k <;> simp [binV, binOp, Op.intDiv, eqGuard, q, bind, Sem.bind, pure, Wj]
@[go_sem] theorem b_shl {x y : Operand} {a c : Int} (q : decide (0 ≤ c) = true) : binV P .shl t x y (.int k a) (.int κ c) = some (.v (.int k (k.wrap (a * 2 ^ min c.toNat k.bits)))) := by
 have q : ¬ c < 0 := by have := of_decide_eq_true q; omega
 simp [binV, binOp, Op.shift, eqGuard, q, bind, Sem.bind, pure, Wj]
@[go_sem] theorem b_shr {x y : Operand} {a c : Int} (q : decide (0 ≤ c) = true) : binV P .shr t x y (.int k a) (.int κ c) = some (.v (.int k (a.fdiv (2 ^ min c.toNat k.bits)))) := by
 have q : ¬ c < 0 := by have := of_decide_eq_true q; omega
 simp [binV, binOp, Op.shift, eqGuard, q, bind, Sem.bind, pure, Wj]
@[go_sem] theorem b_xor {x y : Operand} {a c : Int} : binV P .xor t x y (.int k a) (.int k c) = some (.v (.int k (k.wrap (BitVec.ofInt k.bits a ^^^ BitVec.ofInt k.bits c).toNat))) := by cases k <;> rfl
@[go_sem] theorem b_and {x y : Operand} {a c : Int} : binV P .and t x y (.int k a) (.int k c) = some (.v (.int k (k.wrap (BitVec.ofInt k.bits a &&& BitVec.ofInt k.bits c).toNat))) := by cases k <;> rfl
@[go_sem] theorem b_or {x y : Operand} {a c : Int} : binV P .or t x y (.int k a) (.int k c) = some (.v (.int k (k.wrap (BitVec.ofInt k.bits a ||| BitVec.ofInt k.bits c).toNat))) := by cases k <;> rfl
theorem ba_loop (s : ByteArray) : ∀ (k i : Nat) (r : List UInt8), s.size - i = k → Z8.loop s i r = r.reverse ++ s.data.toList.drop i
 | 0, i, r, hk => by
  rw [Z8.loop, if_neg (by omega), List.drop_eq_nil_of_le (by show s.data.toList.length ≤ i; rw [Array.length_toList]; exact (show s.size ≤ i by omega)), List.append_nil]
 | k + 1, i, r, hk => by
  have hi : i < s.size := by omega
  have hi' : i < s.data.toList.length := by rw [Array.length_toList]; exact hi
  rw [Z8.loop, if_pos hi, ba_loop s k (i + 1) _ (by omega), List.drop_eq_getElem_cons hi']
  have : s.get! i = s.data.toList[i] := by
   unfold ByteArray.get!
   rw [Array.getElem_toList]
   exact getElem!_pos s.data i hi
  rw [this]; simp
theorem U6 (s : ByteArray) : s.toList = s.data.toList := by
 unfold Z8
 rw [ba_loop s _ 0 [] rfl]; simp
theorem Zg1 (a b : ByteArray) : (a.toList == b.toList) = decide (a = b) := by
 rw [Bool.eq_iff_iff, decide_eq_true_eq, beq_iff_eq]
 exact ⟨fun q => ByteArray.ext (Array.ext' (by rw [← U6, ← U6]; exact q)), fun q => by rw [q]⟩
@[go_sem] theorem b_seql {x y : Operand} {a c : ByteArray} : binV P .eql t x y (.string a) (.string c) = some (.v (.bool (decide (a = c)))) := by
 rw [← Zg1]; rfl
@[go_sem] theorem b_sneq {x y : Operand} {a c : ByteArray} : binV P .neq t x y (.string a) (.string c) = some (.v (.bool (!decide (a = c)))) := by
 rw [← Zg1]; rfl
@[go_sem] theorem b_slss {x y : Operand} {a c : ByteArray} : binV P .lss t x y (.string a) (.string c) = some (.v (.bool (Op.bytesLess a.toList c.toList))) := rfl
@[go_sem] theorem b_sgeq {x y : Operand} {a c : ByteArray} : binV P .geq t x y (.string a) (.string c) = some (.v (.bool (!Op.bytesLess a.toList c.toList))) := rfl
@[go_sem] theorem b_sgtr {x y : Operand} {a c : ByteArray} : binV P .gtr t x y (.string a) (.string c) = some (.v (.bool (!(Op.bytesLess a.toList c.toList || decide (a = c))))) := by
 rw [← Zg1]; rfl
@[go_sem] theorem b_sleq {x y : Operand} {a c : ByteArray} : binV P .leq t x y (.string a) (.string c) = some (.v (.bool (Op.bytesLess a.toList c.toList || decide (a = c)))) := by
 rw [← Zg1]; rfl
end
section
variable {h : List Ob} {t : TypeId} {i o k : Nat} {y : D} {a : Ob} {l : List Ob}
@[go_sem] theorem loadD_ptr : Ug P h t (.ptr i o) = match h[i]? with
 | some (.cells ds) => getD P t ds o
 | _ => none := rfl
@[go_sem] theorem storeD_ptr : J5 P h t (.ptr i o) y = match y.cells with
 | none => none
 | some es => if es.all D.one && szT P t == some es.length then match h[i]? with
  | some (.cells ds) => if o + es.length ≤ ds.length then some (h.set i (.cells (putL ds o es))) else none
  | _ => none
  else none := by unfold J5; rfl
theorem hp_get0 : (h ++ l)[h.length]? = l[0]? := by rw [Z9 (Ze _), Nat.sub_self]
theorem hp_getk : (h ++ l)[h.length + k]? = l[k]? := by rw [Z9 (by omega)]; congr 1; omega
theorem hp_set0 {x : Ob} : (h ++ l).set h.length x = h ++ l.set 0 x := by rw [List.set_append_right _ _ (Ze _), Nat.sub_self]
theorem hp_setk {x : Ob} : (h ++ l).set (h.length + k) x = h ++ l.set k x := by rw [List.set_append_right _ _ (by omega)]; congr 2; omega
theorem hps_get0 {x : Ob} : (h.set i x ++ l)[h.length]? = l[0]? := by have := hp_get0 (h := h.set i x) (l := l); rwa [Z4] at this
theorem hps_getk {x : Ob} : (h.set i x ++ l)[h.length + k]? = l[k]? := by have := hp_getk (h := h.set i x) (l := l) (k := k); rwa [Z4] at this
theorem hps_set0 {x y : Ob} : (h.set i x ++ l).set h.length y = h.set i x ++ l.set 0 y := by have := hp_set0 (h := h.set i x) (l := l) (x := y); rwa [Z4] at this
theorem hps_setk {x y : Ob} : (h.set i x ++ l).set (h.length + k) y = h.set i x ++ l.set k y := by have := hp_setk (h := h.set i x) (l := l) (k := k) (x := y); rwa [Z4] at this
end
@[go_sem] theorem argEnv_zero {a : D} {l : List D} : Zs4 (a :: l) 0 = a := rfl
@[go_sem] theorem argEnv_succ {a : D} {l : List D} {k : Nat} : Zs4 (a :: l) (k + 1) = Zs4 l k := by simp [Zs4]
@[go_sem] theorem cells_int {k : IntKind} {m : Int} : (D.v (.int k m)).cells = some [.v (.int k m)] := rfl
@[go_sem] theorem cells_bool {b : Bool} : (D.v (.bool b)).cells = some [.v (.bool b)] := rfl
@[go_sem] theorem cells_str {s : ByteArray} : (D.v (.string s)).cells = some [.v (.string s)] := rfl
@[go_sem] theorem cells_nsl : (D.v (.slice none 0 0)).cells = some [.v (.slice none 0 0)] := rfl
@[go_sem] theorem cells_sl {k : Nat} {xs : List (List D)} : (D.sl k xs).cells = some [.sl k xs] := rfl
@[go_sem] theorem cells_buf {i m : Nat} : (D.buf i m).cells = some [.buf i m] := rfl
@[go_sem] theorem cells_ptr {i m : Nat} : (D.ptr i m).cells = some [.ptr i m] := rfl
@[go_sem] theorem cells_agg {ds : List D} : (D.agg ds).cells = some ds := rfl
@[go_sem] theorem one_int {k : IntKind} {m : Int} : (D.v (.int k m)).one = true := rfl
@[go_sem] theorem one_bool {b : Bool} : (D.v (.bool b)).one = true := rfl
@[go_sem] theorem one_str {s : ByteArray} : (D.v (.string s)).one = true := rfl
@[go_sem] theorem one_nsl : (D.v (.slice none 0 0)).one = true := rfl
@[go_sem] theorem one_sl {k : Nat} {xs : List (List D)} : (D.sl k xs).one = true := rfl
@[go_sem] theorem one_buf {i m : Nat} : (D.buf i m).one = true := rfl
@[go_sem] theorem one_ptr {i m : Nat} : (D.ptr i m).one = true := rfl
@[go_sem] theorem putL_zero {α : Type} {a b : α} {l : List α} : putL (a :: l) 0 [b] = b :: l := rfl
@[go_sem] theorem putL_succ {α : Type} {a b : α} {l : List α} {o : Nat} : putL (a :: l) (o + 1) [b] = a :: putL l o [b] := by simp [putL, Nat.add_right_comm]
@[go_sem] theorem isPtr_ptr {i m : Nat} : isPtr (.ptr i m) = true := rfl
@[go_sem] theorem isPtr_rp {ds : List D} : isPtr (.rp ds) = true := rfl
attribute [go_sem] Option.isSome_some Z5 List.take_succ_cons List.take_zero List.all_cons List.all_nil Bool.and_true Bool.true_and List.append_assoc List.cons_append List.nil_append List.length_append Z4 List.set_set Nat.add_zero Nat.zero_add hp_get0 hp_getk hp_set0 hp_setk hps_get0 hps_getk hps_set0 hps_setk List.set_cons_zero List.set_cons_succ beq_self_eq_true List.map_cons List.map_nil Z3 List.length_cons List.length_nil Option.bind_some true_and and_true List.drop_zero List.getElem?_cons_zero List.getElem?_cons_succ List.drop_succ_cons Bool.not_true Bool.not_false
theorem endD {res : Array ResultVar} {h0 : List Ob} {K : List Ob → D → Prop} {s : S} {ds : List D} {r : D} (hl : lowH h0.length h0) (h1 : resD P s res.toList = some ds) (h2 : s.h.take h0.length = h0) (h4 : h0.length ≤ s.h.length)
 (h3 : cvD (fun i => decide (h0.length ≤ i)) s.h (outD ds) = r) (h5 : low h0.length r) (hK : K h0 r) : EndD P res h0.length K s := ⟨ds, h0.length, h1, Ze _, h4, by rw [h2]; exact hl, by rw [h3]; exact h5, by rw [h2, h3]; exact hK⟩
end
section
variable {P : Program} {G : Nat → D} {n : Nat} {e : Nat → D} {h : List Ob} {ops : Array Oper} {md : Region.Mode}
def putE (n : Nat) (e : Nat → D) (dst : Option Nat) (d : D) : Nat → D := match dst with
 | some t => if t < n then upd e t d else e
 | none => e
theorem J9 {dst : Option Nat} {d : D} : S.put ⟨n, e, h⟩ dst d = ⟨n, putE n e dst d, h⟩ := by
 unfold S.put putE
 cases dst with
 | none => rfl
 | some t => simp only; split <;> rfl
def Yl (P : Program) (G : Nat → D) (op : Op) (e : Nat → D) (h : List Ob) (d : D) : Prop := aOp P G e h (fun h' d' => h' = h ∧ d' = d) op ∨
 ∃ x args tys f cap, op = .call ⟨.value x, args, tys⟩ ∧ ev G e x = .fn f cap ∧ entB P f = true ∧ Does P G f h (args.toList.map (ev G e) ++ cap) (fun h' r => h' = h ∧ r = d)
theorem Zp1 {e' : Nat → D} {K : List Ob → D → Prop} {op : Op} (q : ∀ x ∈ op.operands, ev G e' x = ev G e x) (k : aOp P G e h K op) : aOp P G e' h K op := by
 cases op <;> try exact k
 case call c =>
  obtain ⟨cal, args, tys⟩ := c
  cases cal with
  | builtin b =>
   have : args.toList.map (ev G e') = args.toList.map (ev G e) := Z2 fun x hx => q x (by simp only [Op.operands, Call.operands]; simpa using hx)
   show biA P h b tys.toList (args.toList.map (ev G e')) K
   rw [this]; exact k
  | _ => exact k
 case build t parts =>
  have : (parts.toList.map fun q => (q.1, ev G e' q.2)) = parts.toList.map fun q => (q.1, ev G e q.2) := Z2 fun x hx => by rw [q x.2 (by simp only [Op.operands, Zc]; exact Zd.2 ⟨x, hx, rfl⟩)]
  show on (Zs3 P t (parts.toList.map fun q => (q.1, ev G e' q.2))) _
  rw [this]; exact k
 case buildSlice t len parts =>
  have : (parts.toList.map fun q => (q.1, ev G e' q.2)) = parts.toList.map fun q => (q.1, ev G e q.2) := Z2 fun x hx => by rw [q x.2 (by simp only [Op.operands, Zc]; exact Zd.2 ⟨x, hx, rfl⟩)]
  show on (litD P t len (parts.toList.map fun q => (q.1, ev G e' q.2))) _
  rw [this]; exact k
 case slice t x lo hi mx =>
  cases mx with
  | some m => exact k
  | none =>
   have hx := q x (by simp [Op.operands])
   have hlo : lo.map (ev G e') = lo.map (ev G e) := by
    cases lo with
    | none => rfl
    | some y => simp only [Z5]; rw [q y (by simp [Op.operands])]
   have hhi : hi.map (ev G e') = hi.map (ev G e) := by
    cases hi with
    | none => rfl
    | some y => simp only [Z5]; rw [q y (by simp [Op.operands])]
   show slcA P t (ev G e' x) (lo.map (ev G e')) (hi.map (ev G e')) _
   rw [hx, hlo, hhi]; exact k
 all_goals
  simp only [Op.operands, Zc, Array.mem_def, List.mem_cons, List.not_mem_nil, or_false, forall_eq_or_imp, forall_eq] at q
  simp only [aOp] at k ⊢
  first | (simp only [q]; exact k) | (simp only [q.1, q.2]; exact k) | (simp only [q.1, q.2.1, q.2.2]; exact k)
theorem Yk8 {dst : Option Nat} {v : D} {x : Operand} (q : ∀ t, dst = some t → x ≠ .tmp t) : ev G (putE n e dst v) x = ev G e x := by
 cases dst with
 | none => rfl
 | some t =>
  unfold putE
  simp only
  split
  · cases x with
    | tmp u =>
     have : u ≠ t := fun h => q t rfl (by rw [h])
     show upd e t v u = e u
     unfold upd; rw [if_neg this]
    | _ => rfl
  · rfl
theorem Zg9 {o : Oper} {d : Nat} (q : d ∉ o.looksAt ops) : ∀ x ∈ o.op.operands, x ≠ .tmp d := fun x hx he => q (by
 subst he
 unfold Oper.looksAt
 exact List.mem_append_left _ (List.mem_filterMap.2 ⟨.tmp d, by simpa using hx, rfl⟩))
theorem Yl_put {o : Oper} {dst : Option Nat} {v d : D} (q : ∀ t, dst = some t → t ∉ o.looksAt ops) (k : Yl P G o.op e h d) : Yl P G o.op (putE n e dst v) h d := by
 have key : ∀ x ∈ o.op.operands, ev G (putE n e dst v) x = ev G e x := fun x hx => Yk8 fun t ht => Zg9 (q t ht) x hx
 rcases k with k | ⟨x, args, tys, f, cap, e1, e2, e3, e4⟩
 · exact .inl (Zp1 key k)
 · rw [e1] at key
   have h1 : ev G (putE n e dst v) x = ev G e x := key x (by simp [Op.operands, Call.operands])
   have h2 : args.toList.map (ev G (putE n e dst v)) = args.toList.map (ev G e) := Z2 fun y hy => key y (by simp [Op.operands, Call.operands]; exact .inr (by simpa using hy))
   exact .inr ⟨x, args, tys, f, cap, e1, h1.trans e2, e3, by rw [h2]; exact e4⟩
theorem Yl_put' {o : Oper} {dst : Option Nat} {v d : D} (q : ∀ t, dst = some t → t ∉ o.looksAt ops) (k : Yl P G o.op (putE n e dst v) h d) : Yl P G o.op e h d := by
 have key : ∀ x ∈ o.op.operands, ev G e x = ev G (putE n e dst v) x := fun x hx => (Yk8 fun t ht => Zg9 (q t ht) x hx).symm
 rcases k with k | ⟨x, args, tys, f, cap, e1, e2, e3, e4⟩
 · exact .inl (Zp1 key k)
 · rw [e1] at key
   have h1 := key x (by simp [Op.operands, Call.operands])
   have h2 : args.toList.map (ev G e) = args.toList.map (ev G (putE n e dst v)) := Z2 fun y hy => key y (by simp [Op.operands, Call.operands]; exact .inr (by simpa using hy))
   exact .inr ⟨x, args, tys, f, cap, e1, h1.trans e2, e3, by rw [h2]; exact e4⟩
theorem Za2 {o : Oper} {dst : Option Nat} {v : D} (q : ∀ t, dst = some t → t ∉ o.looksAt ops) : Yc ops o.guard (putE n e dst v) = Yc ops o.guard e := by
 cases dst with
 | none => rfl
 | some d =>
  unfold Yc
  cases hg : o.guard with
  | none => rfl
  | some g =>
   obtain ⟨j, w⟩ := g
   simp only
   cases ht : (ops[j]?).bind (·.dst) with
   | none => rfl
   | some t =>
    have hne : t ≠ d := fun e => q d rfl (by subst e; simp [Oper.looksAt, hg, ht])
    have : putE n e (some d) v t = e t := by
     unfold putE
     simp only
     split
     · unfold upd; rw [if_neg hne]
     · rfl
    simp only [this]
theorem Zw8 {x y : Option Nat} {v u : D} (q : ∀ d, x = some d → y ≠ some d) : putE n (putE n e x v) y u = putE n (putE n e y u) x v := by
 cases x with
 | none => rfl
 | some a =>
  cases y with
  | none => rfl
  | some b =>
   have hab : a ≠ b := fun h => q a rfl (by rw [h])
   unfold putE
   simp only
   split <;> split <;> first | rfl | skip
   funext t
   unfold upd
   by_cases h1 : t = b
   · rw [if_pos h1, if_neg (by rw [h1]; exact Ne.symm hab), if_pos h1]
   · rw [if_neg h1, if_neg h1]
def aqOp (P : Program) (G : Nat → D) (n : Nat) (ops : Array Oper) (h : List Ob) (i : Nat) (K : (Nat → D) → Prop) (e : Nat → D) : Prop := match ops[i]? with
 | none => K e
 | some o => match Yc ops o.guard e with
  | some true => ∃ d, Yl P G o.op e h d ∧ K (putE n e o.dst d)
  | some false => K (putE n e o.dst (.v undef))
  | none => False
theorem aqOp_mono {i : Nat} {K K' : (Nat → D) → Prop} (k : ∀ e, K e → K' e) (q : aqOp P G n ops h i K e) : aqOp P G n ops h i K' e := by
 unfold aqOp at *
 split
 · rename_i ho; rw [ho] at q; exact k _ q
 · rename_i o ho
   rw [ho] at q
   simp only at q
   split
   · rename_i hw; rw [hw] at q; obtain ⟨d, h1, h2⟩ := q; exact ⟨d, h1, k _ h2⟩
   · rename_i hw; rw [hw] at q; exact k _ q
   · rename_i hw; rw [hw] at q; exact q
def aqAny (P : Program) (G : Nat → D) (n : Nat) (md : Region.Mode) (ops : Array Oper) (h : List Ob) (Q : (Nat → D) → Prop) : Nat → Array Bool → (Nat → D) → Prop
 | 0, listed, e => Region.ready md ops listed = [] ∧ Q e
 | fuel + 1, listed, e => (Region.ready md ops listed = [] → Q e) ∧ ∀ i ∈ Region.ready md ops listed, aqOp P G n ops h i (aqAny P G n md ops h Q fuel (listed.setIfInBounds i true)) e
def YD (P : Program) (G : Nat → D) (ops : Array Oper) (h : List Ob) (o : Oper) (d : D) (e : Nat → D) : Prop := (Yc ops o.guard e = some true ∧ Yl P G o.op e h d) ∨ (Yc ops o.guard e = some false ∧ d = .v undef)
theorem YD.aqOp {i : Nat} {o : Oper} {d : D} (hi : ops[i]? = some o) (hy : YD P G ops h o d e) {K : (Nat → D) → Prop} (k : K (putE n e o.dst d)) : aqOp P G n ops h i K e := by
 unfold Go.Proofs.YtbhkcbidcfofiaaGreat.aqOp
 simp only [hi]
 rcases hy with ⟨hw, hv⟩ | ⟨hw, rfl⟩
 · simp only [hw]; exact ⟨d, hv, k⟩
 · simp only [hw]; exact k
theorem YD.put {o : Oper} {dst : Option Nat} {d v : D} (hy : YD P G ops h o d e) (q : ∀ t, dst = some t → t ∉ o.looksAt ops) : YD P G ops h o d (putE n e dst v) := by
 unfold YD
 rw [Za2 q]
 exact hy.imp (fun ⟨a, b⟩ => ⟨a, Yl_put q b⟩) id
theorem YD_of {i : Nat} {o : Oper} {K : (Nat → D) → Prop} (hi : ops[i]? = some o) (q : Go.Proofs.YtbhkcbidcfofiaaGreat.aqOp P G n ops h i K e) : ∃ d, YD P G ops h o d e ∧ K (putE n e o.dst d) := by
 unfold Go.Proofs.YtbhkcbidcfofiaaGreat.aqOp at q
 simp only [hi] at q
 split at q
 · rename_i hw; obtain ⟨d, h1, h2⟩ := q; exact ⟨d, .inl ⟨hw, h1⟩, h2⟩
 · rename_i hw; exact ⟨_, .inr ⟨hw, rfl⟩, q⟩
 · exact q.elim
theorem aqOp_put {j : Nat} {oi oj : Oper} {v : D} (hj : ops[j]? = some oj) (hap : oi.apart ops oj = true) {K : (Nat → D) → Prop} (hy : YD P G ops h oi v e) (q : Go.Proofs.YtbhkcbidcfofiaaGreat.aqOp P G n ops h j K (putE n e oi.dst v)) :
 Go.Proofs.YtbhkcbidcfofiaaGreat.aqOp P G n ops h j (fun e' => YD P G ops h oi v e' ∧ K (putE n e' oi.dst v)) e := by
 obtain ⟨h1, h2, h3⟩ := Oper.apart_spec hap
 obtain ⟨d, hd, hk⟩ := YD_of hj q
 have hd' : YD P G ops h oj d e := by
  unfold YD at hd ⊢
  rw [Za2 h1] at hd
  exact hd.imp (fun ⟨a, b⟩ => ⟨a, Yl_put' h1 b⟩) id
 exact hd'.aqOp hj ⟨hy.put h3, by rw [← Zw8 h2]; exact hk⟩
theorem aqAny_first {Q : (Nat → D) → Prop} {i : Nat} {oi : Oper} {v : D} (hi : ops[i]? = some oi) : ∀ (fuel : Nat) (listed : Array Bool) (e : Nat → D),
 (∀ j oj, ops[j]? = some oj → j ≠ i → listed.getD j true = false → (∀ e ∈ oj.after, Region.binds md e = true → e.on ≠ i) → oi.apart ops oj = true) →
 i ∈ Region.ready md ops listed → YD P G ops h oi v e → aqAny P G n md ops h Q fuel (listed.setIfInBounds i true) (putE n e oi.dst v) → aqAny P G n md ops h Q (fuel + 1) listed e := by
  intro fuel
  induction fuel with
  | zero =>
    intro listed a _ hr hy H
    refine ⟨fun h => (by rw [h] at hr; cases hr), fun j hj => ?_⟩
    by_cases hji : j = i
    · subst hji; exact hy.aqOp hi H
    · have := ready_mono hj hji
      rw [H.1] at this
      cases this
  | succ fuel ih =>
    intro listed a hfree hr hy H
    refine ⟨fun h => (by rw [h] at hr; cases hr), fun j hj => ?_⟩
    by_cases hji : j = i
    · subst hji; exact hy.aqOp hi H
    · have h1 := H.2 j (ready_mono hj hji)
      obtain ⟨hjun, oj, hoj, hall⟩ := mem_ready.1 hj
      have hnot : ∀ e ∈ oj.after, Region.binds md e = true → e.on ≠ i := fun e he hb heq => by
        have h1 := hall e he hb
        have h0 := (mem_ready.1 hr).1
        rw [heq] at h1
        rcases Z7 i listed.size with h' | h'
        · simp [h'] at h0 h1; rw [h0] at h1; cases h1
        · simp [Array.getElem?_eq_none h'] at h1
      have h2 := aqOp_put hoj (hfree j oj hoj hji hjun hnot) hy h1
      have hfree' : ∀ k ok, ops[k]? = some ok → k ≠ i → (listed.setIfInBounds j true).getD k true = false →
          (∀ e ∈ ok.after, Region.binds md e = true → e.on ≠ i) → oi.apart ops ok = true := fun k ok hk hki hun hno => by
        refine hfree k ok hk hki ?_ hno
        by_cases hjk : j = k
        · subst hjk; exact hjun
        · rw [getD_set_ne true hjk] at hun; exact hun
      refine aqOp_mono (fun a' h3 => ih (listed.setIfInBounds j true) a' hfree' (ready_mono hr (Ne.symm hji)) h3.1 ?_) h2
      rw [Array.setIfInBounds_comm _ _ hji]
      exact h3.2
def aq (P : Program) (G : Nat → D) (n : Nat) (ops : Array Oper) (h : List Ob) (Q : (Nat → D) → Prop) : List Oper → (Nat → D) → Prop
 | [], e => Q e
 | o :: rest, e => ∃ d, YD P G ops h o d e ∧ aq P G n ops h Q rest (putE n e o.dst d)
theorem aqAny_lex {Q : (Nat → D) → Prop} : ∀ (l : List Oper) (k : Nat) (listed : Array Bool) (e : Nat → D), (∀ j, l[j]? = ops[k + j]?) → Region.lexFrom md ops l.length k listed = true → aq P G n ops h Q l e → aqAny P G n md ops h Q l.length listed e
 | [], _, _, _, _, hB, q => ⟨by simpa [Region.lexFrom] using hB, q⟩
 | o :: l, k, listed, e, hl, hB, q => by
    have h0 : ops[k]? = some o := by simpa using (hl 0).symm
    simp only [List.length_cons, Region.lexFrom, Bool.and_eq_true] at hB
    obtain ⟨⟨hr, hf⟩, hB'⟩ := hB
    obtain ⟨v, hy, hK⟩ := q
    exact aqAny_first h0 l.length listed e (Region.free_spec h0 hf) (by simpa using hr) hy
      (aqAny_lex l (k + 1) _ _ (fun j => by have := hl (j + 1); simpa [Nat.add_assoc, Nat.add_comm 1 j] using this) hB' hK)
variable {B : Base} {a : Act} {w : World}
theorem Yl_sound {o : Oper} {d : D} {K : Act → World → Prop} {R : Exit → Act → World → Prop} (q : Yl P G o.op e h d) (r : Sit G B ⟨n, e, h⟩ a w) (k : ∀ a' w', Sit G B ⟨n, putE n e o.dst d, h⟩ a' w' → K a' w') : o.wp P a w K R := by
 obtain ⟨hd, p, r⟩ := r
 obtain ⟨dst, op, ty, pos, aft, gd⟩ := o
 have fin : ∀ (s' : S), s' = S.put ⟨n, e, h⟩ dst d → s' = ⟨n, putE n e dst d, h⟩ := fun s' hs => by rw [hs, J9]
 rcases q with q | ⟨x, args, tys, f, cap, rfl, e2, e3, e4⟩
 · obtain ⟨v, w', hd', h', p', d', hr, ⟨rfl, rfl⟩, o', q', ev'⟩ := Zp0 (dst := dst) (ty := ty) (pos := pos) (aft := aft) (gd := gd) r q
   unfold Oper.wp
   have := r.put o' ev' q' dst
   rw [fin _ rfl] at this
   rcases hr with hr | ⟨hr, rfl⟩
   · rw [hr]; exact k _ _ ⟨hd', p', this⟩
   · rw [hr]; exact k _ _ ⟨hd', p', this⟩
 · have q0 := r.ev x
   rw [e2, rd] at q0
   obtain ⟨cs, e1, q0⟩ := q0
   have hrun : (execOp a.eval ⟨dst, .call ⟨.value x, args, tys⟩, ty, pos, aft, gd⟩).run P w = .ok (.enter f (args.map a.eval ++ cs)) w := by
    simp [execOp, resolve, e1, Deferred.ofValue, invoke, Zl8 e3]
   unfold Oper.wp
   rw [hrun, Oper.upon_enter]
   have hargs : rdL hd h (only p w) (args.toList.map (ev G e) ++ cap) (args.toList.map a.eval ++ cs.toList) := W7 (Zp6 r _) q0
   have := e4 w hd p _ r.ok hargs
   rw [show (args.toList.map a.eval ++ cs.toList).toArray = args.map a.eval ++ cs by apply Array.ext'; simp] at this
   refine this.mono ?_
   rintro e' w' ⟨v, hd', h', d', p', rfl, ⟨rfl, rfl⟩, o, q2, ev'⟩
   have := r.put o ev' q2 dst
   rw [fin _ rfl] at this
   exact k _ _ ⟨hd', p', this⟩
theorem Zc4 {Q : (Nat → D) → Prop} {R : Exit → Act → World → Prop} (k : ∀ e a w, Q e → Sit G B ⟨n, e, h⟩ a w → R .normal a w) : ∀ (fuel : Nat) (listed : Array Bool) (e : Nat → D) (a : Act) (w : World), Sit G B ⟨n, e, h⟩ a w → aqAny P G n md ops h Q fuel listed e → wpAny P md ops R fuel listed a w
 | 0, _, _, _, _, r, q => ⟨q.1, k _ _ _ q.2 r⟩
 | fuel + 1, listed, e, a, w, r, q => ⟨fun h0 => k _ _ _ (q.1 h0) r, fun i hi => by
   have q2 := q.2 i hi
   unfold aqOp at q2
   unfold wpOp
   split
   · rename_i ho; rw [ho] at q2; exact Zc4 k fuel _ _ _ _ r q2
   · rename_i o ho
     rw [ho] at q2
     simp only at q2
     split at q2
     · rename_i hw
       obtain ⟨hd, p, r'⟩ := id r
       have hw' := X4 (o := o) r' hw
       rw [if_pos hw']
       obtain ⟨d, h1, h2⟩ := q2
       exact .inl (Yl_sound h1 r fun a' w' r2 => Zc4 k fuel _ _ _ _ r2 h2)
     · rename_i hw
       obtain ⟨hd, p, r'⟩ := id r
       have hw' := X4 (o := o) r' hw
       rw [if_neg (by rw [hw']; decide)]
       have r3 := r'.put0 (d := .v undef) (v := undef) (by rw [rd]) o.dst
       rw [J9] at r3
       exact Zc4 k fuel _ _ _ _ ⟨hd, p, r3⟩ q2
     · exact q2.elim⟩
theorem Y9 {id : Nat} {l : List Oper} {Q : Exit → S → Prop} (hm : P.follows .mixedOrders = true) (hB : Region.lexB .any l.toArray = true) (H : aq P G n l.toArray h (fun e => Q .normal ⟨n, e, h⟩) l e) : aw P G (.region id l.toArray true) Q ⟨n, e, h⟩ := fun B a w r => by
 obtain ⟨hd, p, r⟩ := r
 have hdr := r.ok.drew
 have r' : Sit G B ⟨n, e, h⟩ a { w with drawn := w.drawn + 1 } := ⟨hd, p, hdr.1, r.evo.trans hdr.2, fun t => hdr.2.rd r.ok (r.tmp t), r.size, r.defers⟩
 simp only [Region.lexB, Bool.and_eq_true] at hB
 refine wp_region_any hm (Zc4 (Q := fun e => Q .normal ⟨n, e, h⟩) (fun e a w q r => ⟨_, q, r⟩) _ _ _ _ _ r' ?_)
 have := aqAny_lex (P := P) (G := G) (n := n) (h := h) (md := .any) (ops := l.toArray) (Q := fun e => Q .normal ⟨n, e, h⟩) l 0 (Array.replicate l.toArray.size false) e (by simp) (by simpa using hB.2) H
 simpa using this
section
variable {rest : List Oper} {Q : (Nat → D) → Prop} {t : Nat} {op : Op} {ty : TypeId} {pos : String} {aft : Array Edge} {gd : Option (Nat × Bool)}
theorem aq_nil (q : Q e) : aq P G n ops h Q [] e := q
theorem aOp_det {K : List Ob → D → Prop} (q : aOp P G e h K op) (k : ∀ h' d, K h' d → h' = h) : ∃ d, aOp P G e h (fun h' d' => h' = h ∧ d' = d) op ∧ K h d := by
 have one : ∀ {x : Option D}, on x (K h) → ∃ d, on x (fun d' => h = h ∧ d' = d) ∧ K h d := fun {x} q => by
  obtain ⟨d, h1, h2⟩ := X6.1 q
  exact ⟨d, X6.2 ⟨d, h1, rfl, rfl⟩, h2⟩
 cases op <;> try exact q.elim
 case move x => exact ⟨_, ⟨rfl, rfl⟩, q⟩
 case assign x => exact ⟨_, ⟨rfl, rfl⟩, q⟩
 case pick c x y => obtain ⟨t, h1, h2⟩ := q; exact ⟨_, ⟨t, h1, rfl, rfl⟩, h2⟩
 case binOp => exact one q
 case unOp => exact one q
 case convert t u x =>
  have q : cvA P h t u (ev G e x) K := q
  suffices ∃ d, cvA P h t u (ev G e x) (fun h' d' => h' = h ∧ d' = d) ∧ K h d from this
  unfold cvA at q ⊢
  split at q
  · exact one q
  · rcases q with ⟨q1, q2, q3, q4⟩ | ⟨q1, q2, q4⟩
    · exact ⟨_, .inl ⟨q1, q2, q3, rfl, rfl⟩, q4⟩
    · exact ⟨_, .inr ⟨q1, q2, rfl, rfl⟩, q4⟩
  · obtain ⟨q1, q2, q3⟩ := q
    unfold bstD
    split at q3
    · obtain ⟨bs, q4, q5⟩ := q3; exact ⟨_, ⟨q1, q2, bs, q4, rfl, rfl⟩, q5⟩
    · obtain ⟨a, b, c, q4, q5, q6, q7⟩ := q3; exact ⟨_, ⟨q1, q2, a, b, c, q4, q5, q6, rfl, rfl⟩, q7⟩
    · exact ⟨_, ⟨q1, q2, rfl, rfl⟩, q3⟩
    · exact q3.elim
 case build t parts =>
  obtain ⟨ds, h1, h2⟩ := X6.1 q
  exact ⟨_, X6.2 ⟨ds, h1, rfl, rfl⟩, h2⟩
 case buildSlice t len parts =>
  obtain ⟨ds, h1, h2⟩ := X6.1 q
  exact absurd (congrArg List.length (k _ _ h2)) (by simp)
 case slice t x lo hi mx =>
  cases mx with
  | some m => exact q.elim
  | none =>
   have q : slcA P t (ev G e x) (lo.map (ev G e)) (hi.map (ev G e)) (K h) := q
   suffices ∃ d, slcA P t (ev G e x) (lo.map (ev G e)) (hi.map (ev G e)) (fun d' => h = h ∧ d' = d) ∧ K h d from this
   unfold slcA at q ⊢
   split at q
   · obtain ⟨l, r, a, b, c, d, e, f, g⟩ := q; exact ⟨_, ⟨l, r, a, b, c, d, e, f, rfl, rfl⟩, g⟩
   · obtain ⟨l, r, a, b, c, d, e, f, g⟩ := q; exact ⟨_, ⟨l, r, a, b, c, d, e, f, rfl, rfl⟩, g⟩
   · exact q.elim
 case index t x i =>
  have q : indA P t (ev G e x) (ev G e i) (K h) := q
  suffices ∃ d, indA P t (ev G e x) (ev G e i) (fun d' => h = h ∧ d' = d) ∧ K h d from this
  unfold indA at q ⊢
  split at q
  · rename_i s κ n _ _
    obtain ⟨a, b, c, d⟩ := q
    have hlt : n.toNat < s.data.size := by have : s.data.size = s.size := rfl; omega
    exact ⟨_, ⟨a, b, c, fun b hb => ⟨rfl, by rw [Za hlt] at hb; cases hb; rfl⟩⟩, d _ (Za hlt)⟩
  · obtain ⟨l, e, z, d, h1, h2, h3, h4, h5, h6⟩ := q; exact ⟨_, ⟨l, e, z, d, h1, h2, h3, h4, h5, rfl, rfl⟩, h6⟩
  · exact q.elim
 case extract => exact one q
 case field => exact one q
 case load => exact one q
 case fieldAddr => exact one q
 case store t x y =>
  obtain ⟨h', h1, h2⟩ := X6.1 q
  have := k _ _ h2
  subst this
  exact ⟨_, X6.2 ⟨_, h1, rfl, rfl⟩, h2⟩
 case nilCheck x => exact ⟨_, ⟨q.1, rfl, rfl⟩, q.2⟩
 case box t x =>
  obtain ⟨ds, h1, h2⟩ := X6.1 q
  exact absurd (congrArg List.length (k _ _ h2)) (by simp)
 case alloc t =>
  obtain ⟨ds, h1, h2⟩ := X6.1 q
  exact absurd (congrArg List.length (k _ _ h2)) (by simp)
 case indexAddr t x i =>
  have q : idxA P h t (ev G e x) (ev G e i) (K h) := q
  suffices ∃ d, idxA P h t (ev G e x) (ev G e i) (fun d' => h = h ∧ d' = d) ∧ K h d from this
  unfold idxA at q ⊢
  generalize ev G e x = X at q ⊢
  generalize ev G e i = I at q ⊢
  cases I <;> try exact q.elim
  case v I =>
  cases I <;> try exact q.elim
  case int κ m =>
  cases X <;> try exact q.elim
  case sl kk xs =>
   obtain ⟨h1, h2, h3, h4⟩ := q
   have hr : xs[m.toNat]? = some (xs[m.toNat]'(by omega)) := Z0 (by omega)
   exact ⟨_, ⟨h1, h2, h3, fun row hrow => ⟨rfl, by rw [hr] at hrow; cases hrow; rfl⟩⟩, h4 _ hr⟩
  case buf i' n' => obtain ⟨a, b, c, h1, h2, h3, h4, h5, h6⟩ := q; exact ⟨_, ⟨a, b, c, h1, h2, h3, h4, h5, rfl, rfl⟩, h6⟩
  case win i' n' a' b' => obtain ⟨a, b, c, h1, h2, h3, h4, h5, h6⟩ := q; exact ⟨_, ⟨a, b, c, h1, h2, h3, h4, h5, rfl, rfl⟩, h6⟩
  case ptr i' n' => obtain ⟨a, b, c, h1, h2, h3, h4, h5⟩ := q; exact ⟨_, ⟨a, b, c, h1, h2, h3, h4, rfl, rfl⟩, h5⟩
  case rp ds => obtain ⟨a, b, c, h1, h2, h3, h4, h5⟩ := q; exact ⟨_, ⟨a, b, c, h1, h2, h3, h4, rfl, rfl⟩, h5⟩
 case call c =>
  obtain ⟨cal, args, tys⟩ := c
  cases cal with
  | builtin b =>
   have q : biA P h b tys.toList (args.toList.map (ev G e)) K := q
   suffices ∃ d, biA P h b tys.toList (args.toList.map (ev G e)) (fun h' d' => h' = h ∧ d' = d) ∧ K h d from this
   unfold biA at q ⊢
   split at q
   · exact one q
   · obtain ⟨a, b, c, ys, h1, h2, h3, h4⟩ := q
     split at h4
     · rename_i i' n' _
       obtain ⟨xs, g1, g2, g3, g4⟩ := h4
       exact ⟨_, ⟨a, b, c, ys, h1, h2, h3, xs, g1, g2, g3, k _ _ g4, rfl⟩, by rw [← k _ _ g4]; exact (k _ _ g4).symm ▸ g4⟩
     · exact absurd (congrArg List.length (k _ _ h4.2)) (by simp)
     · exact h4.elim
   · exact q.elim
  | _ => exact q.elim
theorem aq1 (hw : Yc ops gd e = some true) (ht : decide (t < n) = true) (H : ∀ K : List Ob → D → Prop, (∀ h' d, h' = h → aq P G n ops h Q rest (upd e t d) → K h' d) → aOp P G e h K op) : aq P G n ops h Q (⟨some t, op, ty, pos, aft, gd⟩ :: rest) e := by
 obtain ⟨d, h1, _, h2⟩ := aOp_det (H (fun h' d => h' = h ∧ aq P G n ops h Q rest (upd e t d)) fun h' d q1 q2 => ⟨q1, q2⟩) fun h' d q => q.1
 exact ⟨d, .inl ⟨hw, .inl h1⟩, by unfold putE; simp only [if_pos (of_decide_eq_true ht)]; exact h2⟩
theorem aq0 (hw : Yc ops gd e = some false) (ht : decide (t < n) = true) (k : aq P G n ops h Q rest (upd e t (.v undef))) : aq P G n ops h Q (⟨some t, op, ty, pos, aft, gd⟩ :: rest) e :=
 ⟨.v undef, .inr ⟨hw, rfl⟩, by unfold putE; simp only [if_pos (of_decide_eq_true ht)]; exact k⟩
theorem aq2 {x : Operand} {args : Array Operand} {tys : Array TypeId} {f : FuncId} {cap : List D} {d : D} (hw : Yc ops gd e = some true) (ht : decide (t < n) = true) (hx : ev G e x = .fn f cap) (he : entB P f = true)
 (hc : Does P G f h (args.toList.map (ev G e) ++ cap) (fun h' r => h' = h ∧ r = d)) (k : aq P G n ops h Q rest (upd e t d)) : aq P G n ops h Q (⟨some t, .call ⟨.value x, args, tys⟩, ty, pos, aft, gd⟩ :: rest) e :=
 ⟨d, .inl ⟨hw, .inr ⟨x, args, tys, f, cap, rfl, hx, he, hc⟩⟩, by unfold putE; simp only [if_pos (of_decide_eq_true ht)]; exact k⟩
end
end
end Go.Proofs.YtbhkcbidcfofiaaGreat
