/-
  What the statements of the chapter share, part 08: F1, F2, F3, F4, WR0.
-/
import Derived.Test.YtmdjnaobllajmaaGreatDoorY06
import Derived.Test.YtmdjnaobllajmaaGreatDoorY07
set_option linter.unusedVariables false
set_option linter.unusedSimpArgs false
set_option maxRecDepth 100000
set_option maxHeartbeats 8000000
namespace Go.Proofs.YtmdjnaobllajmaaGreatDoor
open _root_.Array renaming getD_eq_getD_getElem? → Ze
open _root_.List renaming getElem?_eq_some_iff → Z0, getElem?_eq_getElem → Z1, getElem?_append_left → Z2, length_map → Z4, getElem?_set_ne → Z5, getElem?_set_self → Z7, map_map → Z8, replicate → Z9, map_cons → Za, mem_of_getElem? → Zb, map_congr_left → Zd, getElem?_append_right → Zf
open _root_.Nat renaming beq → Z3, lt_or_ge → Z6, le_refl → Zc, add_zero → Zg
open Go.RowKit
section
mutual
def ren (π : Nat → Nat) : D → D
 | .any => .any
 | .v x => .v x
 | .sl k xs => .sl k (renR π xs)
 | .agg ds => .agg (renL π ds)
 | .tup ds => .tup (renL π ds)
 | .rp ds => .rp (renL π ds)
 | .ptr i o => .ptr (π i) o
 | .buf i n => .buf (π i) n
 | .bp i n r j => .bp (π i) n r j
 | .win i n a b => .win (π i) n a b
 | .arr i o n c k => .arr (π i) o n c k
 | .mp i => .mp (π i)
 | .e0 => .e0
 | .fn f ds => .fn f (renL π ds)
def renL (π : Nat → Nat) : List D → List D
 | [] => []
 | d :: t => ren π d :: renL π t
def renR (π : Nat → Nat) : List (List D) → List (List D)
 | [] => []
 | d :: t => renL π d :: renR π t
end
theorem Vp (π : Nat → Nat) : ∀ l, renL π l = l.map (ren π)
 | [] => by rw [renL]; rfl
 | d :: t => by rw [renL, Vp π t]; rfl
theorem V1 (π : Nat → Nat) : ∀ l, renR π l = l.map (renL π)
 | [] => by rw [renR]; rfl
 | d :: t => by rw [renR, V1 π t]; rfl
def Va (π : Nat → Nat) : Ob → Ob
 | .cells ds => .cells (renL π ds)
 | .buf e k xs => .buf e k (renR π xs)
 | .map es c => .map (es.map fun e => (e.1, e.2.1, ren π e.2.2)) c
 | .iter m s l a => .iter (π m) s l a
 | .hole => .hole
 | .dead => .dead
theorem Up {π : Nat → Nat} (ob : Ob) : (Va π ob).live = ob.live := by cases ob <;> rfl
theorem Yb6 {π : Nat → Nat} (ob : Ob) : (Va π ob).isHole = ob.isHole := by cases ob <;> rfl
structure Emb (m : Nat) (π : Nat → Nat) (hd : List Value) (h : List Ob) (hd' : List Value) (h' : List Ob) : Prop where
 hd : ∀ i, i < m → ∀ u, hd[i]? = some u → hd'[π i]? = some u
 usd : ∀ i, i < m → used h i → used h' (π i)
 buf : ∀ (i : Nat) e k xs', i < m → used h i → h'[π i]? = some (.buf e k xs') → ∃ e0 xs, h[i]? = some (.buf e0 k xs) ∧ xs.length = xs'.length
section
variable {m : Nat} {π : Nat → Nat} {hd hd' : List Value} {h h' : List Ob} {W W' : World}
mutual
theorem rd_emb (c : Emb m π hd h hd' h') (hl : hd.length = h.length) (s : Sub W W') : ∀ (d : D) (u : Value), low m d → rd hd h W d u → rd hd' h' W' (ren π d) u
 | .any, _, _, _ => by rw [ren, rd]; trivial
 | .v x, u, _, q => by rw [rd] at q; rw [ren, rd]; exact q
 | .sl k xs, u, l, q => by
   rw [low] at l; rw [rd] at q; rw [ren, rd]
   obtain ⟨a, cap, h1, h2, h3, h4⟩ := q
   have e : (renR π xs).length = xs.length := by rw [V1]; simp
   exact ⟨a, cap, by rw [e]; exact h1, by rw [e]; exact h2, h3, Yb9 c hl s k a xs 0 l h4⟩
 | .agg ds, u, l, q => by
   rw [low] at l; rw [rd] at q; rw [ren, rd]
   obtain ⟨cs, h1, h2⟩ := q
   exact ⟨cs, h1, Zh5 c hl s ds _ l h2⟩
 | .tup ds, u, l, q => by
   rw [low] at l; rw [rd] at q; rw [ren, rd]
   obtain ⟨cs, h1, h2⟩ := q
   exact ⟨cs, h1, Zh5 c hl s ds _ l h2⟩
 | .rp ds, u, l, q => by
   rw [low] at l; rw [rd] at q; rw [ren, rd]
   obtain ⟨b, o, h1, h2⟩ := q
   exact ⟨b, o, h1, Yh1 c hl s ds b o l h2⟩
 | .ptr i o, u, l, q => by
   rw [low] at l; rw [rd] at q; rw [ren, rd]
   obtain ⟨B, h1, h2⟩ := q
   exact ⟨B, c.hd i l _ h1, h2⟩
 | .buf i n, u, l, q => by
   rw [low] at l; rw [rd] at q; rw [ren, rd]
   obtain ⟨h0, hi, h2⟩ := q
   refine ⟨h0, c.usd i l hi, fun e k xs hx => ?_⟩
   obtain ⟨e0, xs0, hh0, l0⟩ := c.buf i e k xs l hi hx
   obtain ⟨h3, h4⟩ := h2 e0 k xs0 hh0
   exact ⟨l0 ▸ h3, fun he => c.hd i l _ (h4 (l0.trans he))⟩
 | .bp i n r j, u, l, q => by
   rw [low] at l; rw [rd] at q; rw [ren, rd]
   obtain ⟨h0, hi, h2⟩ := q
   refine ⟨h0, c.usd i l hi, fun e k xs hx => ?_⟩
   obtain ⟨e0, xs0, hh0, l0⟩ := c.buf i e k xs l hi hx
   obtain ⟨h3, h4⟩ := h2 e0 k xs0 hh0
   refine ⟨l0 ▸ h3, fun he => ?_⟩
   obtain ⟨B, cap, h5, h6⟩ := h4 (l0.trans he)
   exact ⟨B, cap, c.hd i l _ h5, h6⟩
 | .win i n a b, u, l, q => by
   rw [low] at l; rw [rd] at q; rw [ren, rd]
   obtain ⟨h0, hi, h2⟩ := q
   refine ⟨h0, c.usd i l hi, fun e k xs hx => ?_⟩
   obtain ⟨e0, xs0, hh0, l0⟩ := c.buf i e k xs l hi hx
   obtain ⟨h3, h4⟩ := h2 e0 k xs0 hh0
   refine ⟨l0 ▸ h3, fun he => ?_⟩
   obtain ⟨h5, h6, h7⟩ := h4 (l0.trans he)
   refine ⟨h5, h6, h7.imp id ?_⟩
   rintro ⟨B, cap, qq, h8, h9⟩
   exact ⟨B, cap, qq, c.hd i l _ h8, h9⟩
 | .arr i o n cc kk, u, l, q => by
   rw [low] at l; rw [rd] at q; rw [ren, rd]
   obtain ⟨B, h1, h2⟩ := q
   exact ⟨B, c.hd i l _ h1, h2⟩
 | .mp i, u, l, q => by
   rw [low] at l; rw [rd] at q; rw [ren, rd]
   obtain ⟨r, h1, h2⟩ := q
   exact ⟨r, c.hd i l _ h1, h2⟩
 | .e0, u, _, q => by rw [rd] at q; rw [ren, rd]; exact q
 | .fn f ds, u, l, q => by
   rw [low] at l; rw [rd] at q; rw [ren, rd]
   obtain ⟨cs, h1, h2⟩ := q
   exact ⟨cs, h1, Zh5 c hl s ds _ l h2⟩
theorem Zh5 (c : Emb m π hd h hd' h') (hl : hd.length = h.length) (s : Sub W W') : ∀ (ds : List D) (us : List Value), lowL m ds → rdL hd h W ds us → rdL hd' h' W' (renL π ds) us
 | [], _, _, q => by rw [rdL] at q; rw [renL, rdL]; exact q
 | d :: ds, us, l, q => by
   rw [lowL] at l; rw [rdL] at q; rw [renL, rdL]
   obtain ⟨u, t, h1, h2, h3⟩ := q
   exact ⟨u, t, h1, rd_emb c hl s d u l.1 h2, Zh5 c hl s ds t l.2 h3⟩
theorem Yh1 (c : Emb m π hd h hd' h') (hl : hd.length = h.length) (s : Sub W W') : ∀ (ds : List D) (b o : Nat), lowL m ds → rdAt hd h W b o ds → rdAt hd' h' W' b o (renL π ds)
 | [], _, _, _, _ => by rw [renL, rdAt]; trivial
 | d :: ds, b, o, l, q => by
   rw [lowL] at l; rw [rdAt] at q; rw [renL, rdAt]
   obtain ⟨⟨u, h1, h2⟩, h3⟩ := q
   exact ⟨⟨u, s _ _ h1, rd_emb c hl s d u l.1 h2⟩, Yh1 c hl s ds b (o + 1) l.2 h3⟩
theorem Yb9 (c : Emb m π hd h hd' h') (hl : hd.length = h.length) (s : Sub W W') (k : Nat) (a : Option Addr) : ∀ (xs : List (List D)) (o : Nat), lowR m xs → Xx hd h W k a o xs → Xx hd' h' W' k a o (renR π xs)
 | [], _, _, _ => by rw [renR, Xx]; trivial
 | ds :: t, o, l, q => by
   rw [lowR] at l; rw [Xx] at q; rw [renR, Xx]
   obtain ⟨⟨b, r, h1, h2⟩, h3, h4⟩ := q
   exact ⟨⟨b, r, h1, Yh1 c hl s ds b (r + o) l.1 h2⟩, by rw [Vp, Z4]; exact h3, Yb9 c hl s k a t (o + k) l.2 h4⟩
end
end
structure Une (m : Nat) (π : Nat → Nat) (hd : List Value) (h : List Ob) (hd' : List Value) (h' : List Ob) : Prop where
 hd : ∀ i, i < m → ∀ u, hd[π i]? = some u → hd'[i]? = some u
 usd : ∀ i, i < m → used h (π i) → used h' i
 buf : ∀ (i : Nat) e k xs', i < m → h'[i]? = some (.buf e k xs') → ∃ e0 xs, h[π i]? = some (.buf e0 k xs) ∧ xs.length = xs'.length
section
variable {m : Nat} {π : Nat → Nat} {hd hd' : List Value} {h h' : List Ob} {W W' : World}
mutual
theorem rd_une (c : Une m π hd h hd' h') (hl : hd.length = h.length) (s : Sub W W') : ∀ (d : D) (u : Value), low m d → rd hd h W (ren π d) u → rd hd' h' W' d u
 | .any, _, _, _ => by rw [rd]; trivial
 | .v x, u, _, q => by rw [ren, rd] at q; rw [rd]; exact q
 | .sl k xs, u, l, q => by
   rw [low] at l; rw [ren, rd] at q; rw [rd]
   obtain ⟨a, cap, h1, h2, h3, h4⟩ := q
   have e : (renR π xs).length = xs.length := by rw [V1]; simp
   rw [e] at h1 h2
   exact ⟨a, cap, h1, h2, h3, Yb7 c hl s k a xs 0 l h4⟩
 | .agg ds, u, l, q => by
   rw [low] at l; rw [ren, rd] at q; rw [rd]
   obtain ⟨cs, h1, h2⟩ := q
   exact ⟨cs, h1, Za4 c hl s ds _ l h2⟩
 | .tup ds, u, l, q => by
   rw [low] at l; rw [ren, rd] at q; rw [rd]
   obtain ⟨cs, h1, h2⟩ := q
   exact ⟨cs, h1, Za4 c hl s ds _ l h2⟩
 | .rp ds, u, l, q => by
   rw [low] at l; rw [ren, rd] at q; rw [rd]
   obtain ⟨b, o, h1, h2⟩ := q
   exact ⟨b, o, h1, Yg8 c hl s ds b o l h2⟩
 | .ptr i o, u, l, q => by
   rw [low] at l; rw [ren, rd] at q; rw [rd]
   obtain ⟨B, h1, h2⟩ := q
   exact ⟨B, c.hd i l _ h1, h2⟩
 | .buf i n, u, l, q => by
   rw [low] at l; rw [ren, rd] at q; rw [rd]
   obtain ⟨h0, hi, h2⟩ := q
   refine ⟨h0, c.usd i l hi, fun e k xs hx => ?_⟩
   obtain ⟨e0, xs0, hh0, l0⟩ := c.buf i e k xs l hx
   obtain ⟨h3, h4⟩ := h2 e0 k xs0 hh0
   exact ⟨l0 ▸ h3, fun he => c.hd i l _ (h4 (l0.trans he))⟩
 | .bp i n r j, u, l, q => by
   rw [low] at l; rw [ren, rd] at q; rw [rd]
   obtain ⟨h0, hi, h2⟩ := q
   refine ⟨h0, c.usd i l hi, fun e k xs hx => ?_⟩
   obtain ⟨e0, xs0, hh0, l0⟩ := c.buf i e k xs l hx
   obtain ⟨h3, h4⟩ := h2 e0 k xs0 hh0
   refine ⟨l0 ▸ h3, fun he => ?_⟩
   obtain ⟨B, cap, h5, h6⟩ := h4 (l0.trans he)
   exact ⟨B, cap, c.hd i l _ h5, h6⟩
 | .win i n a b, u, l, q => by
   rw [low] at l; rw [ren, rd] at q; rw [rd]
   obtain ⟨h0, hi, h2⟩ := q
   refine ⟨h0, c.usd i l hi, fun e k xs hx => ?_⟩
   obtain ⟨e0, xs0, hh0, l0⟩ := c.buf i e k xs l hx
   obtain ⟨h3, h4⟩ := h2 e0 k xs0 hh0
   refine ⟨l0 ▸ h3, fun he => ?_⟩
   obtain ⟨h5, h6, h7⟩ := h4 (l0.trans he)
   refine ⟨h5, h6, h7.imp id ?_⟩
   rintro ⟨B, cap, qq, h8, h9⟩
   exact ⟨B, cap, qq, c.hd i l _ h8, h9⟩
 | .arr i o n cc kk, u, l, q => by
   rw [low] at l; rw [ren, rd] at q; rw [rd]
   obtain ⟨B, h1, h2⟩ := q
   exact ⟨B, c.hd i l _ h1, h2⟩
 | .mp i, u, l, q => by
   rw [low] at l; rw [ren, rd] at q; rw [rd]
   obtain ⟨r, h1, h2⟩ := q
   exact ⟨r, c.hd i l _ h1, h2⟩
 | .e0, u, _, q => by rw [ren, rd] at q; rw [rd]; exact q
 | .fn f ds, u, l, q => by
   rw [low] at l; rw [ren, rd] at q; rw [rd]
   obtain ⟨cs, h1, h2⟩ := q
   exact ⟨cs, h1, Za4 c hl s ds _ l h2⟩
theorem Za4 (c : Une m π hd h hd' h') (hl : hd.length = h.length) (s : Sub W W') : ∀ (ds : List D) (us : List Value), lowL m ds → rdL hd h W (renL π ds) us → rdL hd' h' W' ds us
 | [], _, _, q => by rw [renL, rdL] at q; rw [rdL]; exact q
 | d :: ds, us, l, q => by
   rw [lowL] at l; rw [renL, rdL] at q; rw [rdL]
   obtain ⟨u, t, h1, h2, h3⟩ := q
   exact ⟨u, t, h1, rd_une c hl s d u l.1 h2, Za4 c hl s ds t l.2 h3⟩
theorem Yg8 (c : Une m π hd h hd' h') (hl : hd.length = h.length) (s : Sub W W') : ∀ (ds : List D) (b o : Nat), lowL m ds → rdAt hd h W b o (renL π ds) → rdAt hd' h' W' b o ds
 | [], _, _, _, _ => by rw [rdAt]; trivial
 | d :: ds, b, o, l, q => by
   rw [lowL] at l; rw [renL, rdAt] at q; rw [rdAt]
   obtain ⟨⟨u, h1, h2⟩, h3⟩ := q
   exact ⟨⟨u, s _ _ h1, rd_une c hl s d u l.1 h2⟩, Yg8 c hl s ds b (o + 1) l.2 h3⟩
theorem Yb7 (c : Une m π hd h hd' h') (hl : hd.length = h.length) (s : Sub W W') (k : Nat) (a : Option Addr) : ∀ (xs : List (List D)) (o : Nat), lowR m xs → Xx hd h W k a o (renR π xs) → Xx hd' h' W' k a o xs
 | [], _, _, _ => by rw [Xx]; trivial
 | ds :: t, o, l, q => by
   rw [lowR] at l; rw [renR, Xx] at q; rw [Xx]
   obtain ⟨⟨b, r, h1, h2⟩, h3, h4⟩ := q
   exact ⟨⟨b, r, h1, Yg8 c hl s ds b (r + o) l.1 h2⟩, by rw [Vp, Z4] at h3; exact h3, Yb7 c hl s k a t (o + k) l.2 h4⟩
end
end
mutual
theorem J2 (π : Nat → Nat) : ∀ d, low 0 d → ren π d = d
 | .any, _ => by rw [ren]
 | .v x, _ => by rw [ren]
 | .sl k xs, l => by rw [low] at l; rw [ren, renR_low0 π xs l]
 | .agg ds, l => by rw [low] at l; rw [ren, W4 π ds l]
 | .tup ds, l => by rw [low] at l; rw [ren, W4 π ds l]
 | .rp ds, l => by rw [low] at l; rw [ren, W4 π ds l]
 | .ptr i o, l => by rw [low] at l; omega
 | .buf i n, l => by rw [low] at l; omega
 | .bp i n r j, l => by rw [low] at l; omega
 | .win i n a b, l => by rw [low] at l; omega
 | .arr i o n c k, l => by rw [low] at l; omega
 | .mp i, l => by rw [low] at l; omega
 | .e0, _ => by rw [ren]
 | .fn f ds, l => by rw [low] at l; rw [ren, W4 π ds l]
theorem W4 (π : Nat → Nat) : ∀ d, lowL 0 d → renL π d = d
 | [], _ => by rw [renL]
 | d :: t, l => by rw [lowL] at l; rw [renL, J2 π d l.1, W4 π t l.2]
theorem renR_low0 (π : Nat → Nat) : ∀ d, lowR 0 d → renR π d = d
 | [], _ => by rw [renR]
 | d :: t, l => by rw [lowR] at l; rw [renR, W4 π d l.1, renR_low0 π t l.2]
end
def plc {α : Type} (π : Nat → Nat) (h : List α) : Nat → List α → List α
 | _, [] => h
 | j, ob :: t => plc π (h.set (π j) ob) (j + 1) t
theorem Yh5 {α : Type} {π : Nat → Nat} : ∀ (l : List α) (h : List α) (j : Nat), (plc π h j l).length = h.length
 | [], _, _ => rfl
 | ob :: t, h, j => by rw [plc, Yh5 t]; simp
theorem Zl1 {α : Type} {π : Nat → Nat} {x : Nat} : ∀ (l : List α) (h : List α) (j : Nat), (∀ i, i < l.length → π (j + i) ≠ x) → (plc π h j l)[x]? = h[x]?
 | [], _, _, _ => rfl
 | ob :: t, h, j, q => by
  rw [plc, Zl1 t _ (j + 1) fun i hi => by rw [show j + 1 + i = j + (i + 1) by omega]; exact q (i + 1) (by simp; omega)]
  rw [Z5 (by have := q 0 (by simp); rwa [Zg] at this)]
theorem plc_at {α : Type} {π : Nat → Nat} : ∀ (l : List α) (h : List α) (j i : Nat), (∀ a b, a < l.length → b < l.length → π (j + a) = π (j + b) → a = b) → i < l.length → π (j + i) < h.length → (plc π h j l)[π (j + i)]? = l[i]?
 | [], _, _, _, _, q, _ => by simp at q
 | ob :: t, h, j, 0, inj, q, hl => by
  rw [plc, Zl1 t _ (j + 1) fun i hi he => by
   have := inj (i + 1) 0 (by simp; omega) (by simp) (by rw [← he]; congr 1; omega)
   omega]
  rw [Zg] at hl ⊢
  rw [Z7 hl]; rfl
 | ob :: t, h, j, i + 1, inj, q, hl => by
  rw [plc, show j + (i + 1) = j + 1 + i by omega]
  rw [plc_at t _ (j + 1) i (fun a b ha hb he => ?_) (by simpa using q) (by rw [List.length_set, show j + 1 + i = j + (i + 1) by omega]; exact hl)]
  · rfl
  · have := inj (a + 1) (b + 1) (by simp; omega) (by simp; omega) (by rw [show j + (a + 1) = j + 1 + a by omega, show j + (b + 1) = j + 1 + b by omega]; exact he)
    omega
theorem obOk_emb {m : Nat} {π : Nat → Nat} {hd hd' : List Value} {h h' : List Ob} {w : World} {p : Nat → Bool} (c : Emb m π hd h hd' h') (hl : hd.length = h.length) {ob : Ob} {u : Value} (l : Zx1 m ob) (q : obOk w hd h p u ob) : obOk w hd' h' p u (Va π ob) := by
 have s : Sub (only p w) (only p w) := fun _ _ h => h
 cases ob with
 | dead => trivial
 | hole => exact q
 | cells ds => obtain ⟨B, cs, t, h1, h2, h3, h4⟩ := q; exact ⟨B, cs, t, h1, h2, Zh5 c hl s _ _ l h3, h4⟩
 | buf e k xs =>
  obtain ⟨cs, h1, h2, h3, h4⟩ := q
  have el : (renR π xs).length = xs.length := by rw [V1]; simp
  have ef : (renR π xs).flatten = renL π xs.flatten := by rw [V1, Vp, List.map_flatten]; congr 1; apply Zd; intro r _; rw [Vp]
  refine ⟨cs, by rw [el]; exact h1, by rw [ef]; exact Zh5 c hl s _ _ (Jb.2 l) h2, fun row hr => ?_, h4⟩
  rw [V1] at hr
  obtain ⟨r0, h5, rfl⟩ := List.mem_map.1 hr
  rw [Vp, Z4]; exact h3 r0 h5
 | map es clock =>
  obtain ⟨r, arr, h1, h2, h3, h4, h5⟩ := q
  have e1 : (es.map fun e => (e.1, e.2.1, ren π e.2.2)).map (fun e => (e.1, e.2.1)) = es.map fun e => (e.1, e.2.1) := by rw [Z8]; rfl
  have e2 : (es.map fun e => (e.1, e.2.1, ren π e.2.2)).map (·.2.2) = renL π (es.map (·.2.2)) := by rw [Vp, Z8, Z8]; rfl
  exact ⟨r, arr, h1, h2, by rw [e1]; exact h3, by rw [e2]; exact Zh5 c hl s _ _ l h4, h5⟩
 | iter i since seen last =>
  obtain ⟨B, r, h1, h2, h3, h4⟩ := q
  exact ⟨B, r, h1, h2, c.hd i l _ h3, h4⟩
theorem obOk_une {m : Nat} {π : Nat → Nat} {hd hd' : List Value} {h h' : List Ob} {w : World} {p : Nat → Bool} (c : Une m π hd h hd' h') (hl : hd.length = h.length) {ob : Ob} {u : Value} (l : Zx1 m ob) (q : obOk w hd h p u (Va π ob)) : obOk w hd' h' p u ob := by
 have s : Sub (only p w) (only p w) := fun _ _ h => h
 cases ob with
 | dead => trivial
 | hole => exact q
 | cells ds => obtain ⟨B, cs, t, h1, h2, h3, h4⟩ := q; exact ⟨B, cs, t, h1, h2, Za4 c hl s _ _ l h3, h4⟩
 | buf e k xs =>
  obtain ⟨cs, h1, h2, h3, h4⟩ := q
  have el : (renR π xs).length = xs.length := by rw [V1]; simp
  have ef : (renR π xs).flatten = renL π xs.flatten := by rw [V1, Vp, List.map_flatten]; congr 1; apply Zd; intro r _; rw [Vp]
  rw [el] at h1; rw [ef] at h2
  refine ⟨cs, h1, Za4 c hl s _ _ (Jb.2 l) h2, fun row hr => ?_, h4⟩
  have := h3 (renL π row) (by rw [V1]; exact List.mem_map.2 ⟨row, hr, rfl⟩)
  rwa [Vp, Z4] at this
 | map es clock =>
  obtain ⟨r, arr, h1, h2, h3, h4, h5⟩ := q
  have e1 : (es.map fun e => (e.1, e.2.1, ren π e.2.2)).map (fun e => (e.1, e.2.1)) = es.map fun e => (e.1, e.2.1) := by rw [Z8]; rfl
  have e2 : (es.map fun e => (e.1, e.2.1, ren π e.2.2)).map (·.2.2) = renL π (es.map (·.2.2)) := by rw [Vp, Z8, Z8]; rfl
  rw [e1] at h3; rw [e2] at h4
  exact ⟨r, arr, h1, h2, h3, Za4 c hl s _ _ l h4, h5⟩
 | iter i since seen last =>
  obtain ⟨B, r, h1, h2, h3, h4⟩ := q
  exact ⟨B, r, h1, h2, c.hd i l _ h3, h4⟩
def Post (G : Nat → D) (w : World) (hd : List Value) (h : List Ob) (p : Nat → Bool) (K : List Ob → D → Prop) (v : Value) (w' : World) : Prop :=
 ∃ hd' h' r p', K h' r ∧ Ok G w' hd' h' p' ∧ rd hd' h' (only p' w') r v ∧ Evo w hd h p w' hd' h' p'
theorem Post.mono {G : Nat → D} {w w' : World} {hd : List Value} {h : List Ob} {p : Nat → Bool} {K K' : List Ob → D → Prop} {v : Value} (q : Post G w hd h p K v w') (k : ∀ h' r, K h' r → K' h' r) : Post G w hd h p K' v w' := by
 obtain ⟨hd', h', r, p', a, b⟩ := q
 exact ⟨hd', h', r, p', k _ _ a, b⟩
structure Lies (π : Nat → Nat) (h1 h : List Ob) : Prop where
 at_ : ∀ i ob, h1[i]? = some ob → h[π i]? = some (Va π ob)
 inj : ∀ i j, i < h1.length → j < h1.length → π i = π j → i = j
 lw : lowH h1.length h1
def pull (π : Nat → Nat) (hd : List Value) (m : Nat) : List Value := (List.range m).map fun i => (hd[π i]?).getD .nilFunc
section
variable {G : Nat → D} {w w' : World} {hd : List Value} {h h1 : List Ob} {p : Nat → Bool} {π : Nat → Nat}
theorem Zd1 (o : Ok G w hd h p) (L : Lies π h1 h) {i : Nat} (hi : i < h1.length) : (pull π hd h1.length)[i]? = hd[π i]? := by
 have := L.at_ i _ (Z1 hi)
 have hl : π i < hd.length := by rw [o.len]; exact (Z0.1 this).1
 simp [pull, hi, hl]
theorem Lies.une (o : Ok G w hd h p) (L : Lies π h1 h) : Une h1.length π hd h (pull π hd h1.length) h1 := by
 refine ⟨fun i hi u q => by rw [Zd1 o L hi]; exact q, fun i hi q => ?_, fun i e k xs hi q => ?_⟩
 · obtain ⟨ob, q1, q2⟩ := q
   have := L.at_ i _ (Z1 hi)
   rw [q1] at this; cases this
   exact ⟨_, Z1 hi, by rw [← Yb6 (π := π)]; exact q2⟩
 · exact ⟨e, renR π xs, L.at_ i _ q, by rw [V1]; simp⟩
theorem low_mono0 {m : Nat} {d : D} (q : low 0 d) : low m d := Zl7 (Nat.zero_le m) d q
theorem Lies.ok (o : Ok G w hd h p) (hG : ∀ g, low 0 (G g)) (L : Lies π h1 h) : Ok G w (pull π hd h1.length) h1 p := by
 have c := L.une o
 refine ⟨by simp [pull], fun i ob u q1 q2 => ?_, fun i j oi oj ui uj b q1 q2 l1 l2 r1 r2 b1 b2 => ?_, fun g => ?_, o.ex⟩
 · have hi := (Z0.1 q1).1
   rw [Zd1 o L hi] at q2
   exact obOk_une c o.len (L.lw ob (Zb q1)) (o.ob _ _ _ (L.at_ i ob q1) q2)
 · have hi := (Z0.1 q1).1
   have hj := (Z0.1 q2).1
   rw [Zd1 o L hi] at r1; rw [Zd1 o L hj] at r2
   exact L.inj i j hi hj (o.inj _ _ _ _ _ _ b (L.at_ i _ q1) (L.at_ j _ q2) (by rw [Up]; exact l1) (by rw [Up]; exact l2) r1 r2 b1 b2)
 · have := o.gl g
   rw [← J2 π _ (hG g)] at this
   exact rd_une c o.len (fun _ _ h => h) _ _ (low_mono0 (hG g)) this
theorem Lies.own (o : Ok G w hd h p) (L : Lies π h1 h) {b : Nat} (q : Own (pull π hd h1.length) h1 b) : ∃ i, i < h1.length ∧ ∃ ob u, h[π i]? = some ob ∧ ob.live = true ∧ hd[π i]? = some u ∧ blk u = some b := by
 obtain ⟨i, ob, u, q1, q2, q3, q4⟩ := q
 have hi := (Z0.1 q1).1
 rw [Zd1 o L hi] at q3
 exact ⟨i, hi, _, u, L.at_ i ob q1, by rw [Up]; exact q2, q3, q4⟩
theorem Post.frame (o : Ok G w hd h p) (hG : ∀ g, low 0 (G g)) (L : Lies π h1 h) {K1 : List Ob → D → Prop} (fit : ∀ h1' r1, K1 h1' r1 → (∀ i j, i < h1'.length → j < h1'.length → π i = π j → i = j) ∧ ∀ j, h1.length ≤ j → j < h1'.length → h[π j]? = some .hole)
 {v : Value} (q : Post G w (pull π hd h1.length) h1 p K1 v w') : Post G w hd h p (fun h' r => ∃ h1' r1, K1 h1' r1 ∧ h' = plc π h 0 (h1'.map (Va π)) ∧ r = ren π r1) v w' := by
 obtain ⟨hd1', h1', r1, p', k, o', qr, e⟩ := q
 obtain ⟨inj, slot⟩ := fit _ _ k
 have hle := e.carry.len
 have hin : ∀ j, j < h1'.length → π j < h.length := fun j hj => by
  rcases Z6 j h1.length with hj' | hj'
  · exact (Z0.1 (L.at_ j _ (Z1 hj'))).1
  · exact (Z0.1 (slot j hj' hj)).1
 have A1 : ∀ j, j < h1'.length → (plc π h 0 (h1'.map (Va π)))[π j]? = (h1'[j]?).map (Va π) := fun j hj => by
  have := plc_at (π := π) (h1'.map (Va π)) h 0 j (fun a b ha hb he => inj a b (by simpa using ha) (by simpa using hb) (by simpa using he)) (by simpa using hj) (by simpa using hin j hj)
  simpa using this
 have A2 : ∀ j, j < h1'.length → (plc π hd 0 hd1')[π j]? = hd1'[j]? := fun j hj => by
  have := plc_at (π := π) hd1' hd 0 j (fun a b ha hb he => inj a b (by rw [← o'.len]; exact ha) (by rw [← o'.len]; exact hb) (by simpa using he)) (by rw [o'.len]; exact hj) (by rw [o.len]; simpa using hin j hj)
  simpa using this
 have O1 : ∀ x, (∀ j, j < h1'.length → π j ≠ x) → (plc π h 0 (h1'.map (Va π)))[x]? = h[x]? := fun x hx => Zl1 _ _ _ fun i hi => by rw [Nat.zero_add]; exact hx i (by simpa using hi)
 have O2 : ∀ x, (∀ j, j < h1'.length → π j ≠ x) → (plc π hd 0 hd1')[x]? = hd[x]? := fun x hx => Zl1 _ _ _ fun i hi => by rw [Nat.zero_add]; exact hx i (by rw [← o'.len]; exact hi)
 have P1 : ∀ j, j < h1.length → (pull π hd h1.length)[j]? = hd[π j]? := fun j hj => Zd1 o L hj
 generalize hh : plc π h 0 (h1'.map (Va π)) = h' at A1 O1
 generalize hv : plc π hd 0 hd1' = hd' at A2 O2
 have len1 : h'.length = h.length := by rw [← hh, Yh5]
 have len2 : hd'.length = hd.length := by rw [← hv, Yh5]
 have split : ∀ x, (∃ j, j < h1'.length ∧ π j = x) ∨ ∀ j, j < h1'.length → π j ≠ x := fun x => by
  by_cases hx : ∃ j, j < h1'.length ∧ π j = x
  · exact .inl hx
  · exact .inr fun j hj he => hx ⟨j, hj, he⟩
 have emb : Emb h1'.length π hd1' h1' hd' h' := by
  refine ⟨fun i hi u q => by rw [A2 i hi]; exact q, fun i hi ⟨ob, q1, q2⟩ => ⟨Va π ob, by rw [A1 i hi, q1]; rfl, by rw [Yb6]; exact q2⟩, fun i E k xs hi _ q => ?_⟩
  rw [A1 i hi, Z1 hi] at q
  simp only [Option.map_some, Option.some.injEq] at q
  cases ho : h1'[i] with
  | buf e0 k0 ys => rw [ho] at q; cases q; exact ⟨_, ys, by rw [Z1 hi, ho], by rw [V1]; simp⟩
  | _ => rw [ho] at q; cases q
 have own1 : ∀ b, b < w.heap.size → Own hd1' h1' b → ∃ i, i < h1.length ∧ ∃ ob u, h[π i]? = some ob ∧ ob.live = true ∧ hd[π i]? = some u ∧ blk u = some b := fun b hb ho => L.own o (e.own b hb ho)
 have ownR : ∀ {b : Nat}, Own (pull π hd h1.length) h1 b → Own hd h b := fun ho => by
  obtain ⟨i, _, ob, u, q1, q2, q3, q4⟩ := L.own o ho
  exact ⟨π i, ob, u, q1, q2, q3, q4⟩
 have ownB : ∀ {b x : Nat} {ob : Ob} {u : Value}, h'[x]? = some ob → ob.live = true → hd'[x]? = some u → blk u = some b → (∃ j, j < h1'.length ∧ π j = x) → Own hd1' h1' b := fun {b x ob u} q1 q2 q3 q4 ⟨j, hj, hx⟩ => by
  subst hx
  rw [A1 j hj, Z1 hj] at q1
  cases q1
  rw [A2 j hj] at q3
  exact ⟨j, _, u, Z1 hj, by rw [← Up (π := π)]; exact q2, q3, q4⟩
 have nohole : ∀ {j : Nat} {u : Value}, h1.length ≤ j → j < h1'.length → hd[π j]? = some u → u = .nilFunc := fun {j u} h2 h3 hu => o.ob _ _ _ (slot j h2 h3) hu
 have E : Evo w hd h p w' hd' h' p' := by
  refine ⟨e.os, e.tape, e.output, e.size, fun b hb hn => e.keep b hb fun ho => hn (ownR ho), e.vis, fun b hb hp => (e.seen b hb hp).imp id ownR, fun b hb ho => ?_, by omega, fun i B q => ?_, fun i B q => ?_, fun i q => ?_, fun i E k xs hu q => ?_⟩
  · obtain ⟨x, ob, u, q1, q2, q3, q4⟩ := ho
    rcases split x with hx | hx
    · exact ownR (e.own b hb (ownB q1 q2 q3 q4 hx))
    · rw [O1 x hx] at q1; rw [O2 x hx] at q3
      exact ⟨x, ob, u, q1, q2, q3, q4⟩
  · rcases split i with ⟨j, hj, rfl⟩ | hx
    · rcases Z6 j h1.length with hj' | hj'
      · rw [A2 j hj]; exact e.carry.ptr j B (by rw [P1 j hj']; exact q)
      · cases nohole hj' hj q
    · rw [O2 i hx]; exact q
  · rcases split i with ⟨j, hj, rfl⟩ | hx
    · rcases Z6 j h1.length with hj' | hj'
      · rw [A2 j hj]; exact e.carry.mp j B (by rw [P1 j hj']; exact q)
      · cases nohole hj' hj q
    · rw [O2 i hx]; exact q
  · rcases split i with ⟨j, hj, rfl⟩ | hx
    · rcases Z6 j h1.length with hj' | hj'
      · exact emb.usd j hj (e.carry.usd j ((L.une o).usd j hj' q))
      · obtain ⟨ob, q1, q2⟩ := q
        rw [slot j hj' hj] at q1; cases q1; cases q2
    · obtain ⟨ob, q1, q2⟩ := q
      exact ⟨ob, by rw [O1 i hx]; exact q1, q2⟩
  · rcases split i with ⟨j, hj, rfl⟩ | hx
    · rcases Z6 j h1.length with hj' | hj'
      · have hu1 := (L.une o).usd j hj' hu
        obtain ⟨e0, ys, g1, g2⟩ := emb.buf j E k xs hj (e.carry.usd j hu1) q
        obtain ⟨e1, zs, g3, g4, g5⟩ := e.carry.buf j e0 k ys hu1 g1
        refine ⟨e1, renR π zs, L.at_ j _ g3, by rw [V1, Z4]; omega, fun he => ?_⟩
        rw [V1, Z4] at he
        rw [A2 j hj, g5 (by omega), P1 j hj']
      · obtain ⟨ob, q1, q2⟩ := hu
        rw [slot j hj' hj] at q1; cases q1; cases q2
    · rw [O1 i hx] at q
      exact ⟨E, xs, q, Zc _, fun _ => O2 i hx⟩
 have outB : ∀ {x : Nat} {ob : Ob} {u : Value} {b : Nat}, (∀ j, j < h1'.length → π j ≠ x) → h[x]? = some ob → ob.live = true → hd[x]? = some u → blk u = some b → ¬ Own (pull π hd h1.length) h1 b := fun {x ob u b} hx q1 q2 q3 q4 ho => by
  obtain ⟨i, hi, ob', u', g1, g2, g3, g4⟩ := L.own o ho
  exact hx i (by omega) (o.inj _ _ _ _ _ _ b g1 q1 g2 q2 g3 q3 g4 q4)
 refine ⟨hd', h', ren π r1, p', ⟨h1', r1, k, hh.symm, rfl⟩, ⟨by rw [len1, len2]; exact o.len, fun i ob u q1 q2 => ?_, fun i j oi oj ui uj b q1 q2 l1 l2 r1' r2 b1 b2 => ?_, Ji E o, Jj E o⟩, rd_emb emb o'.len (fun _ _ h => h) _ _ (rd_low o'.len _ _ qr) qr, E⟩
 · rcases split i with ⟨j, hj, rfl⟩ | hx
   · rw [A1 j hj, Z1 hj] at q1
     rw [A2 j hj] at q2
     cases q1
     exact obOk_emb emb o'.len (o'.allLow _ (List.getElem_mem hj)) (o'.ob j _ u (Z1 hj) q2)
   · rw [O1 i hx] at q1; rw [O2 i hx] at q2
     refine (o.ob i ob u q1 q2).move E o (fun hl b hb => e.keep b (o.lt ⟨i, ob, u, q1, hl, q2, hb⟩) (outB hx q1 hl q2 hb)) fun hl b hb hp => ?_
     cases hp' : p' b with
     | false => rfl
     | true =>
      rcases e.seen b (o.lt ⟨i, ob, u, q1, hl, q2, hb⟩) hp' with h2 | h2
      · rw [hp] at h2; cases h2
      · exact absurd h2 (outB hx q1 hl q2 hb)
 · have mix : ∀ {x y : Nat} {ox oy : Ob} {ux uy : Value}, h'[x]? = some ox → h'[y]? = some oy → ox.live = true → oy.live = true → hd'[x]? = some ux → hd'[y]? = some uy → blk ux = some b → blk uy = some b → (∃ j, j < h1'.length ∧ π j = x) → (∀ j, j < h1'.length → π j ≠ y) → False := fun {x y ox oy ux uy} q1 q2 l1 l2 r1 r2 b1 b2 hx hy => by
    rw [O1 y hy] at q2; rw [O2 y hy] at r2
    have hb := o.lt ⟨y, oy, uy, q2, l2, r2, b2⟩
    exact outB hy q2 l2 r2 b2 (e.own b hb (ownB q1 l1 r1 b1 hx))
   rcases split i with hi | hi <;> rcases split j with hj | hj
   · obtain ⟨a, ha, rfl⟩ := hi
     obtain ⟨c, hc, rfl⟩ := hj
     rw [A1 a ha, Z1 ha] at q1
     rw [A1 c hc, Z1 hc] at q2
     rw [A2 a ha] at r1'; rw [A2 c hc] at r2
     cases q1; cases q2
     rw [o'.inj a c _ _ ui uj b (Z1 ha) (Z1 hc) (by rw [← Up (π := π)]; exact l1) (by rw [← Up (π := π)]; exact l2) r1' r2 b1 b2]
   · exact (mix q1 q2 l1 l2 r1' r2 b1 b2 hi hj).elim
   · exact (mix q2 q1 l2 l1 r2 r1' b2 b1 hj hi).elim
   · rw [O1 i hi] at q1; rw [O2 i hi] at r1'
     rw [O1 j hj] at q2; rw [O2 j hj] at r2
     exact o.inj i j oi oj ui uj b q1 q2 l1 l2 r1' r2 b1 b2
end
end
section
variable {P : Program} {G : Nat → D} {n : Nat} {e : Nat → D} {h h1 : List Ob} {ops : Array Oper} {md : Region.Mode}
def opds (o : Op) : List Operand := o.operands.toList
def OpTri (P : Program) (G : Nat → D) (o : Oper) (args : List D) (h : List Ob) (K : List Ob → D → Prop) : Prop :=
 ∀ (a : Act) w hd p (R : Exit → Act → World → Prop), a.defers = [] → Ok G w hd h p → rdL hd h (only p w) args ((opds o.op).map a.eval) → o.wp P a w (fun a' w' => ∃ v, a' = a.put o.dst v ∧ Post G w hd h p K v w') R
theorem OpTri.mono {o : Oper} {args : List D} {K K' : List Ob → D → Prop} (q : OpTri P G o args h K) (k : ∀ h' r, K h' r → K' h' r) : OpTri P G o args h K' := fun a w hd p R hd0 ok ha =>
 Oper.wp_mono (fun _ _ ⟨v, e, q⟩ => ⟨v, e, q.mono k⟩) (q a w hd p R hd0 ok ha)
theorem opds_env {a : Act} {w : World} {hd : List Value} {W : World} (op : Op) (ha : rdL hd h W ((opds op).map (ev G e)) ((opds op).map a.eval)) : ∀ t, Operand.tmp t ∈ opds op → rd hd h W (e t) (a.tmps.getD t undef) := fun t ht => by
 obtain ⟨j, hj, hx⟩ := List.getElem_of_mem ht
 obtain ⟨u, h1, h2⟩ := ((Xa _ _).1 ha).2 j (e t) (by rw [List.getElem?_map, Z1 hj, hx]; rfl)
 rw [List.getElem?_map, Z1 hj, hx] at h1
 cases h1; exact h2
open Classical in
theorem Uo {K : List Ob → D → Prop} {o : Oper} (q : aOp P G e h K o.op) : OpTri P G o ((opds o.op).map (ev G e)) h K := fun a w hd p R hdf ok ha => by
 obtain ⟨dst, op, ty, pos, aft, gd⟩ := o
 have r : Sat G ⟨w, hd, h, p⟩ ⟨a.tmps.size, fun t => if Operand.tmp t ∈ opds op then e t else .any, h⟩ a w hd p := ⟨ok, .refl _ _ _ _, fun t => by
  show rd _ _ _ (if _ then _ else _) _
  split
  · rename_i ht; exact opds_env (w := w) op ha t ht
  · rw [rd]; trivial, rfl, hdf⟩
 have q2 : aOp P G (fun t => if Operand.tmp t ∈ opds op then e t else .any) h K op := Zn1 (fun x hx => by
  cases x with
  | tmp t => show (if Operand.tmp t ∈ opds op then e t else .any) = e t; rw [if_pos (by unfold opds; simpa using hx)]
  | _ => rfl) q
 obtain ⟨v, w', hd', h', p', d, hr, k, o', q', ev'⟩ := Zn0 (dst := dst) (ty := ty) (pos := pos) (aft := aft) (gd := gd) r q2
 unfold Oper.wp
 rcases hr with hr | ⟨hr, rfl⟩
 · rw [hr]; exact ⟨v, rfl, hd', h', d, p', k, o', q', ev'⟩
 · rw [hr]; exact ⟨undef, rfl, hd', h', d, p', k, o', q', ev'⟩
theorem Uw {f : FuncId} {args : List D} {K : List Ob → D → Prop} : Does P G f h args K ↔ ∀ w hd p vs, Ok G w hd h p → rdL hd h (only p w) args vs → Calls P f vs.toArray w fun e w' => ∃ v, e = .returned v ∧ Post G w hd h p K v w' := by
 constructor
 · exact fun q w hd p vs o ha => (q w hd p vs o ha).mono fun _ _ ⟨v, hd', h', r, p', e, k, o', q', ev⟩ => ⟨v, e, hd', h', r, p', k, o', q', ev⟩
 · exact fun q w hd p vs o ha => (q w hd p vs o ha).mono fun _ _ ⟨v, e, hd', h', r, p', k, o', q', ev⟩ => ⟨v, hd', h', r, p', e, k, o', q', ev⟩
theorem tri_of_call {K : List Ob → D → Prop} {dst : Option Nat} {x : Operand} {args : Array Operand} {tys : Array TypeId} {ty : TypeId} {pos : String} {aft : Array Edge} {gd : Option (Nat × Bool)} {f : FuncId} {cap xs : List D} (he : entB P f = true) (hc : Does P G f h (xs ++ cap) K) :
 OpTri P G ⟨dst, .call ⟨.value x, args, tys⟩, ty, pos, aft, gd⟩ (.fn f cap :: xs) h K := fun a w hd p R hdf ok ha => by
 have ho : opds (.call ⟨.value x, args, tys⟩) = x :: args.toList := by simp [opds, Op.operands, Call.operands]
 rw [ho, Za, rdL] at ha
 obtain ⟨u, t, e0, q, ha⟩ := ha
 cases e0
 rw [rd] at q
 obtain ⟨cs, e1, q⟩ := q
 have hrun : (execOp a.eval ⟨dst, .call ⟨.value x, args, tys⟩, ty, pos, aft, gd⟩).run P w = .ok (.enter f (args.map a.eval ++ cs)) w := by
  simp [execOp, resolve, e1, Deferred.ofValue, invoke, Zk1 he]
 unfold Oper.wp
 rw [hrun, Oper.upon_enter]
 have := Uw.1 hc w hd p _ ok (Ww ha q)
 rw [show (args.toList.map a.eval ++ cs.toList).toArray = args.map a.eval ++ cs by apply Array.ext'; simp] at this
 refine this.mono ?_
 rintro e w' ⟨v, rfl, q⟩
 exact ⟨v, rfl, q⟩
section
variable {π : Nat → Nat} {args : List D} {K1 : List Ob → D → Prop}
def Fits (π : Nat → Nat) (m : Nat) (h : List Ob) (K1 : List Ob → D → Prop) : Prop := ∀ h1' r1, K1 h1' r1 → (∀ i j, i < h1'.length → j < h1'.length → π i = π j → i = j) ∧ ∀ j, m ≤ j → j < h1'.length → h[π j]? = some .hole
def inGreat (π : Nat → Nat) (h : List Ob) (K1 : List Ob → D → Prop) (h' : List Ob) (r : D) : Prop := ∃ h1' r1, K1 h1' r1 ∧ h' = plc π h 0 (h1'.map (Va π)) ∧ r = ren π r1
theorem OpTri.frame (hG : ∀ g, low 0 (G g)) (L : Lies π h1 h) (la : lowL h1.length args) (fit : Fits π h1.length h K1) {o : Oper} (q : OpTri P G o args h1 K1) : OpTri P G o (renL π args) h (inGreat π h K1) := fun a w hd p R hdf ok ha =>
 Oper.wp_mono (fun _ _ ⟨v, e, q⟩ => ⟨v, e, q.frame ok hG L fit⟩) (q a w _ p R hdf (L.ok ok hG) (Za4 (L.une ok) ok.len (fun _ _ h => h) _ _ la ha))
theorem Does.frame (hG : ∀ g, low 0 (G g)) (L : Lies π h1 h) (la : lowL h1.length args) (fit : Fits π h1.length h K1) {f : FuncId} (q : Does P G f h1 args K1) : Does P G f h (renL π args) (inGreat π h K1) := Uw.2 fun w hd p vs ok ha =>
 (Uw.1 q w _ p vs (L.ok ok hG) (Za4 (L.une ok) ok.len (fun _ _ h => h) _ _ la ha)).mono fun _ _ ⟨v, e, q⟩ => ⟨v, e, q.frame ok hG L fit⟩
end
def holes (c : Nat) : List Ob := Z9 c .hole
theorem Ok.holes {w : World} {hd : List Value} {p : Nat → Bool} (o : Ok G w hd h p) (c : Nat) : Ok G w (hd ++ Z9 c .nilFunc) (h ++ Go.Proofs.YtmdjnaobllajmaaGreatDoor.holes c) p ∧ Evo w hd h p w (hd ++ Z9 c .nilFunc) (h ++ Go.Proofs.YtmdjnaobllajmaaGreatDoor.holes c) p := by
 have hol : ∀ {i : Nat} {ob : Ob}, (h ++ Go.Proofs.YtmdjnaobllajmaaGreatDoor.holes c)[i]? = some ob → h[i]? = some ob ∨ (h.length ≤ i ∧ ob = .hole) := fun {i ob} q => by
  rcases Z6 i h.length with hi | hi
  · rw [Z2 hi] at q; exact .inl q
  · rw [Zf hi] at q
    exact .inr ⟨hi, (List.mem_replicate.1 (Zb q)).2⟩
 have old : ∀ {i : Nat} {ob : Ob} {u : Value}, (h ++ Go.Proofs.YtmdjnaobllajmaaGreatDoor.holes c)[i]? = some ob → ob.live = true → (hd ++ Z9 c Value.nilFunc)[i]? = some u → h[i]? = some ob ∧ hd[i]? = some u := fun {i ob u} q l r => by
  rcases hol q with h' | ⟨_, rfl⟩
  · exact ⟨h', by rwa [Z2 (by rw [o.len]; exact (Z0.1 h').1)] at r⟩
  · cases l
 have e : Evo w hd h p w (hd ++ Z9 c .nilFunc) (h ++ Go.Proofs.YtmdjnaobllajmaaGreatDoor.holes c) p := by
  refine ⟨rfl, rfl, rfl, Zc _, fun _ _ _ => rfl, fun _ _ q => q, fun _ _ q => .inl q, fun b _ ⟨i, ob, u, q1, q2, q3, q4⟩ => ?_, by simp, fun i B q => ?_, fun i B q => ?_, fun _ q => q.app, fun i E k xs hu q => ?_⟩
  · obtain ⟨h1, h2⟩ := old q1 q2 q3
    exact ⟨i, ob, u, h1, q2, h2, q4⟩
  · rw [Z2 (Z0.1 q).1]; exact q
  · rw [Z2 (Z0.1 q).1]; exact q
  · rw [Z2 hu.lt] at q
    exact ⟨E, xs, q, Zc _, fun _ => by rw [Z2 (by rw [o.len]; exact hu.lt)]⟩
 refine ⟨⟨by simp [o.len, Go.Proofs.YtmdjnaobllajmaaGreatDoor.holes], fun i ob u q1 q2 => ?_, fun i j oi oj ui uj b q1 q2 l1 l2 r1 r2 => ?_, Ji e o, Jj e o⟩, e⟩
 · rcases hol q1 with h' | ⟨hi, rfl⟩
   · rw [Z2 (by rw [o.len]; exact (Z0.1 h').1)] at q2
     exact (o.ob i ob u h' q2).move e o (fun _ _ _ => rfl) fun _ _ _ q => q
   · rw [Zf (by rw [o.len]; exact hi)] at q2
     exact (List.mem_replicate.1 (Zb q2)).2
 · obtain ⟨a1, a2⟩ := old q1 l1 r1
   obtain ⟨c1, c2⟩ := old q2 l2 r2
   exact o.inj i j oi oj ui uj b a1 c1 l1 l2 a2 c2
theorem Post.before {w w' : World} {hd hd' : List Value} {h h' : List Ob} {p p' : Nat → Bool} (e : Evo w hd h p w hd' h' p') {K : List Ob → D → Prop} {v : Value} (q : Post G w hd' h' p' K v w') : Post G w hd h p K v w' := by
 obtain ⟨hd2, h2, r, p2, k, o, q, e2⟩ := q
 exact ⟨hd2, h2, r, p2, k, o, q, e.trans e2⟩
theorem Does.holes {f : FuncId} {args : List D} {K : List Ob → D → Prop} (c : Nat) (q : Does P G f (h ++ Go.Proofs.YtmdjnaobllajmaaGreatDoor.holes c) args K) : Does P G f h args K := Uw.2 fun w hd p vs ok ha => by
 obtain ⟨ok2, e⟩ := ok.holes c
 exact (Uw.1 q w _ p vs ok2 (e.rdL ok ha)).mono fun _ _ ⟨v, e1, q⟩ => ⟨v, e1, q.before e⟩
theorem Sit_holes {B : Base} {a : Act} {w : World} (c : Nat) (r : Sit G B ⟨n, e, h⟩ a w) : Sit G B ⟨n, e, h ++ holes c⟩ a w := by
 obtain ⟨hd, p, r⟩ := r
 obtain ⟨o, ev⟩ := r.ok.holes c
 exact ⟨_, p, o, r.evo.trans ev, fun t => ev.rd r.ok (r.tmp t), r.size, r.defers⟩
structure Ef where
 R : List (Nat × Ob)
 W : List (Nat × Ob)
 d : D
def Ef.ok (E : Ef) (h : List Ob) : Prop := ∀ x ∈ E.R, h[x.1]? = some x.2
def Ef.heap (E : Ef) (h : List Ob) : List Ob := Xc h E.W
def Ef.fit (E : Ef) : Prop := ∀ x ∈ E.W, ∃ y ∈ E.R, y.1 = x.1
def nopF : Ef := ⟨[], [], .v undef⟩
def YT (P : Program) (G : Nat → D) (o : Oper) (args : List D) (E : Ef) : Prop := E.fit ∧ ∀ h, E.ok h → OpTri P G o args h (fun h' r => h' = E.heap h ∧ r = E.d)
def YDT (P : Program) (G : Nat → D) (ops : Array Oper) (o : Oper) (E : Ef) (e : Nat → D) : Prop := (Yo ops o.guard e = some true ∧ YT P G o ((opds o.op).map (ev G e)) E) ∨ (Yo ops o.guard e = some false ∧ E = nopF)
theorem YDT.fit {o : Oper} {E : Ef} (q : YDT P G ops o E e) : E.fit := by
 rcases q with ⟨_, q⟩ | ⟨_, rfl⟩
 · exact q.1
 · simp [nopF, Ef.fit]
theorem YDT.congr {o : Oper} {E : Ef} {dst : Option Nat} {v : D} (q : ∀ t, dst = some t → t ∉ o.looksAt ops) : YDT P G ops o E (putE n e dst v) ↔ YDT P G ops o E e := by
 have key : (opds o.op).map (ev G (putE n e dst v)) = (opds o.op).map (ev G e) := Zd fun x hx => Yj1 fun t ht => Zf9 (q t ht) x (by unfold opds at hx; simpa using hx)
 unfold YDT
 rw [Jy q, key]
def compF (E F : Ef) : Prop := (∀ x ∈ E.W, ∀ y ∈ F.R, x.1 ≠ y.1) ∧ (∀ x ∈ F.W, ∀ y ∈ E.R, x.1 ≠ y.1)
theorem compF.symm {E F : Ef} (q : compF E F) : compF F E := ⟨q.2, q.1⟩
theorem Ef.heap_len (E : Ef) (h : List Ob) : (E.heap h).length = h.length := U2 _ _
theorem Ef.ok_after {E F : Ef} (c : compF E F) : F.ok (E.heap h) ↔ F.ok h := by
 constructor <;> intro q y hy <;> have := q y hy <;> unfold Ef.heap at * <;> rw [Zf2 _ _ fun x hx => c.1 x hx y hy] at * <;> exact this
theorem Ef.heap_comm {E F : Ef} (c : compF E F) (fF : F.fit) : F.heap (E.heap h) = E.heap (F.heap h) := Zh1 E.W F.W h fun x hx y hy => by
 obtain ⟨z, hz, he⟩ := fF y hy
 rw [← he]; exact c.1 x hx z hz
def afOp (P : Program) (G : Nat → D) (n : Nat) (ops : Array Oper) (ef : Nat → Ef) (i : Nat) (K : (Nat → D) → List Ob → Prop) (e : Nat → D) (h : List Ob) : Prop := match ops[i]? with
 | none => K e h
 | some o => YDT P G ops o (ef i) e ∧ (ef i).ok h ∧ K (putE n e o.dst (ef i).d) ((ef i).heap h)
def afAny (P : Program) (G : Nat → D) (n : Nat) (md : Region.Mode) (ops : Array Oper) (ef : Nat → Ef) (Q : (Nat → D) → List Ob → Prop) : Nat → Array Bool → (Nat → D) → List Ob → Prop
 | 0, listed, e, h => Region.ready md ops listed = [] ∧ Q e h
 | fuel + 1, listed, e, h => (Region.ready md ops listed = [] → Q e h) ∧ ∀ i ∈ Region.ready md ops listed, afOp P G n ops ef i (afAny P G n md ops ef Q fuel (listed.setIfInBounds i true)) e h
theorem afAny_first {ef : Nat → Ef} {Q : (Nat → D) → List Ob → Prop} {i : Nat} {oi : Oper} (hi : ops[i]? = some oi) : ∀ (fuel : Nat) (listed : Array Bool) (e : Nat → D) (h : List Ob), Closed md ops listed →
 (∀ j oj, ops[j]? = some oj → j ≠ i → listed.getD j true = false → (∀ e ∈ oj.after, Region.binds md e = true → e.on ≠ i) → (∀ k, twB md ops k j i = false) → oi.apart ops oj = true ∧ compF (ef i) (ef j)) →
 i ∈ Region.ready md ops listed → YDT P G ops oi (ef i) e → (ef i).ok h → afAny P G n md ops ef Q fuel (listed.setIfInBounds i true) (putE n e oi.dst (ef i).d) ((ef i).heap h) → afAny P G n md ops ef Q (fuel + 1) listed e h := by
  intro fuel
  induction fuel with
  | zero =>
    intro listed a h _ _ hr hy hk H
    refine ⟨fun h => (by rw [h] at hr; cases hr), fun j hj => ?_⟩
    by_cases hji : j = i
    · subst hji; unfold afOp; simp only [hi]; exact ⟨hy, hk, H⟩
    · have := ready_mono hj hji
      rw [H.1] at this
      cases this
  | succ fuel ih =>
    intro listed a h hcl hfree hr hy hk H
    refine ⟨fun h => (by rw [h] at hr; cases hr), fun j hj => ?_⟩
    by_cases hji : j = i
    · subst hji; unfold afOp; simp only [hi]; exact ⟨hy, hk, H⟩
    · have h1 := H.2 j (ready_mono hj hji)
      obtain ⟨hjun, oj, hoj, hall⟩ := mem_ready.1 hj
      have hnot : ∀ e ∈ oj.after, Region.binds md e = true → e.on ≠ i := fun e he hb heq => by
        have h1 := hall e he hb
        have h0 := (mem_ready.1 hr).1
        rw [heq] at h1
        rcases Z6 i listed.size with h' | h'
        · simp [h'] at h0 h1; rw [h0] at h1; cases h1
        · simp [Array.getElem?_eq_none h'] at h1
      have hnt : ∀ k, twB md ops k j i = false := fun k => by
       cases ht : twB md ops k j i with
       | false => rfl
       | true =>
        have h1 := Ye6 hcl (Array.getElem?_eq_some_iff.1 hi).1 k j oj hoj hall ht
        have h0 := (mem_ready.1 hr).1
        rw [Ze] at h0 h1
        cases hl : listed[i]? with
        | none => rw [hl] at h0; cases h0
        | some b => rw [hl] at h0 h1; simp at h0 h1; rw [h0] at h1; cases h1
      obtain ⟨hap, hc⟩ := hfree j oj hoj hji hjun hnot hnt
      obtain ⟨a1, a2, a3⟩ := Oper.apart_spec hap
      unfold afOp at h1 ⊢
      simp only [hoj] at h1 ⊢
      obtain ⟨y1, y2, y3⟩ := h1
      have yj : YDT P G ops oj (ef j) a := (YDT.congr a1).1 y1
      have kj : (ef j).ok h := (Ef.ok_after hc).1 y2
      have ki : (ef i).ok ((ef j).heap h) := (Ef.ok_after hc.symm).2 hk
      have hfree' : ∀ k ok, ops[k]? = some ok → k ≠ i → (listed.setIfInBounds j true).getD k true = false →
          (∀ e ∈ ok.after, Region.binds md e = true → e.on ≠ i) → (∀ f, twB md ops f k i = false) → oi.apart ops ok = true ∧ compF (ef i) (ef k) := fun k ok hk hki hun hno hnt => by
        refine hfree k ok hk hki ?_ hno hnt
        by_cases hjk : j = k
        · subst hjk; exact hjun
        · rw [getD_set_ne true hjk] at hun; exact hun
      refine ⟨yj, kj, ih (listed.setIfInBounds j true) _ _ (hcl.set hj) hfree' (ready_mono hr (Ne.symm hji)) ((YDT.congr a3).2 hy) ki ?_⟩
      rw [Array.setIfInBounds_comm _ _ hji]
      rw [← Ef.heap_comm hc yj.fit, ← Zw5 a2]
      exact y3
def efOk (md : Region.Mode) (ops : Array Oper) (ef : Nat → Ef) : Prop := ∀ i j oj, i < j → ops[j]? = some oj → (∀ e ∈ oj.after, Region.binds md e = true → e.on ≠ i) → (∀ k, twB md ops k j i = false) → compF (ef i) (ef j)
def af (P : Program) (G : Nat → D) (n : Nat) (ops : Array Oper) (ef : Nat → Ef) (Q : (Nat → D) → List Ob → Prop) : Nat → List Oper → (Nat → D) → List Ob → Prop
 | _, [], e, h => Q e h
 | k, o :: rest, e, h => YDT P G ops o (ef k) e ∧ (ef k).ok h ∧ af P G n ops ef Q (k + 1) rest (putE n e o.dst (ef k).d) ((ef k).heap h)
section
variable {B : Base} {a : Act} {w : World}
theorem tri_sound {o : Oper} {h' : List Ob} {d : D} {K : Act → World → Prop} {R : Exit → Act → World → Prop} (q : OpTri P G o ((opds o.op).map (ev G e)) h (fun h1 d1 => h1 = h' ∧ d1 = d)) (r : Sit G B ⟨n, e, h⟩ a w) (k : ∀ a' w', Sit G B ⟨n, putE n e o.dst d, h'⟩ a' w' → K a' w') : o.wp P a w K R := by
 obtain ⟨hd, p, r⟩ := r
 refine Oper.wp_mono ?_ (q a w hd p R r.defers r.ok (Zv3 r _))
 rintro a' w' ⟨v, rfl, hd', h'', d', p', ⟨rfl, rfl⟩, o', q', ev'⟩
 have := r.put o' ev' q' o.dst
 rw [Za6] at this
 exact k _ _ ⟨hd', p', this⟩
theorem Zb6 {ef : Nat → Ef} {Q : (Nat → D) → List Ob → Prop} {R : Exit → Act → World → Prop} (k : ∀ e h a w, Q e h → Sit G B ⟨n, e, h⟩ a w → R .normal a w) : ∀ (fuel : Nat) (listed : Array Bool) (e : Nat → D) (h : List Ob) (a : Act) (w : World), Sit G B ⟨n, e, h⟩ a w → afAny P G n md ops ef Q fuel listed e h → wpAny P md ops R fuel listed a w
 | 0, _, _, _, _, _, r, q => ⟨q.1, k _ _ _ _ q.2 r⟩
 | fuel + 1, listed, e, h, a, w, r, q => ⟨fun h0 => k _ _ _ _ (q.1 h0) r, fun i hi => by
   have q2 := q.2 i hi
   unfold afOp at q2
   unfold wpOp
   split
   · rename_i ho; rw [ho] at q2; exact Zb6 k fuel _ _ _ _ _ r q2
   · rename_i o ho
     rw [ho] at q2
     obtain ⟨hy, hk, hn⟩ := q2
     obtain ⟨hd, p, r'⟩ := id r
     rcases hy with ⟨hw, _, hs⟩ | ⟨hw, hE⟩
     · have hw' := Xo (o := o) r' hw
       rw [if_pos hw']
       exact .inl (tri_sound (hs h hk) r fun a' w' r2 => Zb6 k fuel _ _ _ _ _ r2 hn)
     · have hw' := Xo (o := o) r' hw
       rw [if_neg (by rw [hw']; decide)]
       rw [hE] at hn
       have r3 := r'.put0 (d := .v undef) (v := undef) (by rw [rd]) o.dst
       rw [Za6] at r3
       exact Zb6 k fuel _ _ _ _ _ ⟨hd, p, r3⟩ hn⟩
end
theorem aw_holes {c : Code} {Q : Exit → S → Prop} (k : Nat) (q : aw P G c Q ⟨n, e, h ++ holes k⟩) : aw P G c Q ⟨n, e, h⟩ := fun B a w r => q B a w (Sit_holes k r)
theorem ao_tri {o : Oper} {rest : List Oper} {Q : S → Prop} {h' : List Ob} {d : D} (hw : Yo ops o.guard e = some true) (q : OpTri P G o ((opds o.op).map (ev G e)) h (fun h1 d1 => h1 = h' ∧ d1 = d)) (k : ao P G ops rest Q ⟨n, putE n e o.dst d, h'⟩) : ao P G ops (o :: rest) Q ⟨n, e, h⟩ := by
 rintro B a w r R hR
 obtain ⟨hd, p, r'⟩ := id r
 unfold wpList
 rw [if_pos (Xo (o := o) r' hw)]
 exact .inl (tri_sound q r fun a' w' r2 => k B a' w' r2 R hR)
theorem ao_triN {o : Oper} {rest : List Oper} {Q : S → Prop} (hw : Yo ops o.guard e = some false) (k : ao P G ops rest Q ⟨n, putE n e o.dst (.v undef), h⟩) : ao P G ops (o :: rest) Q ⟨n, e, h⟩ := by
 obtain ⟨dst, op, ty, pos, aft, gd⟩ := o
 exact ao_skip hw (by rw [Za6]; exact k)
end
section
set_option linter.unusedSectionVars false
theorem bqT {a b : Nat} (q : Z3 a b = true) : a = b := Nat.eq_of_beq_eq_true q
theorem bqF {a b : Nat} (q : Z3 a b = false) : a ≠ b := Nat.ne_of_beq_eq_false q
theorem bqE (a b : Nat) : Z3 a b = decide (a = b) := by
 cases h : Z3 a b
 · rw [decide_eq_false (bqF h)]
 · rw [decide_eq_true (bqT h)]
inductive Tr where
 | leaf
 | node (d : D) (l r : Tr)
def Tr.get : Tr → Nat → D
 | .leaf, _ => .any
 | .node d l r, i => bif Z3 i 0 then d else bif Z3 (i % 2) 1 then l.get (i / 2) else r.get (i / 2 - 1)
def Tr.set : Nat → Tr → Nat → D → Tr
 | 0, t, _, _ => t
 | k + 1, .leaf, i, d => bif Z3 i 0 then .node d .leaf .leaf else bif Z3 (i % 2) 1 then .node .any (Tr.set k .leaf (i / 2) d) .leaf else .node .any .leaf (Tr.set k .leaf (i / 2 - 1) d)
 | k + 1, .node d0 l r, i, d => bif Z3 i 0 then .node d l r else bif Z3 (i % 2) 1 then .node d0 (Tr.set k l (i / 2) d) r else .node d0 l (Tr.set k r (i / 2 - 1) d)
theorem Tr.get_set : ∀ (k : Nat) (t : Tr) (i : Nat) (d : D) (j : Nat), i + 1 < 2 ^ k → (Tr.set k t i d).get j = if j = i then d else t.get j := by
 have bq := bqE
 intro k
 induction k with
 | zero => intro t i d j h; simp at h
 | succ k ih =>
  intro t i d j h
  have h2 : i + 1 < 2 * 2 ^ k := by rw [Nat.pow_succ] at h; omega
  have key : ∀ (d0 : D) (l r : Tr), (bif Z3 i 0 then Tr.node d l r else bif Z3 (i % 2) 1 then .node d0 (Tr.set k l (i / 2) d) r else .node d0 l (Tr.set k r (i / 2 - 1) d)).get j = if j = i then d else (Tr.node d0 l r).get j := fun d0 l r => by
   simp only [bq]
   by_cases h0 : i = 0
   · subst h0
     by_cases hj : j = 0 <;> simp [hj, Tr.get, bq]
   · by_cases h1 : i % 2 = 1
     · simp only [h0, h1, decide_false, decide_true, cond_false, cond_true, Tr.get, bq]
       rw [ih l (i / 2) d (j / 2) (by omega)]
       by_cases hj0 : j = 0
       · subst hj0; simp [Ne.symm h0]
       · by_cases hj1 : j % 2 = 1
         · simp only [hj0, hj1, decide_false, decide_true, cond_false, cond_true]
           by_cases hji : j = i
           · subst hji; simp
           · rw [if_neg (by omega), if_neg hji]
         · simp only [hj0, hj1, decide_false, cond_false]
           rw [if_neg (by omega)]
     · simp only [h0, h1, decide_false, cond_false, Tr.get, bq]
       rw [ih r (i / 2 - 1) d (j / 2 - 1) (by omega)]
       by_cases hj0 : j = 0
       · subst hj0; simp [Ne.symm h0]
       · by_cases hj1 : j % 2 = 1
         · simp only [hj0, hj1, decide_false, decide_true, cond_false, cond_true]
           rw [if_neg (by omega)]
         · simp only [hj0, hj1, decide_false, cond_false]
           by_cases hji : j = i
           · subst hji; simp
           · rw [if_neg (by omega), if_neg hji]
  cases t with
  | leaf =>
   rw [Tr.set]
   have := key .any .leaf .leaf
   have e1 : ∀ x, Tr.get .leaf x = .any := fun _ => rfl
   have e2 : (Tr.node .any .leaf .leaf).get j = Tr.get .leaf j := by simp only [Tr.get]; cases Z3 j 0 <;> cases Z3 (j % 2) 1 <;> rfl
   rw [e2] at this; exact this
  | node d0 l r => rw [Tr.set]; exact key d0 l r
/-! The names that a datum bears. -/
mutual
def refs : D → List Nat
 | .any | .v _ | .e0 => []
 | .sl _ xs => refsR xs
 | .agg ds | .tup ds | .rp ds | .fn _ ds => refsL ds
 | .ptr i _ | .buf i _ | .bp i _ _ _ | .win i _ _ _ | .arr i _ _ _ _ | .mp i => [i]
def refsL : List D → List Nat
 | [] => []
 | d :: t => match refs d with
  | [] => refsL t
  | a :: l => a :: l ++ refsL t
def refsR : List (List D) → List Nat
 | [] => []
 | d :: t => match refsL d with
  | [] => refsR t
  | a :: l => a :: l ++ refsR t
end
def refsOb : Ob → List Nat
 | .cells ds => refsL ds
 | .buf _ _ xs => refsR xs
 | .map es _ => refsL (es.map (·.2.2))
 | .iter m _ _ _ => [m]
 | .hole | .dead => []
def memN (i : Nat) : List Nat → Bool
 | [] => false
 | a :: t => bif Z3 a i then true else memN i t
def addR (R : List Nat) : List Nat → List Nat
 | [] => R
 | i :: t => bif memN i R then addR R t else addR (R ++ [i]) t
def closeR (h : List Ob) : Nat → Nat → List Nat → List Nat
 | 0, _, R => R
 | k + 1, j, R => match R[j]? with
  | none => R
  | some i => match h[i]? with
   | some ob => closeR h k (j + 1) (addR R (refsOb ob))
   | none => closeR h k (j + 1) R
def pos (i : Nat) : List Nat → Option Nat
 | [] => none
 | a :: t => bif Z3 a i then some 0 else match pos i t with
  | some j => some (j + 1)
  | none => none
theorem J7 {i : Nat} : ∀ (R : List Nat) (j : Nat), pos i R = some j → R[j]? = some i
 | [], _, q => by simp [pos] at q
 | a :: t, j, q => by
  rw [pos] at q
  cases hb : Z3 a i
  · rw [hb] at q
    simp only [cond_false] at q
    split at q
    · rename_i j' hj; cases q; simpa using J7 t j' hj
    · cases q
  · rw [hb] at q
    simp only [cond_true, Option.some.injEq] at q
    subst q
    simpa using bqT hb
mutual
def rnO (R : List Nat) : D → Option D
 | .any => some .any
 | .v x => some (.v x)
 | .e0 => some .e0
 | .sl k xs => match rnR R xs with
  | some ys => some (.sl k ys)
  | none => none
 | .agg ds => match rnL R ds with
  | some ys => some (.agg ys)
  | none => none
 | .tup ds => match rnL R ds with
  | some ys => some (.tup ys)
  | none => none
 | .rp ds => match rnL R ds with
  | some ys => some (.rp ys)
  | none => none
 | .fn f ds => match rnL R ds with
  | some ys => some (.fn f ys)
  | none => none
 | .ptr i o => match pos i R with
  | some j => some (.ptr j o)
  | none => none
 | .buf i n => match pos i R with
  | some j => some (.buf j n)
  | none => none
 | .bp i n r c => match pos i R with
  | some j => some (.bp j n r c)
  | none => none
 | .win i n a b => match pos i R with
  | some j => some (.win j n a b)
  | none => none
 | .arr i o n c k => match pos i R with
  | some j => some (.arr j o n c k)
  | none => none
 | .mp i => match pos i R with
  | some j => some (.mp j)
  | none => none
def rnL (R : List Nat) : List D → Option (List D)
 | [] => some []
 | d :: t => match rnO R d with
  | some d' => match rnL R t with
   | some t' => some (d' :: t')
   | none => none
  | none => none
def rnR (R : List Nat) : List (List D) → Option (List (List D))
 | [] => some []
 | d :: t => match rnL R d with
  | some d' => match rnR R t with
   | some t' => some (d' :: t')
   | none => none
  | none => none
end
section
variable {R : List Nat} {π : Nat → Nat} (hπ : ∀ k i, R[k]? = some i → π k = i)
include hπ
mutual
theorem Zr4 : ∀ d d', rnO R d = some d' → ren π d' = d ∧ low R.length d'
 | .any, d', q => by rw [rnO] at q; cases q; exact ⟨by rw [ren], by rw [low]; trivial⟩
 | .v x, d', q => by rw [rnO] at q; cases q; exact ⟨by rw [ren], by rw [low]; trivial⟩
 | .e0, d', q => by rw [rnO] at q; cases q; exact ⟨by rw [ren], by rw [low]; trivial⟩
 | .sl k xs, d', q => by
  rw [rnO] at q; split at q
  · rename_i ys hy; cases q; obtain ⟨h1, h2⟩ := Yf8 xs ys hy; exact ⟨by rw [ren, h1], by rw [low]; exact h2⟩
  · cases q
 | .agg xs, d', q => by
  rw [rnO] at q; split at q
  · rename_i ys hy; cases q; obtain ⟨h1, h2⟩ := J1 xs ys hy; exact ⟨by rw [ren, h1], by rw [low]; exact h2⟩
  · cases q
 | .tup xs, d', q => by
  rw [rnO] at q; split at q
  · rename_i ys hy; cases q; obtain ⟨h1, h2⟩ := J1 xs ys hy; exact ⟨by rw [ren, h1], by rw [low]; exact h2⟩
  · cases q
 | .rp xs, d', q => by
  rw [rnO] at q; split at q
  · rename_i ys hy; cases q; obtain ⟨h1, h2⟩ := J1 xs ys hy; exact ⟨by rw [ren, h1], by rw [low]; exact h2⟩
  · cases q
 | .fn f xs, d', q => by
  rw [rnO] at q; split at q
  · rename_i ys hy; cases q; obtain ⟨h1, h2⟩ := J1 xs ys hy; exact ⟨by rw [ren, h1], by rw [low]; exact h2⟩
  · cases q
 | .ptr i o, d', q => by
  rw [rnO] at q; split at q
  · rename_i j hj; cases q; have := J7 _ _ hj; exact ⟨by rw [ren, hπ _ _ this], by rw [low]; exact (Z0.1 this).1⟩
  · cases q
 | .buf i o, d', q => by
  rw [rnO] at q; split at q
  · rename_i j hj; cases q; have := J7 _ _ hj; exact ⟨by rw [ren, hπ _ _ this], by rw [low]; exact (Z0.1 this).1⟩
  · cases q
 | .bp i n r c, d', q => by
  rw [rnO] at q; split at q
  · rename_i j hj; cases q; have := J7 _ _ hj; exact ⟨by rw [ren, hπ _ _ this], by rw [low]; exact (Z0.1 this).1⟩
  · cases q
 | .win i n r c, d', q => by
  rw [rnO] at q; split at q
  · rename_i j hj; cases q; have := J7 _ _ hj; exact ⟨by rw [ren, hπ _ _ this], by rw [low]; exact (Z0.1 this).1⟩
  · cases q
 | .arr i n r c k, d', q => by
  rw [rnO] at q; split at q
  · rename_i j hj; cases q; have := J7 _ _ hj; exact ⟨by rw [ren, hπ _ _ this], by rw [low]; exact (Z0.1 this).1⟩
  · cases q
 | .mp i, d', q => by
  rw [rnO] at q; split at q
  · rename_i j hj; cases q; have := J7 _ _ hj; exact ⟨by rw [ren, hπ _ _ this], by rw [low]; exact (Z0.1 this).1⟩
  · cases q
theorem J1 : ∀ d d', rnL R d = some d' → renL π d' = d ∧ lowL R.length d'
 | [], d', q => by rw [rnL] at q; cases q; exact ⟨by rw [renL], by rw [lowL]; trivial⟩
 | d :: t, d', q => by
  rw [rnL] at q; split at q
  · rename_i d1 h1
    split at q
    · rename_i t1 h2
      cases q
      obtain ⟨a1, a2⟩ := Zr4 d d1 h1
      obtain ⟨b1, b2⟩ := J1 t t1 h2
      exact ⟨by rw [renL, a1, b1], by rw [lowL]; exact ⟨a2, b2⟩⟩
    · cases q
  · cases q
theorem Yf8 : ∀ d d', rnR R d = some d' → renR π d' = d ∧ lowR R.length d'
 | [], d', q => by rw [rnR] at q; cases q; exact ⟨by rw [renR], by rw [lowR]; trivial⟩
 | d :: t, d', q => by
  rw [rnR] at q; split at q
  · rename_i d1 h1
    split at q
    · rename_i t1 h2
      cases q
      obtain ⟨a1, a2⟩ := J1 d d1 h1
      obtain ⟨b1, b2⟩ := Yf8 t t1 h2
      exact ⟨by rw [renR, a1, b1], by rw [lowR]; exact ⟨a2, b2⟩⟩
    · cases q
  · cases q
end
end
def rnE (R : List Nat) : List (Value × Nat × D) → Option (List (Value × Nat × D))
 | [] => some []
 | (x, b, d) :: t => match rnO R d with
  | some d' => match rnE R t with
   | some t' => some ((x, b, d') :: t')
   | none => none
  | none => none
def rnOb (R : List Nat) : Ob → Option Ob
 | .cells ds => match rnL R ds with
  | some ys => some (.cells ys)
  | none => none
 | .buf e k xs => match rnR R xs with
  | some ys => some (.buf e k ys)
  | none => none
 | .map es c => match rnE R es with
  | some ys => some (.map ys c)
  | none => none
 | .iter m s l a => match pos m R with
  | some j => some (.iter j s l a)
  | none => none
 | .hole => some .hole
 | .dead => some .dead
def rnH (R : List Nat) (h : List Ob) : List Nat → Option (List Ob)
 | [] => some []
 | i :: t => match h[i]? with
  | some ob => match rnOb R ob with
   | some ob' => match rnH R h t with
    | some l => some (ob' :: l)
    | none => none
   | none => none
  | none => none
def Jt : List Nat → Bool
 | [] => true
 | a :: t => bif memN a t then false else Jt t
theorem Zs6 {i : Nat} : ∀ l, memN i l = true ↔ i ∈ l
 | [] => by simp [memN]
 | a :: t => by
  rw [memN]
  cases hb : Z3 a i
  · have h2 : a ≠ i := bqF hb
    simp [Zs6 t, Ne.symm h2]
  · have h2 : a = i := bqT hb
    simp [h2]
theorem Zh6 : ∀ l, Jt l = true → l.Nodup
 | [], _ => List.nodup_nil
 | a :: t, q => by
  rw [Jt] at q
  cases hm : memN a t
  · rw [hm] at q
    exact List.nodup_cons.2 ⟨fun h => (by rw [(Zs6 t).2 h] at hm; cases hm), Zh6 t q⟩
  · rw [hm] at q; cases q
section
variable {R : List Nat} {π : Nat → Nat} (hπ : ∀ k i, R[k]? = some i → π k = i)
include hπ
theorem rnE_spec : ∀ d d', rnE R d = some d' → (d'.map fun e => (e.1, e.2.1, ren π e.2.2)) = d ∧ lowL R.length (d'.map (·.2.2))
 | [], d', q => by rw [rnE] at q; cases q; exact ⟨rfl, by rw [List.map_nil, lowL]; trivial⟩
 | (x, b, d) :: t, d', q => by
  rw [rnE] at q; split at q
  · rename_i d1 h1
    split at q
    · rename_i t1 h2
      cases q
      obtain ⟨a1, a2⟩ := Zr4 hπ d d1 h1
      obtain ⟨b1, b2⟩ := rnE_spec t t1 h2
      exact ⟨by rw [Za, b1, a1], by rw [Za, lowL]; exact ⟨a2, b2⟩⟩
    · cases q
  · cases q
theorem rnOb_spec {ob ob' : Ob} (q : rnOb R ob = some ob') : Va π ob' = ob ∧ Zx1 R.length ob' := by
 cases ob <;> rw [rnOb] at q
 case cells ds => split at q
                  · rename_i hy; cases q; obtain ⟨h1, h2⟩ := J1 hπ _ _ hy; exact ⟨by rw [Va, h1], h2⟩
                  · cases q
 case buf e k xs => split at q
                    · rename_i hy; cases q; obtain ⟨h1, h2⟩ := Yf8 hπ _ _ hy; exact ⟨by rw [Va, h1], h2⟩
                    · cases q
 case map es c => split at q
                  · rename_i hy; cases q; obtain ⟨h1, h2⟩ := rnE_spec hπ _ _ hy; exact ⟨by rw [Va, h1], h2⟩
                  · cases q
 case iter m s l a => split at q
                      · rename_i j hj; cases q; have := J7 _ _ hj; exact ⟨by rw [Va, hπ _ _ this], (Z0.1 this).1⟩
                      · cases q
 case hole => cases q; exact ⟨rfl, trivial⟩
 case dead => cases q; exact ⟨rfl, trivial⟩
theorem Zr5 {h : List Ob} : ∀ (l : List Nat) (h1 : List Ob), rnH R h l = some h1 → h1.length = l.length ∧ ∀ (k : Nat) (ob : Ob), h1[k]? = some ob → ∃ i : Nat, l[k]? = some i ∧ h[i]? = some (Va π ob) ∧ Zx1 R.length ob
 | [], h1, q => by rw [rnH] at q; cases q; exact ⟨rfl, fun k ob hk => by simp at hk⟩
 | i :: t, h1, q => by
  rw [rnH] at q
  split at q
  rotate_left
  · cases q
  rename_i ob hob
  split at q
  rotate_left
  · cases q
  rename_i ob' hob'
  split at q
  rotate_left
  · cases q
  rename_i l hl
  cases q
  obtain ⟨e1, e2⟩ := Zr5 t l hl
  obtain ⟨f1, f2⟩ := rnOb_spec hπ hob'
  refine ⟨by simp [e1], fun k o hk => ?_⟩
  cases k with
  | zero => simp at hk; subst hk; exact ⟨i, rfl, by rw [f1]; exact hob, f2⟩
  | succ k => simpa using e2 k o (by simpa using hk)
theorem lies_of_rn {h h1 : List Ob} (q : rnH R h R = some h1) (nd : Jt R = true) : h1.length = R.length ∧ Lies π h1 h := by
 obtain ⟨e1, e2⟩ := Zr5 hπ R h1 q
 refine ⟨e1, fun i ob hi => ?_, fun i j hi hj he => ?_, fun ob hob => ?_⟩
 · obtain ⟨x, h2, h3, _⟩ := e2 i ob hi
   rw [hπ _ _ h2]; exact h3
 · have hi' : i < R.length := by omega
   have hj' : j < R.length := by omega
   have h2 := hπ i _ (Z1 hi')
   have h3 := hπ j _ (Z1 hj')
   have : R[i] = R[j] := by rw [← h2, ← h3, he]
   exact (List.getElem_inj (Zh6 R nd)).1 this
 · obtain ⟨i, hi, rfl⟩ := List.getElem_of_mem hob
   obtain ⟨_, _, _, h4⟩ := e2 i _ (Z1 hi)
   rw [e1]; exact h4
end
def plcN (R : List Nat) (L j : Nat) : Nat := match R[j]? with
 | some i => i
 | none => L + (j - R.length)
theorem U6 {R : List Nat} {L : Nat} : ∀ k i, R[k]? = some i → plcN R L k = i := fun k i q => by unfold plcN; rw [q]
theorem Za8 {R : List Nat} {L k : Nat} (q : R.length ≤ k) : plcN R L k = L + (k - R.length) := by unfold plcN; rw [List.getElem?_eq_none q]
end
section
variable {P : Program} {G : Nat → D} {n : Nat} {e : Nat → D} {h h1 : List Ob}
theorem Ze3 {f : FuncId} {fn : Func} {c : Code} {args : List D} {K : List Ob → D → Prop} (hf : P.funcs[f]? = some fn) (hb : fn.body = some c) (hn : args.length ≤ fn.ntmps)
 (H : aw P G c (fun e s => (e = .normal ∨ e = .ret) ∧ ∃ ds, resD P s fn.results.toList = some ds ∧ K s.h (outD ds)) ⟨fn.ntmps, Zq6 args, h⟩) : Does P G f h args K := by
 intro w hd p vs o ha
 have hlen := Vy ha
 refine calls_of_wp hf hb (Code.wp_mono ?_ (H ⟨w, hd, h, p⟩ { tmps := vs.toArray ++ Array.replicate (fn.ntmps - vs.toArray.size) undef, defers := [] } w ⟨hd, p, o, .refl _ _ _ _, fun t => ?_, by simp; omega, rfl⟩))
 · rintro e a' w' ⟨s', ⟨he, ds, h1, h6⟩, hd', p', r⟩
   have fin : ∃ v, (results fn a'.tmps).run P w' = .ok v w' ∧ rd hd' s'.h (only p' w') (outD ds) v := by
    obtain ⟨vs', e1, q1⟩ := Yf6 r _ _ h1
    have hl := Vy q1
    have e2 : (results fn a'.tmps).run P w' = .ok (if h : vs'.toArray.size = 1 then vs'.toArray[0] else .tuple vs'.toArray) w' := by
     rw [Yb4, Array.mapM_eq_mapM_toList]
     simp only [Sem.run_bind, Sem.run_map, e1, Result.andThen_ok]
     rfl
    refine ⟨_, e2, ?_⟩
    match ds, vs', q1, hl with
    | [], vs', q1, hl =>
     have : vs' = [] := List.eq_nil_of_length_eq_zero hl.symm
     subst this
     simp only [outD]; rw [rd]; exact ⟨#[], rfl, q1⟩
    | [d], vs', q1, hl =>
     rw [rdL] at q1; obtain ⟨u, t, rfl, q2, q3⟩ := q1
     rw [rdL] at q3; subst q3
     exact q2
    | d :: d2 :: ds, vs', q1, hl =>
     simp only [outD]
     have : ¬ vs'.toArray.size = 1 := by simp at hl ⊢; omega
     rw [dif_neg this, rd]; exact ⟨_, rfl, q1⟩
   obtain ⟨v, e2, q2⟩ := fin
   rcases he with rfl | rfl
   · exact ⟨r.defers, v, e2, v, _, _, _, _, rfl, h6, r.ok, q2, r.evo⟩
   · exact ⟨r.defers, v, e2, v, _, _, _, _, rfl, h6, r.ok, q2, r.evo⟩
 · show rd hd h (only p w) ((args[t]?).getD .any) _
   obtain ⟨_, q⟩ := (Xa _ _).1 ha
   cases hd' : args[t]? with
   | none => show rd hd h (only p w) .any _; rw [rd]; trivial
   | some d =>
    show rd hd h (only p w) d _
    obtain ⟨u, h1, h2⟩ := q t d hd'
    have : (vs.toArray ++ Array.replicate (fn.ntmps - vs.toArray.size) undef).getD t undef = u := by
     rw [Ze, Array.getElem?_append_left (by simpa using (Z0.1 h1).1)]
     simp [h1]
    rw [this]
    exact h2
def firstN : Nat → List Nat → Bool
 | _, [] => true
 | j, a :: t => bif Z3 a j then firstN (j + 1) t else false
def idxR (R : List Nat) (k : Nat) : Nat := (R[k]?).getD 0
theorem Yi8 {R : List Nat} : ∀ k i, R[k]? = some i → idxR R k = i := fun k i q => by unfold idxR; rw [q]; rfl
def Shr (m : Nat) (h' : List Ob) (r : D) (h2 : List Ob) (r2 : D) : Prop := ∃ R, rnH R h' R = some h2 ∧ Jt R = true ∧ rnO R r = some r2 ∧ m ≤ R.length ∧ ∀ k, k < m → R[k]? = some k
theorem Post.shrink {w w' : World} {hd : List Value} {p : Nat → Bool} {K K' : List Ob → D → Prop} {v : Value} (o : Ok G w hd h p) (hG : ∀ g, low 0 (G g)) (q : Post G w hd h p K v w') (k : ∀ h' r, K h' r → ∃ h2 r2, Shr h.length h' r h2 r2 ∧ K' h2 r2) : Post G w hd h p K' v w' := by
 obtain ⟨hd', h', r, p', hk, o', qr, e⟩ := q
 obtain ⟨h2, r2, ⟨R, e1, e2, e3, e4, e5⟩, hk'⟩ := k _ _ hk
 obtain ⟨len2, L⟩ := lies_of_rn (π := idxR R) Yi8 e1 e2
 obtain ⟨f1, f2⟩ := Zr4 (π := idxR R) Yi8 _ _ e3
 have hid : ∀ i, i < h.length → idxR R i = i := fun i hi => Yi8 _ _ (e5 i hi)
 have at' : ∀ {i : Nat} {u : Value}, i < h.length → hd'[i]? = some u → (pull (idxR R) hd' h2.length)[i]? = some u := fun {i u} hi q => by
  rw [Zd1 o' L (by omega), hid i hi]; exact q
 refine ⟨_, h2, r2, p', hk', L.ok o' hG, rd_une (L.une o') o'.len (fun _ _ h => h) _ _ (by rw [len2]; exact f2) (by rw [f1]; exact qr),
  ⟨e.os, e.tape, e.output, e.size, e.keep, e.vis, e.seen, fun b hb ho => ?_, by omega, fun i B q => ?_, fun i B q => ?_, fun i q => ?_, fun i E k xs hu q => ?_⟩⟩
 · obtain ⟨i, _, ob, u, q1, q2, q3, q4⟩ := L.own o' ho
   exact e.own b hb ⟨_, ob, u, q1, q2, q3, q4⟩
 · exact at' (by rw [← o.len]; exact (Z0.1 q).1) (e.carry.ptr i B q)
 · exact at' (by rw [← o.len]; exact (Z0.1 q).1) (e.carry.mp i B q)
 · exact (L.une o').usd i (by have := q.lt; omega) (by rw [hid i q.lt]; exact e.carry.usd i q)
 · have h3 := L.at_ i _ q
   rw [hid i hu.lt] at h3
   obtain ⟨E0, ys, g1, g2, g3⟩ := e.carry.buf i E k (renR (idxR R) xs) hu h3
   rw [V1, Z4] at g2 g3
   refine ⟨E0, ys, g1, g2, fun he => ?_⟩
   rw [Zd1 o' L (by have := hu.lt; omega), hid i hu.lt]; exact g3 he
theorem Does.shrink {f : FuncId} {args : List D} {K K' : List Ob → D → Prop} (hG : ∀ g, low 0 (G g)) (q : Does P G f h args K) (k : ∀ h' r, K h' r → ∃ h2 r2, Shr h.length h' r h2 r2 ∧ K' h2 r2) : Does P G f h args K' := Uw.2 fun w hd p vs ok ha =>
 (Uw.1 q w hd p vs ok ha).mono fun _ _ ⟨v, e, q⟩ => ⟨v, e, q.shrink ok hG k⟩
/-! Equality of data, as far as it is easily seen. -/
def vq : Value → Value → Bool
 | .int a x, .int b y => decide (a = b) && decide (x = y)
 | .bool a, .bool b => decide (a = b)
 | .string a, .string b => decide (a.data.toList = b.data.toList)
 | .slice none 0 0, .slice none 0 0 => true
 | .pointer none, .pointer none => true
 | .map none, .map none => true
 | .nilFunc, .nilFunc => true
 | .nilIface, .nilIface => true
 | _, _ => false
theorem vq_spec (a b : Value) (q : vq a b = true) : a = b := by
 unfold vq at q
 split at q
 · simp only [Bool.and_eq_true, decide_eq_true_eq] at q; rw [q.1, q.2]
 · simp only [decide_eq_true_eq] at q; rw [q]
 · simp only [decide_eq_true_eq] at q; congr 1; exact ByteArray.ext (Array.ext' q)
 all_goals first | rfl | cases q
mutual
def dq : D → D → Bool
 | .any, .any => true
 | .v x, .v y => vq x y
 | .e0, .e0 => true
 | .sl k xs, .sl l ys => Z3 k l && dqR xs ys
 | .agg xs, .agg ys => dqL xs ys
 | .tup xs, .tup ys => dqL xs ys
 | .rp xs, .rp ys => dqL xs ys
 | .fn f xs, .fn g ys => Z3 f g && dqL xs ys
 | .ptr i o, .ptr j q => Z3 i j && Z3 o q
 | .buf i o, .buf j q => Z3 i j && Z3 o q
 | .bp i a b c, .bp j x y z => Z3 i j && (Z3 a x && (Z3 b y && Z3 c z))
 | .win i a b c, .win j x y z => Z3 i j && (Z3 a x && (Z3 b y && Z3 c z))
 | .arr i a b c d, .arr j x y z u => Z3 i j && (Z3 a x && (Z3 b y && (Z3 c z && Z3 d u)))
 | .mp i, .mp j => Z3 i j
 | _, _ => false
def dqL : List D → List D → Bool
 | [], [] => true
 | a :: s, b :: t => dq a b && dqL s t
 | _, _ => false
def dqR : List (List D) → List (List D) → Bool
 | [], [] => true
 | a :: s, b :: t => dqL a b && dqR s t
 | _, _ => false
end
mutual
theorem dq_spec : ∀ a b, dq a b = true → a = b
 | .any, b, q => by cases b <;> first | rfl | (simp [dq] at q)
 | .v x, b, q => by cases b <;> simp [dq] at q; rw [vq_spec _ _ q]
 | .e0, b, q => by cases b <;> first | rfl | (simp [dq] at q)
 | .sl k xs, b, q => by cases b <;> simp [dq] at q; rw [q.1, Yj7 _ _ q.2]
 | .agg xs, b, q => by cases b <;> simp [dq] at q; rw [Zb4 _ _ q]
 | .tup xs, b, q => by cases b <;> simp [dq] at q; rw [Zb4 _ _ q]
 | .rp xs, b, q => by cases b <;> simp [dq] at q; rw [Zb4 _ _ q]
 | .fn f xs, b, q => by cases b <;> simp [dq] at q; rw [q.1, Zb4 _ _ q.2]
 | .ptr i o, b, q => by cases b <;> simp [dq] at q; rw [q.1, q.2]
 | .buf i o, b, q => by cases b <;> simp [dq] at q; rw [q.1, q.2]
 | .bp i x y z, b, q => by cases b <;> simp [dq] at q; rw [q.1, q.2.1, q.2.2.1, q.2.2.2]
 | .win i x y z, b, q => by cases b <;> simp [dq] at q; rw [q.1, q.2.1, q.2.2.1, q.2.2.2]
 | .arr i x y z u, b, q => by cases b <;> simp [dq] at q; rw [q.1, q.2.1, q.2.2.1, q.2.2.2.1, q.2.2.2.2]
 | .mp i, b, q => by cases b <;> simp [dq] at q; rw [q]
theorem Zb4 : ∀ a b, dqL a b = true → a = b
 | [], b, q => by cases b <;> first | rfl | (simp [dqL] at q)
 | a :: s, b, q => by cases b <;> simp [dqL] at q; rw [dq_spec _ _ q.1, Zb4 _ _ q.2]
theorem Yj7 : ∀ a b, dqR a b = true → a = b
 | [], b, q => by cases b <;> first | rfl | (simp [dqR] at q)
 | a :: s, b, q => by cases b <;> simp [dqR] at q; rw [Zb4 _ _ q.1, Yj7 _ _ q.2]
end
def oq : Ob → Ob → Bool
 | .cells a, .cells b => dqL a b
 | .buf e k a, .buf f l b => Z3 e f && (Z3 k l && dqR a b)
 | .dead, .dead => true
 | .hole, .hole => true
 | _, _ => false
theorem oq_spec (a b : Ob) (q : oq a b = true) : a = b := by
 cases a <;> cases b <;> simp [oq] at q
 · rw [Zb4 _ _ q]
 · rw [q.1, q.2.1, Yj7 _ _ q.2.2]
 · rfl
 · rfl
def wrs (π : Nat → Nat) : Nat → List Ob → List Ob → List (Nat × Ob)
 | _, _, [] => []
 | j, [], o :: t => (π j, Va π o) :: wrs π (j + 1) [] t
 | j, a :: s, o :: t => bif oq a o then wrs π (j + 1) s t else (π j, Va π o) :: wrs π (j + 1) s t
theorem set_self' {h : List Ob} {i : Nat} {ob : Ob} (q : h[i]? = some ob) : h.set i ob = h := by
 apply List.ext_getElem?
 intro j
 by_cases hij : i = j
 · subst hij; rw [Z7 (Z0.1 q).1, q]
 · rw [Z5 hij]
theorem Zt4 {π : Nat → Nat} : ∀ (l' l h : List Ob) (j : Nat), (∀ a b, a < l'.length → b < l'.length → π (j + a) = π (j + b) → a = b) → (∀ i ob, l[i]? = some ob → h[π (j + i)]? = some (Va π ob)) → plc π h j (l'.map (Va π)) = Xc h (wrs π j l l')
 | [], l, h, j, _, _ => by cases l <;> rfl
 | o :: t, [], h, j, inj, _ => by
  rw [Za, plc, wrs, Xc]
  exact Zt4 t [] _ (j + 1) (fun a b ha hb he => by
   have := inj (a + 1) (b + 1) (by simp; omega) (by simp; omega) (by rw [show j + (a + 1) = j + 1 + a by omega, show j + (b + 1) = j + 1 + b by omega]; exact he)
   omega) (fun i ob q => by simp at q)
 | o :: t, a :: s, h, j, inj, q => by
  have inj' : ∀ a b, a < t.length → b < t.length → π (j + 1 + a) = π (j + 1 + b) → a = b := fun a b ha hb he => by
   have := inj (a + 1) (b + 1) (by simp; omega) (by simp; omega) (by rw [show j + (a + 1) = j + 1 + a by omega, show j + (b + 1) = j + 1 + b by omega]; exact he)
   omega
  have q0 : h[π j]? = some (Va π a) := by simpa using q 0 a rfl
  rw [Za, plc, wrs]
  cases hq : oq a o
  · simp only [cond_false]
    rw [Xc]
    by_cases hst : s.length ≤ t.length
    · refine Zt4 t s _ (j + 1) inj' fun i ob hi => ?_
      have hi' := (Z0.1 hi).1
      rw [Z5 (fun he => ?_)]
      · rw [show j + 1 + i = j + (i + 1) by omega]; exact q (i + 1) ob (by simpa using hi)
      · have := inj 0 (i + 1) (by simp) (by simp; omega) (by rw [Zg, he]; congr 1; omega)
        omega
    · have key : ∀ (t s : List Ob) (j : Nat), wrs π j s t = wrs π j (s.take t.length) t := by
       intro t
       induction t with
       | nil => intro s j; cases s <;> rfl
       | cons o t ih =>
        intro s j
        cases s with
        | nil => rfl
        | cons a s => simp only [List.length_cons, List.take_succ_cons, wrs]; rw [ih s (j + 1)]
      rw [key]
      refine Zt4 t _ _ (j + 1) inj' fun i ob hi => ?_
      rw [List.getElem?_take] at hi
      split at hi
      · rename_i hi'
        rw [Z5 (fun he => ?_)]
        · rw [show j + 1 + i = j + (i + 1) by omega]; exact q (i + 1) ob (by simpa using hi)
        · have := inj 0 (i + 1) (by simp) (by simp; omega) (by rw [Zg, he]; congr 1; omega)
          omega
      · cases hi
  · simp only [cond_true]
    have := oq_spec _ _ hq
    subst this
    rw [set_self' q0]
    exact Zt4 t s h (j + 1) inj' fun i ob hi => by rw [show j + 1 + i = j + (i + 1) by omega]; exact q (i + 1) ob (by simpa using hi)
end
section
theorem Ja (m : Nat) (l : List UInt8) : low m (.sl 1 (byD l)) := by
 rw [low, Zs7]
 intro row hr
 obtain ⟨b, _, rfl⟩ := List.mem_map.1 hr
 simp [lowL, low]
theorem lowH_set {m : Nat} {h : List Ob} {i : Nat} {ob : Ob} (q : lowH m h) (r : Zx1 m ob) : lowH m (h.set i ob) := fun x hx => by
 rcases List.mem_or_eq_of_mem_set hx with h | rfl
 · exact q x h
 · exact r
theorem Wc {h : List Ob} {i : Nat} {ob : Ob} (hi : h[i]? = some ob) : h.set i ob = h := by
 apply List.ext_getElem?
 intro j
 by_cases hij : i = j
 · subst hij; rw [Z7 (Z0.1 hi).1, hi]
 · rw [Z5 hij]
theorem byD_app (a b : List UInt8) : byD a ++ byD b = byD (a ++ b) := by simp [byD]
section
variable {P : Program} {G : Nat → D} {n : Nat} {e : Nat → D} {h : List Ob}
theorem Sit.via {B : Base} {a : Act} {w : World} {hd hd' : List Value} {p p' : Nat → Bool} {h' : List Ob} (r : Sat G B ⟨n, e, h⟩ a w hd p) (o : Ok G w hd' h' p') (ev : Evo w hd h p w hd' h' p') : Sit G B ⟨n, e, h'⟩ a w :=
 ⟨hd', p', o, r.evo.trans ev, fun t => ev.rd r.ok (r.tmp t), r.size, r.defers⟩
theorem rd_nilbuf {hd : List Value} {W : World} {j E k : Nat} {u : Value} (hj : h[j]? = some (.buf E k [])) (hu : hd[j]? = some (.slice none 0 0)) (q : rd hd h W (.v (.slice none 0 0)) u) : rd hd h W (.buf j 0) u := by
 rw [rd] at q
 subst q
 rw [rd]
 exact ⟨⟨_, _, rfl⟩, .of hj rfl, fun e k xs hx => by rw [hj] at hx; cases hx; exact ⟨Zc _, fun _ => hu⟩⟩
theorem Zz8 {B : Base} {a : Act} {w : World} (E k : Nat) {i : Nat} {xs bs : List D} (hi : h[i]? = some (.cells (xs ++ .v (.slice none 0 0) :: bs))) (r : Sit G B ⟨n, e, h⟩ a w) : Sit G B ⟨n, e, (h.set i (.cells (xs ++ .buf h.length 0 :: bs))) ++ [.buf E k []]⟩ a w := by
 have hil := (Z0.1 hi).1
 obtain ⟨hd, p, r⟩ := r
 obtain ⟨o, ev⟩ := Ok.grow (ob := .buf E k []) (u := .slice none 0 0) (w' := w) r.ok rfl rfl rfl (Zc _) (fun _ _ => rfl) (fun b hb => by cases hb) (fun c s => ⟨[], World.ownsRow_nil _ _ _ _, by simp [rdL], fun row h => by simp at h, fun g h => by cases h⟩)
 have r1 : Sat G B ⟨n, e, h ++ [.buf E k []]⟩ a w (hd ++ [.slice none 0 0]) _ := ⟨o, r.evo.trans ev, fun t => ev.rd r.ok (r.tmp t), r.size, r.defers⟩
 have hl : i < hd.length := by rw [r.ok.len]; exact hil
 obtain ⟨u, hu⟩ : ∃ u, hd[i]? = some u := ⟨_, Z1 hl⟩
 have hi2 : (h ++ [Ob.buf E k []])[i]? = some (.cells (xs ++ .v (.slice none 0 0) :: bs)) := by rw [Z2 hil, hi]
 have hu2 : (hd ++ [Value.slice none 0 0])[i]? = some u := by rw [Z2 hl, hu]
 obtain ⟨BB, cs, t, e1, e2, e3, e4⟩ := o.ob i _ u hi2 hu2
 have e5 : rdL (hd ++ [Value.slice none 0 0]) (h ++ [.buf E k []]) (only (fun b => p b && b != w.heap.size) w) (xs ++ .buf h.length 0 :: bs) cs.toList := by
  rw [Xa] at e3 ⊢
  refine ⟨by simpa using e3.1, fun j d hj => ?_⟩
  by_cases hjl : j = xs.length
  · subst hjl
    simp at hj; subst hj
    obtain ⟨u', h1, h2⟩ := e3.2 xs.length (.v (.slice none 0 0)) (by simp)
    exact ⟨u', h1, rd_nilbuf (k := k) (E := E) (by simp) (by rw [← r.ok.len]; simp) h2⟩
  · refine e3.2 j d ?_
    rw [List.getElem?_append] at hj ⊢
    split at hj
    · rename_i hlt; rw [if_pos hlt]; exact hj
    · rename_i hge
      rw [if_neg hge]
      obtain ⟨m, hm⟩ : ∃ m, j - xs.length = m + 1 := ⟨j - xs.length - 1, by omega⟩
      rw [hm] at hj ⊢
      simpa using hj
 obtain ⟨o2, ev2⟩ := Ok.repl (ob' := .cells (xs ++ .buf h.length 0 :: bs)) (u' := u) (w' := w) o hi2 hu2 rfl rfl rfl rfl (Zc _) (fun _ _ _ => rfl) (fun b hb => .inl hb) (fun _ _ => rfl) (fun _ _ _ h => by cases h) (fun c s => by
  refine ⟨BB, cs, t, e1, e2, W3 c s _ _ e5, by simp [e4]⟩)
 have := Sit.via r1 o2 ev2
 rwa [List.set_append_left _ _ hil] at this
theorem Vt {c : Code} {Q : Exit → S → Prop} (E k i : Nat) (xs bs : List D) (hi : h[i]? = some (.cells (xs ++ .v (.slice none 0 0) :: bs))) (q : aw P G c Q ⟨n, e, (h.set i (.cells (xs ++ .buf h.length 0 :: bs))) ++ [.buf E k []]⟩) : aw P G c Q ⟨n, e, h⟩ := fun B a w r => q B a w (Zz8 E k hi r)
theorem ao_nilcell {ops : Array Oper} {l : List Oper} {Q : S → Prop} (E k i : Nat) (xs bs : List D) (hi : h[i]? = some (.cells (xs ++ .v (.slice none 0 0) :: bs))) (q : ao P G ops l Q ⟨n, e, (h.set i (.cells (xs ++ .buf h.length 0 :: bs))) ++ [.buf E k []]⟩) : ao P G ops l Q ⟨n, e, h⟩ := fun B a w r R hR => q B a w (Zz8 E k hi r) R hR
end
end
end Go.Proofs.YtmdjnaobllajmaaGreatDoor
