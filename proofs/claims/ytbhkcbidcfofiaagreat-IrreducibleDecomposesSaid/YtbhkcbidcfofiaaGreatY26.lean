/-
  What the statements of the chapter share, part 26: JT2, JT3, JT4, LR1, JT5.
-/
import Derived.Test.YtbhkcbidcfofiaaGreatY17
import Derived.Test.YtbhkcbidcfofiaaGreatY25
set_option linter.unusedVariables false
set_option linter.unusedSimpArgs false
set_option maxRecDepth 100000
set_option maxHeartbeats 8000000
namespace Go.Proofs.YtbhkcbidcfofiaaGreat
open _root_.Bool renaming and_eq_true → Z0, not_eq_true' → Z6, false_or → Zd
open _root_.List renaming pairwise_cons → Z1, mem_cons → Z2, map_cons → Z3, all_eq_true → Z4, filterMap_cons → Z5, mem_filter → Z7, of_mem_zip → Z9, length_map → Za
open _root_.Nat renaming le_refl → Zb
open _root_.Prod renaming fst → Z8, snd → Zc
open Go.RowKit
section
structure Jl {α : Type} (E : α → Prop) (le : α → α → Bool) (jn : α → α → α) (bot : α) : Prop where
 refl : ∀ a, E a → le a a = true
 trans : ∀ a b c, E a → E b → E c → le a b = true → le b c = true → le a c = true
 anti : ∀ a b, E a → E b → le a b = true → le b a = true → a = b
 mem : ∀ a b, E a → E b → E (jn a b)
 left : ∀ a b, E a → E b → le a (jn a b) = true
 right : ∀ a b, E a → E b → le b (jn a b) = true
 lub : ∀ a b c, E a → E b → E c → le a c = true → le b c = true → le (jn a b) c = true
 bmem : E bot
 bot : ∀ a, E a → le bot a = true
section
variable {α : Type} {E : α → Prop} {le : α → α → Bool} {jn : α → α → α} {bot : α}
theorem Jl.of_le (J : Jl E le jn bot) {a b : α} (ha : E a) (hb : E b) (h : le a b = true) : jn a b = b :=
 J.anti _ _ (J.mem a b ha hb) hb (J.lub a b b ha hb hb h (J.refl b hb)) (J.right a b ha hb)
theorem Jl.comm (J : Jl E le jn bot) {a b : α} (ha : E a) (hb : E b) : jn a b = jn b a :=
 J.anti _ _ (J.mem a b ha hb) (J.mem b a hb ha) (J.lub a b _ ha hb (J.mem b a hb ha) (J.right b a hb ha) (J.left b a hb ha)) (J.lub b a _ hb ha (J.mem a b ha hb) (J.right a b ha hb) (J.left a b ha hb))
theorem Jl.of_ge (J : Jl E le jn bot) {a b : α} (ha : E a) (hb : E b) (h : le b a = true) : jn a b = a := (J.comm ha hb).trans (J.of_le hb ha h)
theorem Jl.bot_left (J : Jl E le jn bot) {a : α} (ha : E a) : jn bot a = a := J.of_le J.bmem ha (J.bot a ha)
theorem Jl.is_bot (J : Jl E le jn bot) {a : α} (ha : E a) : le a bot = true ↔ a = bot :=
 ⟨fun h => J.anti _ _ ha J.bmem h (J.bot a ha), fun h => by rw [h]; exact J.refl _ J.bmem⟩
theorem Jl.join_bot (J : Jl E le jn bot) {a b : α} (ha : E a) (hb : E b) (h : jn a b = bot) : a = bot := (J.is_bot ha).1 (by rw [← h]; exact J.left a b ha hb)
theorem jl_total (hr : ∀ a, E a → le a a = true) (ht : ∀ a b c, E a → E b → E c → le a b = true → le b c = true → le a c = true) (ha : ∀ a b, E a → E b → le a b = true → le b a = true → a = b)
  (tot : ∀ a b, E a → E b → le a b = true ∨ le b a = true) (hj : ∀ a b, E a → E b → jn a b = if le a b = true then b else a) (hbm : E bot) (hb : ∀ a, E a → le bot a = true) : Jl E le jn bot where
 refl := hr
 trans := ht
 anti := ha
 mem a b h1 h2 := by rw [hj a b h1 h2]; split <;> assumption
 left a b h1 h2 := by
  rw [hj a b h1 h2]; split
  · assumption
  · exact hr a h1
 right a b h1 h2 := by
  rw [hj a b h1 h2]; split
  · exact hr b h2
  · rename_i h; exact (tot a b h1 h2).resolve_left h
 lub a b c h1 h2 _ h3 h4 := by rw [hj a b h1 h2]; split <;> assumption
 bmem := hbm
 bot := hb
theorem Jl.map {β : Type} {F : β → Prop} {le' : β → β → Bool} {jn' : β → β → β} {bot' : β} (J : Jl F le' jn' bot') (π : α → β) (ι : β → α) (h1 : ∀ a, E a ↔ F (π a) ∧ ι (π a) = a) (h2 : ∀ x, F x → π (ι x) = x)
  (h3 : ∀ a b, E a → E b → le a b = le' (π a) (π b)) (h4 : ∀ a b, E a → E b → jn a b = ι (jn' (π a) (π b))) (h5 : bot = ι bot') : Jl E le jn bot := by
 have hF : ∀ {a}, E a → F (π a) := fun h => ((h1 _).1 h).1
 have hE : ∀ {x}, F x → E (ι x) := fun {x} h => (h1 _).2 ⟨by rw [h2 x h]; exact h, by rw [h2 x h]⟩
 have hb : E bot := by rw [h5]; exact hE J.bmem
 have hpb : π bot = bot' := by rw [h5]; exact h2 _ J.bmem
 have hm : ∀ a b, E a → E b → E (jn a b) := fun a b ha hb => by rw [h4 a b ha hb]; exact hE (J.mem _ _ (hF ha) (hF hb))
 have hpj : ∀ a b, E a → E b → π (jn a b) = jn' (π a) (π b) := fun a b ha hb => by rw [h4 a b ha hb]; exact h2 _ (J.mem _ _ (hF ha) (hF hb))
 exact {
  refl := fun a ha => by rw [h3 a a ha ha]; exact J.refl _ (hF ha)
  trans := fun a b c ha hb hc x y => by rw [h3 a b ha hb] at x; rw [h3 b c hb hc] at y; rw [h3 a c ha hc]; exact J.trans _ _ _ (hF ha) (hF hb) (hF hc) x y
  anti := fun a b ha hb x y => by
   rw [h3 a b ha hb] at x; rw [h3 b a hb ha] at y
   have := J.anti _ _ (hF ha) (hF hb) x y
   rw [← ((h1 a).1 ha).2, ← ((h1 b).1 hb).2, this]
  mem := hm
  left := fun a b ha hb => by rw [h3 a _ ha (hm a b ha hb), hpj a b ha hb]; exact J.left _ _ (hF ha) (hF hb)
  right := fun a b ha hb => by rw [h3 b _ hb (hm a b ha hb), hpj a b ha hb]; exact J.right _ _ (hF ha) (hF hb)
  lub := fun a b c ha hb hc x y => by rw [h3 a c ha hc] at x; rw [h3 b c hb hc] at y; rw [h3 _ c (hm a b ha hb) hc, hpj a b ha hb]; exact J.lub _ _ _ (hF ha) (hF hb) (hF hc) x y
  bmem := hb
  bot := fun a ha => by rw [h3 _ a hb ha, hpb]; exact J.bot _ (hF ha) }
end
instance : DecidableEq Val := fun a b => decidable_of_iff (valC a b = 0) (Yo a b)
/-! Maps. -/
def getL : List ByteArray → List Val → ByteArray → Option Val
 | n :: ns, p :: ps, s => if n = s then some p else getL ns ps s
 | [], _, _ => none
 | _ :: _, [], _ => none
def getM (v : Val) (s : ByteArray) : Option Val := getL v.names v.parts s
theorem Zq7 : ∀ {ns : List ByteArray} {ps : List Val} {s : ByteArray} {v : Val}, getL ns ps s = some v → (s, v) ∈ ns.zip ps
 | n :: ns, p :: ps, s, v, h => by
  rw [getL] at h
  split at h
  · rename_i e; cases h; subst e; simp
  · simp [Zq7 h]
 | [], _, _, _, h => by simp [getL] at h
 | _ :: _, [], _, _, h => by simp [getL] at h
theorem Jd : ∀ {ns : List ByteArray} {ps : List Val} {s : ByteArray} {v : Val}, ns.Pairwise ltS → (s, v) ∈ ns.zip ps → getL ns ps s = some v
 | n :: ns, p :: ps, s, v, hs, h => by
  rw [List.zip_cons_cons, Z2] at h
  rw [getL]
  obtain ⟨h1, h2⟩ := Z1.1 hs
  rcases h with h | h
  · cases h; rw [if_pos rfl]
  · rw [if_neg (fun e => by subst e; exact Vj _ (h1 _ (Z9 h).1))]
    exact Jd h2 h
 | [], _, _, _, _, h => by simp at h
 | _ :: _, [], _, _, _, h => by simp at h
theorem Zh1 : ∀ {ns : List ByteArray} {ps : List Val} {s : ByteArray}, ns.length = ps.length → (getL ns ps s = none ↔ s ∉ ns)
 | n :: ns, p :: ps, s, h => by
  rw [getL]
  split
  · rename_i e; subst e; simp
  · rename_i e
    rw [Zh1 (by simpa using h), Z2]
    exact ⟨fun h1 h2 => h2.elim (fun h => e h.symm) h1, fun h1 h2 => h1 (.inr h2)⟩
 | [], _, _, _ => by simp [getL]
 | _ :: _, [], _, h => by simp at h
theorem Za8 {ns : List ByteArray} {ps : List Val} {s : ByteArray} (h : ns.length = ps.length) : (∃ v, getL ns ps s = some v) ↔ s ∈ ns := by
 have := Zh1 (s := s) h
 cases hg : getL ns ps s with
 | none => exact ⟨fun ⟨_, h⟩ => (by cases h), fun h => absurd h (this.1 hg)⟩
 | some v => exact ⟨fun _ => Classical.byContradiction fun hn => (by have := this.2 hn; rw [hg] at this; cases this), fun _ => ⟨v, rfl⟩⟩
theorem getL_map (f : ByteArray → Val) : ∀ (ns : List ByteArray) (s : ByteArray), getL ns (ns.map f) s = if hasS ns s = true then some (f s) else none
 | [], s => rfl
 | n :: t, s => by
  rw [Z3, getL, getL_map f t s]
  rw [hasS]
  by_cases h : n = s
  · rw [if_pos h, decide_eq_true h, h]; rfl
  · rw [if_neg h, decide_eq_false h, Zd]
theorem getL_ext : ∀ {ns ns' : List ByteArray} {ps ps' : List Val}, ns.Pairwise ltS → ns'.Pairwise ltS → ns.length = ps.length → ns'.length = ps'.length → (∀ s, getL ns ps s = getL ns' ps' s) → ns = ns' ∧ ps = ps' := by
 intro ns ns' ps ps' h1 h2 h3 h4 h
 have hn : ns = ns' := Zb7 h1 h2 fun c => by rw [← Za8 h3, ← Za8 h4]; simp only [h]
 subst hn
 refine ⟨rfl, ?_⟩
 refine List.ext_getElem (by omega) fun i hi hi' => ?_
 have e1 : getL ns ps (ns[i]'(by omega)) = some ps[i] := Jd h1 (by rw [List.mem_iff_getElem]; exact ⟨i, by rw [List.length_zip]; omega, by rw [List.getElem_zip]⟩)
 have e2 : getL ns ps' (ns[i]'(by omega)) = some ps'[i] := Jd h1 (by rw [List.mem_iff_getElem]; exact ⟨i, by rw [List.length_zip]; omega, by rw [List.getElem_zip]⟩)
 rw [h, e2] at e1
 exact (Option.some.inj e1).symm
def MapE (only : List ByteArray) (E : Val → Prop) (bot : Val) (v : Val) : Prop := (v.n = 0 ∧ v.entries = []) ∧ v.names.length = v.parts.length ∧ Yi only v.names = true ∧ ∀ p ∈ v.parts, E p ∧ p ≠ bot
def Zn0 (le : Val → Val → Bool) (a b : Val) : Bool := (a.names.zip a.parts).all fun x => match getM b x.1 with
 | some w => le x.2 w
 | none => false
def cmbM (jn : Val → Val → Val) : Option Val → Option Val → Option Val
 | some v, some w => some (jn v w)
 | some v, none => some v
 | none, o => o
def Zc7 (jn : Val → Val → Val) (a b : Val) : Val := .mk 0 (Uo a.names b.names) ((Uo a.names b.names).map fun s => (cmbM jn (getM a s) (getM b s)).getD Uy) []
theorem Xl {le : Val → Val → Bool} {a b : Val} (h : a.names.Pairwise ltS) : Zn0 le a b = true ↔ ∀ s v, getM a s = some v → ∃ w, getM b s = some w ∧ le v w = true := by
 unfold Zn0
 rw [Z4]
 constructor
 · intro h1 s v hv
   have := h1 _ (Zq7 hv)
   revert this
   cases getM b s with
   | none => intro h; cases h
   | some w => intro h; exact ⟨w, rfl, h⟩
 · rintro h1 ⟨s, v⟩ hx
   obtain ⟨w, hw, hl⟩ := h1 s v (Jd h hx)
   rw [hw]; exact hl
theorem MapE.get {only : List ByteArray} {E : Val → Prop} {bot v : Val} (h : MapE only E bot v) {s : ByteArray} {w : Val} (hw : getM v s = some w) : E w ∧ w ≠ bot := h.2.2.2 w (Z9 (Zq7 hw)).2
theorem MapE.sorted {only : List ByteArray} {E : Val → Prop} {bot v : Val} (h : MapE only E bot v) : v.names.Pairwise ltS := (Xb.1 h.2.2.1).1
theorem MapE.ext {only : List ByteArray} {E : Val → Prop} {bot v w : Val} (h : MapE only E bot v) (h' : MapE only E bot w) (he : ∀ s, getM v s = getM w s) : v = w := by
 obtain ⟨h1, h2⟩ := getL_ext h.sorted h'.sorted h.2.1 h'.2.1 he
 obtain ⟨n, ns, ps, es⟩ := v
 obtain ⟨n', ns', ps', es'⟩ := w
 have e1 : n = 0 := h.1.1
 have e2 : n' = 0 := h'.1.1
 have e3 : es = [] := h.1.2
 have e4 : es' = [] := h'.1.2
 have e5 : ns = ns' := h1
 have e6 : ps = ps' := h2
 rw [e1, e2, e3, e4, e5, e6]
theorem Zh0 {only : List ByteArray} {E : Val → Prop} {bot a b : Val} (jn : Val → Val → Val) (ha : MapE only E bot a) (hb : MapE only E bot b) (s : ByteArray) : getM (Zc7 jn a b) s = cmbM jn (getM a s) (getM b s) := by
 have e : getM (Zc7 jn a b) s = getL (Uo a.names b.names) ((Uo a.names b.names).map fun s => (cmbM jn (getM a s) (getM b s)).getD Uy) s := rfl
 rw [e, getL_map]
 have h1 := Za8 (s := s) ha.2.1
 have h2 := Za8 (s := s) hb.2.1
 by_cases h : s ∈ Uo a.names b.names
 · rw [if_pos ((Xs _ _).2 h)]
   cases hga : getM a s with
   | some v => cases hgb : getM b s <;> rfl
   | none =>
    cases hgb : getM b s with
    | some w => rfl
    | none =>
     rcases Wj.1 h with h | h
     · obtain ⟨v, hv⟩ := h1.2 h; rw [show getM a s = some v from hv] at hga; cases hga
     · obtain ⟨v, hv⟩ := h2.2 h; rw [show getM b s = some v from hv] at hgb; cases hgb
 · rw [if_neg (fun q => h ((Xs _ _).1 q))]
   have n1 : getM a s = none := (Zh1 ha.2.1).2 fun q => h (Wj.2 (.inl q))
   have n2 : getM b s = none := (Zh1 hb.2.1).2 fun q => h (Wj.2 (.inr q))
   rw [n1, n2]; rfl
theorem jl_maps {only : List ByteArray} {E : Val → Prop} {le : Val → Val → Bool} {jn : Val → Val → Val} {bot : Val} (J : Jl E le jn bot) : Jl (MapE only E bot) (Zn0 le) (Zc7 jn) Uy := by
 have hmem : ∀ a b, MapE only E bot a → MapE only E bot b → MapE only E bot (Zc7 jn a b) := fun a b ha hb => by
  refine ⟨⟨rfl, rfl⟩, ?_, Zr7 ha.2.2.1 hb.2.2.1, fun p hp => ?_⟩
  · show (Uo a.names b.names).length = (List.map _ _).length
    rw [Za]
  · obtain ⟨s, hs, rfl⟩ := List.mem_map.1 hp
    cases hga : getM a s with
    | some v =>
     obtain ⟨v1, v2⟩ := ha.get hga
     cases hgb : getM b s with
     | some w =>
      obtain ⟨w1, w2⟩ := hb.get hgb
      exact ⟨J.mem v w v1 w1, fun h => v2 (J.join_bot v1 w1 h)⟩
     | none => exact ⟨v1, v2⟩
    | none =>
     cases hgb : getM b s with
     | some w => exact hb.get hgb
     | none =>
      exfalso
      rcases Wj.1 hs with h | h
      · obtain ⟨v, hv⟩ := (Za8 ha.2.1).2 h; rw [show getM a s = some v from hv] at hga; cases hga
      · obtain ⟨v, hv⟩ := (Za8 hb.2.1).2 h; rw [show getM b s = some v from hv] at hgb; cases hgb
 exact {
  refl := fun a ha => (Xl ha.sorted).2 fun s v hv => ⟨v, hv, J.refl v (ha.get hv).1⟩
  trans := fun a b c ha hb hc x y => (Xl ha.sorted).2 fun s v hv => by
   obtain ⟨w, hw, h1⟩ := (Xl ha.sorted).1 x s v hv
   obtain ⟨u, hu, h2⟩ := (Xl hb.sorted).1 y s w hw
   exact ⟨u, hu, J.trans _ _ _ (ha.get hv).1 (hb.get hw).1 (hc.get hu).1 h1 h2⟩
  anti := fun a b ha hb x y => ha.ext hb fun s => by
   rw [Xl ha.sorted] at x
   rw [Xl hb.sorted] at y
   cases hv : getM a s with
   | some v =>
    obtain ⟨w, hw, h1⟩ := x s v hv
    obtain ⟨u, hu, h2⟩ := y s w hw
    rw [hv] at hu; cases hu
    rw [hw, J.anti v w (ha.get hv).1 (hb.get hw).1 h1 h2]
   | none =>
    cases hw : getM b s with
    | none => rfl
    | some w =>
     obtain ⟨u, hu, _⟩ := y s w hw
     rw [hv] at hu; cases hu
  mem := hmem
  left := fun a b ha hb => (Xl ha.sorted).2 fun s v hv => by
   rw [Zh0 jn ha hb, hv]
   cases hw : getM b s with
   | none => exact ⟨v, rfl, J.refl v (ha.get hv).1⟩
   | some w => exact ⟨_, rfl, J.left v w (ha.get hv).1 (hb.get hw).1⟩
  right := fun a b ha hb => (Xl hb.sorted).2 fun s w hw => by
   rw [Zh0 jn ha hb, hw]
   cases hv : getM a s with
   | none => exact ⟨w, rfl, J.refl w (hb.get hw).1⟩
   | some v => exact ⟨_, rfl, J.right v w (ha.get hv).1 (hb.get hw).1⟩
  lub := fun a b c ha hb hc x y => (Xl (show (Zc7 jn a b).names.Pairwise ltS from Zv0 _ _)).2 fun s u hu => by
   rw [Zh0 jn ha hb] at hu
   rw [Xl ha.sorted] at x
   rw [Xl hb.sorted] at y
   cases hv : getM a s with
   | none =>
    rw [hv] at hu
    exact y s u hu
   | some v =>
    rw [hv] at hu
    cases hw : getM b s with
    | none => rw [hw] at hu; rw [← show v = u from Option.some.inj hu]; exact x s v hv
    | some w =>
     rw [hw] at hu; cases hu
     obtain ⟨p, hp, h1⟩ := x s v hv
     obtain ⟨q, hq, h2⟩ := y s w hw
     rw [hp] at hq; cases hq
     exact ⟨p, hp, J.lub v w p (ha.get hv).1 (hb.get hw).1 (hc.get hp).1 h1 h2⟩
  bmem := ⟨⟨rfl, rfl⟩, rfl, rfl, fun p hp => by cases hp⟩
  bot := fun a ha => rfl }
/-! Pairs with the first part first. -/
theorem jl_lex {E F : Val → Prop} {le le' : Val → Val → Bool} {jn jn' : Val → Val → Val} {b0 b1 : Val} (J : Jl E le jn b0) (J' : Jl F le' jn' b1) (tot : ∀ a b, E a → E b → le a b = true ∨ le b a = true)
  {lx : Val × Val → Val × Val → Bool} (hlx : ∀ x y, E x.1 → E y.1 → lx x y = if x.1 = y.1 then le' x.2 y.2 else le x.1 y.1) {jx : Val × Val → Val × Val → Val × Val} (hjx : ∀ x y, E x.1 → E y.1 → jx x y = if x.1 = y.1 then (x.1, jn' x.2 y.2) else if lx x y = true then y else x) :
  Jl (fun x : Val × Val => E x.1 ∧ F x.2) lx jx (b0, b1) := by
 have hmem : ∀ x y : Val × Val, E x.1 ∧ F x.2 → E y.1 ∧ F y.2 → E (jx x y).1 ∧ F (jx x y).2 := fun x y hx hy => by
  rw [hjx x y hx.1 hy.1]
  split
  · exact ⟨hx.1, J'.mem _ _ hx.2 hy.2⟩
  · split
    · exact hy
    · exact hx
 have hrefl : ∀ x : Val × Val, E x.1 ∧ F x.2 → lx x x = true := fun x hx => by rw [hlx x x hx.1 hx.1, if_pos rfl]; exact J'.refl _ hx.2
 exact {
  refl := hrefl
  trans := fun x y z hx hy hz h1 h2 => by
   rw [hlx x y hx.1 hy.1] at h1
   rw [hlx y z hy.1 hz.1] at h2
   rw [hlx x z hx.1 hz.1]
   by_cases e1 : x.1 = y.1
   · rw [if_pos e1] at h1
     by_cases e2 : y.1 = z.1
     · rw [if_pos e2] at h2
       rw [if_pos (e1.trans e2)]
       exact J'.trans _ _ _ hx.2 hy.2 hz.2 h1 h2
     · rw [if_neg e2] at h2
       rw [if_neg (by rw [e1]; exact e2), e1]
       exact h2
   · rw [if_neg e1] at h1
     by_cases e2 : y.1 = z.1
     · rw [if_neg (by rw [← e2]; exact e1), ← e2]
       exact h1
     · rw [if_neg e2] at h2
       rw [if_neg (fun e => e1 (J.anti _ _ hx.1 hy.1 h1 (by rw [e]; exact h2)))]
       exact J.trans _ _ _ hx.1 hy.1 hz.1 h1 h2
  anti := fun x y hx hy h1 h2 => by
   rw [hlx x y hx.1 hy.1] at h1
   rw [hlx y x hy.1 hx.1] at h2
   by_cases e1 : x.1 = y.1
   · rw [if_pos e1] at h1
     rw [if_pos e1.symm] at h2
     exact Prod.ext e1 (J'.anti _ _ hx.2 hy.2 h1 h2)
   · rw [if_neg e1] at h1
     rw [if_neg (fun e => e1 e.symm)] at h2
     exact absurd (J.anti _ _ hx.1 hy.1 h1 h2) e1
  mem := hmem
  left := fun x y hx hy => by
   rw [hlx x _ hx.1 (hmem x y hx hy).1, hjx x y hx.1 hy.1]
   by_cases e1 : x.1 = y.1
   · rw [if_pos e1, if_pos rfl]; exact J'.left _ _ hx.2 hy.2
   · rw [if_neg e1]
     by_cases h : lx x y = true
     · rw [if_pos h, ← hlx x y hx.1 hy.1]; exact h
     · rw [if_neg h, if_pos rfl]; exact J'.refl _ hx.2
  right := fun x y hx hy => by
   rw [hlx y _ hy.1 (hmem x y hx hy).1, hjx x y hx.1 hy.1]
   by_cases e1 : x.1 = y.1
   · rw [if_pos e1, if_pos e1.symm]; exact J'.right _ _ hx.2 hy.2
   · rw [if_neg e1]
     by_cases h : lx x y = true
     · rw [if_pos h, if_pos rfl]; exact J'.refl _ hy.2
     · rw [if_neg h, if_neg (fun e => e1 e.symm)]
       rw [hlx x y hx.1 hy.1, if_neg e1] at h
       exact (tot _ _ hx.1 hy.1).resolve_left h
  lub := fun x y z hx hy hz h1 h2 => by
   rw [hjx x y hx.1 hy.1]
   by_cases e1 : x.1 = y.1
   · rw [if_pos e1]
     rw [hlx x z hx.1 hz.1] at h1
     rw [hlx y z hy.1 hz.1] at h2
     rw [hlx (x.1, jn' x.2 y.2) z hx.1 hz.1]
     by_cases e2 : x.1 = z.1
     · rw [if_pos e2] at h1 ⊢
       rw [if_pos (e1.symm.trans e2)] at h2
       exact J'.lub _ _ _ hx.2 hy.2 hz.2 h1 h2
     · rw [if_neg e2] at h1 ⊢
       exact h1
   · rw [if_neg e1]; split <;> assumption
  bmem := ⟨J.bmem, J'.bmem⟩
  bot := fun x hx => by
   rw [hlx _ x J.bmem hx.1]
   split
   · exact J'.bot _ hx.2
   · exact J.bot _ hx.1 }
end
section
theorem leqT_iff {a b : List Tk} : leqT a b = true ↔ ∀ p : Nat, p < 64 → Zm1 a p ≤ Zm1 b p := by
 unfold leqT
 rw [Z4]
 exact ⟨fun h p hp => of_decide_eq_true (h p (List.mem_range.2 hp)), fun h p hp => decide_eq_true (h p (List.mem_range.1 hp))⟩
theorem Yj5 {a b c : List Tk} (h : leqT a b = true) (k : leqT b c = true) : leqT a c = true := by
 rw [leqT_iff] at *
 exact fun p hp => Int.le_trans (h p hp) (k p hp)
theorem below_iff {a b : List Tk} : V6 a b = true ↔ Xm a = true ∧ Xm b = true ∧ leqT a b = true ∧ leqT b a = false := by
 unfold V6
 simp only [Z0, Z6]
theorem Zn9 {a b c : List Tk} (h : V6 a b = true) (k : V6 b c = true) : V6 a c = true := by
 rw [below_iff] at *
 refine ⟨h.1, k.2.1, Yj5 h.2.2.1 k.2.2.1, ?_⟩
 cases hca : leqT c a
 · rfl
 · have := Yj5 hca h.2.2.1
   rw [k.2.2.2] at this; cases this
def belE (p q : En) : Bool := V6 p.clock q.clock
def undE (p q : En) : Bool := decide (entC p q = 0) || belE p q
theorem Uz {p q : En} : undE p q = true ↔ p = q ∨ belE p q = true := by unfold undE; rw [Bool.or_eq_true, decide_eq_true_eq, Za9]
theorem Yh5 {p q r : En} (h : undE p q = true) (k : undE q r = true) : undE p r = true := by
 rw [Uz] at *
 rcases h with rfl | h
 · exact k
 · rcases k with rfl | k
   · exact .inr h
   · exact .inr (Zn9 h k)
def leqE (a b : List En) : Bool := a.all fun p => b.any fun q => undE p q
theorem W3 {a b : List En} : leqE a b = true ↔ ∀ p ∈ a, ∃ q ∈ b, undE p q = true := by
 unfold leqE
 rw [Z4]
 exact forall_congr' fun p => forall_congr' fun _ => List.any_eq_true
/-! Sorted lists of entries. -/
def ltE (x y : En) : Prop := entC x y < 0
instance : DecidableRel ltE := fun x y => inferInstanceAs (Decidable (entC x y < 0))
theorem Yc7 {x y z : En} (h : ltE x y) (k : ltE y z) : ltE x z := by
 have := entC_tri x y z
 unfold Tri at this
 unfold ltE at *
 omega
theorem Za6 (x : En) : ¬ ltE x x := by unfold ltE; rw [(Za9 x x).2 rfl]; omega
theorem ltE_tri (x y : En) : ltE x y ∨ x = y ∨ ltE y x := by
 unfold ltE
 rw [entC_anti x y, ← Za9 x y]
 omega
def insE (c : En) : List En → List En
 | [] => [c]
 | y :: t => if entC c y < 0 then c :: y :: t else if entC c y = 0 then y :: t else y :: insE c t
def ofE (l : List En) : List En := l.foldr insE []
theorem Yp1 : ∀ {c : En} {l : List En} {d : En}, d ∈ insE c l ↔ d = c ∨ d ∈ l
 | c, [], d => by simp [insE]
 | c, y :: t, d => by
  rw [insE]
  split
  · simp
  split
  · rename_i h; rw [Za9] at h; subst h; simp
  · rw [Z2, Yp1, Z2]
    constructor
    · rintro (h | h | h) <;> simp [h]
    · rintro (h | h | h) <;> simp [h]
theorem Yd5 : ∀ (c : En) (l : List En), l.Pairwise ltE → (insE c l).Pairwise ltE
 | c, [], _ => by simp [insE]
 | c, y :: t, h => by
  obtain ⟨h1, h2⟩ := Z1.1 h
  rw [insE]
  split
  · rename_i hlt
    refine Z1.2 ⟨fun d hd => ?_, h⟩
    rcases Z2.1 hd with rfl | hd
    · exact hlt
    · exact Yc7 hlt (h1 d hd)
  split
  · exact h
  · rename_i hlt hz
    have hy : ltE y c := (ltE_tri c y).elim (fun a => absurd a hlt) (fun a => a.elim (fun a => absurd ((Za9 c y).2 a) hz) id)
    refine Z1.2 ⟨fun d hd => ?_, Yd5 c t h2⟩
    rcases Yp1.1 hd with rfl | hd
    · exact hy
    · exact h1 d hd
theorem Yi9 : ∀ l : List En, (ofE l).Pairwise ltE
 | [] => .nil
 | c :: t => Yd5 c _ (Yi9 t)
theorem mem_ofE : ∀ {l : List En} {c : En}, c ∈ ofE l ↔ c ∈ l
 | [], _ => Iff.rfl
 | x :: t, c => by
  show c ∈ insE x (ofE t) ↔ _
  rw [Yp1, mem_ofE, Z2]
theorem Ya6 : ∀ {a b : List En}, a.Pairwise ltE → b.Pairwise ltE → (∀ c, c ∈ a ↔ c ∈ b) → a = b
 | [], [], _, _, _ => rfl
 | [], y :: t, _, _, h => by simpa using (h y).2 (by simp)
 | x :: s, [], _, _, h => by simpa using (h x).1 (by simp)
 | x :: s, y :: t, ha, hb, h => by
  obtain ⟨a1, a2⟩ := Z1.1 ha
  obtain ⟨b1, b2⟩ := Z1.1 hb
  have hxy : x = y := by
   rcases Z2.1 ((h x).1 (by simp)) with e | hx
   · exact e
   rcases Z2.1 ((h y).2 (by simp)) with e | hy
   · exact e.symm
   exact absurd (Yc7 (a1 y hy) (b1 x hx)) (Za6 x)
  subst hxy
  rw [Ya6 a2 b2 fun c => ⟨fun hc => ?_, fun hc => ?_⟩]
  · rcases Z2.1 ((h c).1 (by simp [hc])) with rfl | q
    · exact absurd (a1 c hc) (Za6 c)
    · exact q
  · rcases Z2.1 ((h c).2 (by simp [hc])) with rfl | q
    · exact absurd (b1 c hc) (Za6 c)
    · exact q
def okE (e : En) : Prop := e.clock.length ≠ 0 ∧ Xm e.clock = true ∧ Wo e.name = true
theorem Zm7 : ∀ {l : List En}, l.Pairwise ltE ↔ ∀ i (h : i + 1 < l.length), ltE (l[i]'(by omega)) l[i + 1]
 | [] => by simp
 | [x] => by simp
 | x :: y :: t => by
  rw [Z1, Zm7 (l := y :: t)]
  constructor
  · rintro ⟨h1, h2⟩ i hi
    cases i with
    | zero => exact h1 y (by simp)
    | succ i => exact h2 i (by simpa using hi)
  · intro h
    have h2 : ∀ i (h : i + 1 < (y :: t).length), ltE ((y :: t)[i]'(by omega)) (y :: t)[i + 1] := fun i hi => h (i + 1) (by simpa using hi)
    refine ⟨fun z hz => ?_, h2⟩
    have h3 := (Zm7 (l := y :: t)).2 h2
    have h0 : ltE x y := h 0 (by simp)
    rcases Z2.1 hz with rfl | hz
    · exact h0
    · exact Yc7 h0 ((Z1.1 h3).1 z hz)
theorem Vt {l : List En} : regB l = true ↔ (∀ e ∈ l, okE e) ∧ l.Pairwise ltE ∧ ∀ e ∈ l, ∀ f ∈ l, belE e f = false := by
 rw [← rents_reg]
 unfold rentsB
 rw [Zs5, Zm7]
 simp only [Nat.zero_add]
 have key : ∀ i (h : i < l.length), Jv l i l[i] = true ↔ okE l[i] ∧ (∀ j (hj : i = j + 1), ltE (l[j]'(by omega)) l[i]) ∧ ∀ f ∈ l, belE l[i] f = false := fun i hi => by
  unfold Jv okE
  rw [Z0, Z0, Z0, Z0, decide_eq_true_eq, Z4]
  have e1 : (∀ f ∈ l, (!V6 l[i].clock f.clock) = true) ↔ ∀ f ∈ l, belE l[i] f = false := forall_congr' fun f => forall_congr' fun _ => by rw [Z6]; rfl
  rw [e1]
  cases i with
  | zero => simp
  | succ j =>
   simp only [List.getElem?_eq_getElem (show j < l.length by omega)]
   constructor
   · rintro ⟨a, b, c⟩
     exact ⟨a, fun k hk => by cases hk; exact of_decide_eq_true b, c⟩
   · rintro ⟨a, b, c⟩
     exact ⟨a, decide_eq_true (b j rfl), c⟩
 constructor
 · intro h
   refine ⟨fun e he => ?_, fun i hi => ((key (i + 1) hi).1 (h (i + 1) hi)).2.1 i rfl, fun e he => ?_⟩
   · obtain ⟨i, hi, rfl⟩ := List.getElem_of_mem he
     exact ((key i hi).1 (h i hi)).1
   · obtain ⟨i, hi, rfl⟩ := List.getElem_of_mem he
     exact ((key i hi).1 (h i hi)).2.2
 · rintro ⟨h1, h2, h3⟩ i hi
   exact (key i hi).2 ⟨h1 _ (List.getElem_mem hi), fun j hj => by subst hj; exact h2 j hi, h3 _ (List.getElem_mem hi)⟩
def Yj3 (a b : List En) : List En := ofE ((a ++ b).filter fun p => !(a ++ b).any fun q => belE p q)
theorem Jb {a b : List En} {e : En} : e ∈ Yj3 a b ↔ (e ∈ a ∨ e ∈ b) ∧ ∀ f, f ∈ a ∨ f ∈ b → belE e f = false := by
 unfold Yj3
 rw [mem_ofE, Z7, List.mem_append, Z6, List.any_eq_false]
 refine and_congr Iff.rfl (forall_congr' fun f => ?_)
 rw [List.mem_append, Bool.not_eq_true]
theorem Zy2 {a b : List En} (ha : regB a = true) (hb : regB b = true) {p : En} (hp : p ∈ a ∨ p ∈ b) : ∃ q ∈ Yj3 a b, undE p q = true := by
 have a3 := (Vt.1 ha).2.2
 have b3 := (Vt.1 hb).2.2
 by_cases h : ∀ f, f ∈ a ∨ f ∈ b → belE p f = false
 · exact ⟨p, Jb.2 ⟨hp, h⟩, Uz.2 (.inl rfl)⟩
 · simp only [Classical.not_forall, Bool.not_eq_false] at h
   obtain ⟨f, hf, hpf⟩ := h
   refine ⟨f, Jb.2 ⟨hf, fun g hg => ?_⟩, Uz.2 (.inr hpf)⟩
   cases hfg : belE f g
   · rfl
   · exfalso
     have hpg : belE p g = true := Zn9 hpf hfg
     rcases hp with hp | hp
     · rcases hf with hf | hf
       · rw [a3 p hp f hf] at hpf; cases hpf
       · rcases hg with hg | hg
         · rw [a3 p hp g hg] at hpg; cases hpg
         · rw [b3 f hf g hg] at hfg; cases hfg
     · rcases hf with hf | hf
       · rcases hg with hg | hg
         · rw [a3 f hf g hg] at hfg; cases hfg
         · rw [b3 p hp g hg] at hpg; cases hpg
       · rw [b3 p hp f hf] at hpf; cases hpf
theorem jl_reg : Jl (fun l => regB l = true) leqE Yj3 [] where
 refl a _ := W3.2 fun p hp => ⟨p, hp, Uz.2 (.inl rfl)⟩
 trans a b c _ _ _ x y := W3.2 fun p hp => by
  obtain ⟨q, hq, h1⟩ := W3.1 x p hp
  obtain ⟨r, hr, h2⟩ := W3.1 y q hq
  exact ⟨r, hr, Yh5 h1 h2⟩
 anti a b ha hb x y := by
  have key : ∀ a b : List En, regB a = true → leqE a b = true → leqE b a = true → ∀ p ∈ a, p ∈ b := fun a b ha x y p hp => by
   obtain ⟨q, hq, h1⟩ := W3.1 x p hp
   rcases Uz.1 h1 with rfl | h1
   · exact hq
   · obtain ⟨r, hr, h2⟩ := W3.1 y q hq
     have h3 : belE p r = true := by
      rcases Uz.1 h2 with rfl | h2
      · exact h1
      · exact Zn9 h1 h2
     rw [(Vt.1 ha).2.2 p hp r hr] at h3; cases h3
  exact Ya6 (Vt.1 ha).2.1 (Vt.1 hb).2.1 fun c => ⟨key a b ha x y c, key b a hb y x c⟩
 mem a b ha hb := Vt.2 ⟨fun e he => (Jb.1 he).1.elim ((Vt.1 ha).1 e) ((Vt.1 hb).1 e), Yi9 _, fun e he f hf => (Jb.1 he).2 f (Jb.1 hf).1⟩
 left a b ha hb := W3.2 fun p hp => Zy2 ha hb (.inl hp)
 right a b ha hb := W3.2 fun p hp => Zy2 ha hb (.inr hp)
 lub a b c _ _ _ x y := W3.2 fun p hp => (Jb.1 hp).1.elim (W3.1 x p) (W3.1 y p)
 bmem := rfl
 bot a _ := rfl
end
section
mutual
def leqV : Lat → Val → Val → Bool
 | .mk k _ _ _ ps _, a, b =>
   if k = 1 ∨ k = 2 then decide (a.n ≤ b.n) else if k = 3 then decide (b.n ≤ a.n)
   else if k = 4 ∨ k = 10 then Xo a.names b.names
   else if k = 5 then leqMap ps a b else if k = 6 then leqs ps a.parts b.parts else if k = 7 then leqLex ps a.parts b.parts
   else if k = 8 then decide (a.n = 0 ∨ b.n = 2 ∨ valC a b = 0) else leqE a.entries b.entries
def leqMap : List Lat → Val → Val → Bool
 | [], _, _ => true
 | p :: _, a, b => Zn0 (fun v w => leqV p v w) a b
def leqs : List Lat → List Val → List Val → Bool
 | p :: ps, a :: s, b :: t => leqV p a b && leqs ps s t
 | [], _, _ => true
 | _ :: _, [], _ => true
 | _ :: _, _ :: _, [] => true
def leqLex : List Lat → List Val → List Val → Bool
 | p :: ps, a :: s, b :: t => if valC a b = 0 then leqLex2 ps s t else leqV p a b
 | [], _, _ => true
 | _ :: _, [], _ => true
 | _ :: _, _ :: _, [] => true
def leqLex2 : List Lat → List Val → List Val → Bool
 | p :: _, a :: _, b :: _ => leqV p a b
 | [], _, _ => true
 | _ :: _, [], _ => true
 | _ :: _, _ :: _, [] => true
end
def Zw2 : List Val → List Val → Bool
 | a :: _, b :: _ => decide (valC a b = 0)
 | [], _ => false
 | _ :: _, [] => false
mutual
def Vk : Lat → Val → Val → Val
 | .mk k lo hi ns ps rs, a, b =>
   if k = 4 then .mk 0 (Uo a.names b.names) [] [] else if k = 10 then .mk 0 (Zb2 ns rs (Uo a.names b.names)) [] []
   else if k = 9 then .mk 0 [] [] (Yj3 a.entries b.entries)
   else if k = 5 then joinMap ps a b else if k = 6 then .mk 0 [] (Zx0 ps a.parts b.parts) []
   else if k = 7 ∧ Zw2 a.parts b.parts = true then .mk 0 [] (Yp4 ps a.parts b.parts) []
   else if leqV (.mk k lo hi ns ps rs) a b then b else if leqV (.mk k lo hi ns ps rs) b a then a else .mk 2 [] [] []
def joinMap : List Lat → Val → Val → Val
 | [], a, _ => a
 | p :: _, a, b => Zc7 (fun v w => Vk p v w) a b
def Zx0 : List Lat → List Val → List Val → List Val
 | p :: ps, a :: s, b :: t => Vk p a b :: Zx0 ps s t
 | [], _, _ => []
 | _ :: _, [], _ => []
 | _ :: _, _ :: _, [] => []
def Yp4 : List Lat → List Val → List Val → List Val
 | _ :: ps, a :: s, _ :: t => a :: joinLex2 ps s t
 | [], _, _ => []
 | _ :: _, [], _ => []
 | _ :: _, _ :: _, [] => []
def joinLex2 : List Lat → List Val → List Val → List Val
 | p :: _, a :: _, b :: _ => [Vk p a b]
 | [], _, _ => []
 | _ :: _, [], _ => []
 | _ :: _, _ :: _, [] => []
end
section
variable {k lo hi : Int} {ns : List ByteArray} {ps : List Lat} {rs : List Rl} {a b : Val}
theorem Zt5 (h : k = 1 ∨ k = 2) : leqV (.mk k lo hi ns ps rs) a b = decide (a.n ≤ b.n) := by rw [leqV, if_pos h]
theorem leqV_3 : leqV (.mk 3 lo hi ns ps rs) a b = decide (b.n ≤ a.n) := by rw [leqV, if_neg (by decide), if_pos (by rfl)]
theorem U7 (h : k = 4 ∨ k = 10) : leqV (.mk k lo hi ns ps rs) a b = Xo a.names b.names := by rw [leqV, if_neg (by omega), if_neg (by omega), if_pos h]
theorem Zv8 {p : Lat} : leqV (.mk 5 lo hi ns [p] rs) a b = Zn0 (leqV p) a b := by rw [leqV, if_neg (by decide), if_neg (by decide), if_neg (by decide), if_pos (by rfl)]; rw [leqMap]
theorem Zg6 : leqV (.mk 6 lo hi ns ps rs) a b = leqs ps a.parts b.parts := by rw [leqV, if_neg (by decide), if_neg (by decide), if_neg (by decide), if_neg (by decide), if_pos (by rfl)]
theorem leqV_7 : leqV (.mk 7 lo hi ns ps rs) a b = leqLex ps a.parts b.parts := by rw [leqV, if_neg (by decide), if_neg (by decide), if_neg (by decide), if_neg (by decide), if_neg (by decide), if_pos (by rfl)]
theorem leqV_8 : leqV (.mk 8 lo hi ns ps rs) a b = decide (a.n = 0 ∨ b.n = 2 ∨ valC a b = 0) := by rw [leqV, if_neg (by decide), if_neg (by decide), if_neg (by decide), if_neg (by decide), if_neg (by decide), if_neg (by decide), if_pos (by rfl)]
theorem Zl2 : leqV (.mk 9 lo hi ns ps rs) a b = leqE a.entries b.entries := by rw [leqV, if_neg (by decide), if_neg (by decide), if_neg (by decide), if_neg (by decide), if_neg (by decide), if_neg (by decide), if_neg (by decide)]
theorem joinV_4 : Vk (.mk 4 lo hi ns ps rs) a b = .mk 0 (Uo a.names b.names) [] [] := by rw [Vk, if_pos (by rfl)]
theorem joinV_10 : Vk (.mk 10 lo hi ns ps rs) a b = .mk 0 (Zb2 ns rs (Uo a.names b.names)) [] [] := by rw [Vk, if_neg (by decide), if_pos (by rfl)]
theorem joinV_9 : Vk (.mk 9 lo hi ns ps rs) a b = .mk 0 [] [] (Yj3 a.entries b.entries) := by rw [Vk, if_neg (by decide), if_neg (by decide), if_pos (by rfl)]
theorem joinV_5 {p : Lat} : Vk (.mk 5 lo hi ns [p] rs) a b = Zc7 (Vk p) a b := by rw [Vk, if_neg (by decide), if_neg (by decide), if_neg (by decide), if_pos (by rfl)]; rw [joinMap]
theorem joinV_6 : Vk (.mk 6 lo hi ns ps rs) a b = .mk 0 [] (Zx0 ps a.parts b.parts) [] := by rw [Vk, if_neg (by decide), if_neg (by decide), if_neg (by decide), if_neg (by decide), if_pos (by rfl)]
theorem joinV_7 (h : Zw2 a.parts b.parts = true) : Vk (.mk 7 lo hi ns ps rs) a b = .mk 0 [] (Yp4 ps a.parts b.parts) [] := by rw [Vk, if_neg (by decide), if_neg (by decide), if_neg (by decide), if_neg (by decide), if_neg (by decide), if_pos ⟨rfl, h⟩]
theorem Zt6 (h1 : k = 1 ∨ k = 2 ∨ k = 3 ∨ k = 8 ∨ k = 7 ∧ Zw2 a.parts b.parts = false) : Vk (.mk k lo hi ns ps rs) a b = if leqV (.mk k lo hi ns ps rs) a b then b else if leqV (.mk k lo hi ns ps rs) b a then a else .mk 2 [] [] [] := by
 rw [Vk, if_neg (by omega), if_neg (by omega), if_neg (by omega), if_neg (by omega), if_neg (by omega), if_neg (fun h => by
  rcases h1 with e | e | e | e | e
  · omega
  · omega
  · omega
  · omega
  · rw [e.2] at h; exact absurd h.2 (by decide))]
end
theorem val_ext {a b : Val} (h1 : a.n = b.n) (h2 : a.names = b.names) (h3 : a.parts = b.parts) (h4 : a.entries = b.entries) : a = b := by
 cases a; cases b
 simp only [Val.n, Val.names, Val.parts, Val.entries] at h1 h2 h3 h4
 rw [h1, h2, h3, h4]
def JlV (l : Lat) : Prop := Jl (fun v => Yb l v = true) (leqV l) (Vk l) (botV l)
def TotV (l : Lat) : Prop := ∀ a b, Yb l a = true → Yb l b = true → leqV l a b = true ∨ leqV l b a = true
def PsE (ps : List Lat) (vs : List Val) : Prop := vs.length = ps.length ∧ Vv ps vs = true
theorem Zf8 {vs : List Val} : PsE [] vs ↔ vs = [] := by
 unfold PsE
 cases vs with
 | nil => rw [Vv]; simp
 | cons v t => simp
theorem Yk {p : Lat} {ps : List Lat} {vs : List Val} : PsE (p :: ps) vs ↔ ∃ v t, vs = v :: t ∧ Yb p v = true ∧ PsE ps t := by
 unfold PsE
 cases vs with
 | nil => simp
 | cons v t =>
  rw [Vv, Z0]
  constructor
  · rintro ⟨h1, h2, h3⟩; exact ⟨v, t, rfl, h2, by simpa using h1, h3⟩
  · rintro ⟨v', t', e, h2, h1, h3⟩; cases e; exact ⟨by simpa using h1, h2, h3⟩
theorem Zy3 : ∀ ps : List Lat, (∀ p ∈ ps, JlV p) → Jl (PsE ps) (leqs ps) (Zx0 ps) (ps.map botV)
 | [], _ => by
  have hn : ∀ {a b : List Val}, PsE [] a → PsE [] b → a = b := fun h1 h2 => (Zf8.1 h1).trans (Zf8.1 h2).symm
  exact {
   refl := fun a ha => by rw [leqs]
   trans := fun a b c _ _ _ _ _ => by rw [leqs]
   anti := fun a b ha hb _ _ => hn ha hb
   mem := fun a b ha hb => by rw [Zx0]; exact Zf8.2 rfl
   left := fun a b ha hb => by rw [leqs]
   right := fun a b ha hb => by rw [leqs]
   lub := fun a b c _ _ _ _ _ => by rw [leqs]
   bmem := Zf8.2 rfl
   bot := fun a ha => by rw [leqs] }
 | p :: ps, H => by
  have J := H p (by simp)
  have K := Zy3 ps fun q hq => H q (by simp [hq])
  exact {
   refl := fun a ha => by
    obtain ⟨v, t, rfl, h1, h2⟩ := Yk.1 ha
    rw [leqs, J.refl v h1, K.refl t h2]; rfl
   trans := fun a b c ha hb hc x y => by
    obtain ⟨v, t, rfl, h1, h2⟩ := Yk.1 ha
    obtain ⟨v', t', rfl, h1', h2'⟩ := Yk.1 hb
    obtain ⟨v2, t2, rfl, k1, k2⟩ := Yk.1 hc
    rw [leqs, Z0] at *
    exact ⟨J.trans _ _ _ h1 h1' k1 x.1 y.1, K.trans _ _ _ h2 h2' k2 x.2 y.2⟩
   anti := fun a b ha hb x y => by
    obtain ⟨v, t, rfl, h1, h2⟩ := Yk.1 ha
    obtain ⟨v', t', rfl, h1', h2'⟩ := Yk.1 hb
    rw [leqs, Z0] at *
    rw [J.anti _ _ h1 h1' x.1 y.1, K.anti _ _ h2 h2' x.2 y.2]
   mem := fun a b ha hb => by
    obtain ⟨v, t, rfl, h1, h2⟩ := Yk.1 ha
    obtain ⟨v', t', rfl, h1', h2'⟩ := Yk.1 hb
    rw [Zx0]
    exact Yk.2 ⟨_, _, rfl, J.mem _ _ h1 h1', K.mem _ _ h2 h2'⟩
   left := fun a b ha hb => by
    obtain ⟨v, t, rfl, h1, h2⟩ := Yk.1 ha
    obtain ⟨v', t', rfl, h1', h2'⟩ := Yk.1 hb
    rw [Zx0, leqs, J.left _ _ h1 h1', K.left _ _ h2 h2']; rfl
   right := fun a b ha hb => by
    obtain ⟨v, t, rfl, h1, h2⟩ := Yk.1 ha
    obtain ⟨v', t', rfl, h1', h2'⟩ := Yk.1 hb
    rw [Zx0, leqs, J.right _ _ h1 h1', K.right _ _ h2 h2']; rfl
   lub := fun a b c ha hb hc x y => by
    obtain ⟨v, t, rfl, h1, h2⟩ := Yk.1 ha
    obtain ⟨v', t', rfl, h1', h2'⟩ := Yk.1 hb
    obtain ⟨v2, t2, rfl, k1, k2⟩ := Yk.1 hc
    rw [Zx0]
    rw [leqs, Z0] at *
    exact ⟨J.lub _ _ _ h1 h1' k1 x.1 y.1, K.lub _ _ _ h2 h2' k2 x.2 y.2⟩
   bmem := Yk.2 ⟨_, _, rfl, J.bmem, K.bmem⟩
   bot := fun a ha => by
    obtain ⟨v, t, rfl, h1, h2⟩ := Yk.1 ha
    rw [Z3, leqs, J.bot _ h1, K.bot _ h2]; rfl }
/-! The kinds. -/
theorem el_123 {k lo hi : Int} {ns : List ByteArray} {ps : List Lat} {rs : List Rl} (hk : k = 1 ∨ k = 2 ∨ k = 3) {v : Val} : Yb (.mk k lo hi ns ps rs) v = true ↔ ((if k = 1 then 0 else lo) ≤ v.n ∧ v.n ≤ (if k = 1 then 1 else hi)) ∧ Val.mk v.n [] [] [] = v := by
 have e : Val.mk v.n [] [] [] = v ↔ v.names = [] ∧ v.parts = [] ∧ v.entries = [] := by
  cases v; simp only [Val.n, Val.names, Val.parts, Val.entries, Val.mk.injEq, true_and]
  exact ⟨fun h => ⟨h.1.symm, h.2.1.symm, h.2.2.symm⟩, fun h => ⟨h.1.symm, h.2.1.symm, h.2.2.symm⟩⟩
 rw [e]
 rcases hk with rfl | h
 · rw [isE_1, if_pos rfl, if_pos rfl]
   exact ⟨fun h => ⟨by omega, h.2⟩, fun h => ⟨by omega, h.2⟩⟩
 · rw [isE_23 h, if_neg (by omega), if_neg (by omega)]
theorem tot_n {k lo hi : Int} {ns : List ByteArray} {ps : List Lat} {rs : List Rl} (hk : k = 1 ∨ k = 2 ∨ k = 3) : TotV (.mk k lo hi ns ps rs) := fun a b _ _ => by
 rcases hk with h | h | h
 · rw [Zt5 (.inl h), Zt5 (.inl h), decide_eq_true_eq, decide_eq_true_eq]; omega
 · rw [Zt5 (.inr h), Zt5 (.inr h), decide_eq_true_eq, decide_eq_true_eq]; omega
 · subst h; rw [leqV_3, leqV_3, decide_eq_true_eq, decide_eq_true_eq]; omega
theorem jl_n {k lo hi : Int} {ns : List ByteArray} {ps : List Lat} {rs : List Rl} (hk : k = 1 ∨ k = 2 ∨ k = 3) (hlo : lo ≤ hi) : JlV (.mk k lo hi ns ps rs) := by
 have hle : ∀ a b : Val, leqV (.mk k lo hi ns ps rs) a b = true ↔ if k = 3 then b.n ≤ a.n else a.n ≤ b.n := fun a b => by
  rcases hk with h | h | h
  · rw [Zt5 (.inl h), decide_eq_true_eq, if_neg (by omega)]
  · rw [Zt5 (.inr h), decide_eq_true_eq, if_neg (by omega)]
  · subst h; rw [leqV_3, decide_eq_true_eq, if_pos rfl]
 have hb : botV (.mk k lo hi ns ps rs) = .mk (if k = 1 then 0 else if k = 2 then lo else hi) [] [] [] := by
  rw [botV]
  rcases hk with h | h | h
  · subst h; rfl
  · subst h; rfl
  · subst h; rfl
 have hbn : (botV (.mk k lo hi ns ps rs)).n = if k = 1 then 0 else if k = 2 then lo else hi := by rw [hb]; rfl
 refine jl_total (fun a _ => ?_) (fun a b c _ _ _ => ?_) (fun a b ha hb => ?_) (tot_n hk) (fun a b ha hb => ?_) ((el_123 hk).2 ⟨?_, ?_⟩) fun a ha => ?_
 · rw [hle]; split <;> exact Int.le_refl _
 · rw [hle, hle, hle]; split <;> omega
 · rw [hle, hle]
   intro x y
   rw [el_123 hk] at ha hb
   rw [← ha.2, ← hb.2, show a.n = b.n by split at x <;> split at y <;> omega]
 · rw [Zt6 (by omega)]
   split
   · rfl
   · rename_i h
     rw [if_pos ((tot_n hk a b ha hb).resolve_left h)]
 · rw [hbn]; rcases hk with h | h | h <;> subst h <;> simp <;> omega
 · rw [hbn, hb]
 · rw [el_123 hk] at ha
   rw [hle, hbn]
   rcases hk with h | h | h <;> subst h <;> simp at ha ⊢ <;> omega
theorem el_set' {v : Val} : Val.mk 0 v.names [] [] = v ↔ v.n = 0 ∧ v.parts = [] ∧ v.entries = [] := by
 cases v
 simp only [Val.n, Val.parts, Val.entries, Val.names, Val.mk.injEq, true_and]
 exact ⟨fun h => ⟨h.1.symm, h.2.1.symm, h.2.2.symm⟩, fun h => ⟨h.1.symm, h.2.1.symm, h.2.2.symm⟩⟩
theorem jl_set {lo hi : Int} {ns : List ByteArray} {ps : List Lat} {rs : List Rl} : JlV (.mk 4 lo hi ns ps rs) := by
 refine Jl.map (F := fun s => Yi ns s = true) (le' := Xo) (jn' := Uo) (bot' := []) ?_ Val.names (fun s => .mk 0 s [] []) (fun a => by rw [isE_4, el_set', and_comm]) (fun _ _ => rfl) (fun a b _ _ => U7 (.inl rfl)) (fun a b _ _ => joinV_4) (by rw [botV]; rfl)
 exact {
  refl := fun a _ => Yj.2 fun _ h => h
  trans := fun a b c _ _ _ x y => Yj.2 fun z h => Yj.1 y z (Yj.1 x z h)
  anti := fun a b ha hb x y => Zb7 (Xb.1 ha).1 (Xb.1 hb).1 fun c => ⟨Yj.1 x c, Yj.1 y c⟩
  mem := fun a b ha hb => Zr7 ha hb
  left := fun a b _ _ => Yj.2 fun x h => Wj.2 (.inl h)
  right := fun a b _ _ => Yj.2 fun x h => Wj.2 (.inr h)
  lub := fun a b c _ _ _ x y => Yj.2 fun z h => (Wj.1 h).elim (Yj.1 x z) (Yj.1 y z)
  bmem := rfl
  bot := fun _ _ => rfl }
theorem jl_closed {lo hi : Int} {ns : List ByteArray} {ps : List Lat} {rs : List Rl} (h0 : ns ≠ []) (hns : Yi ns ns = true) (hr : ∀ r ∈ rs, r.concl ∈ ns) (hc : ∀ r ∈ rs, r.cond ≠ []) : JlV (.mk 10 lo hi ns ps rs) := by
 refine Jl.map (F := fun s => Yi ns s = true ∧ V3 rs s = true) (le' := Xo) (jn' := fun a b => Zb2 ns rs (Uo a b)) (bot' := []) ?_ Val.names (fun s => .mk 0 s [] []) (fun a => by rw [isE_10, el_set', and_comm]) (fun _ _ => rfl) (fun a b _ _ => U7 (.inr rfl)) (fun a b _ _ => joinV_10) (by rw [botV]; rfl)
 have hin : ∀ {a : List ByteArray}, Yi ns a = true → ∀ x ∈ a, x ∈ ns := fun ha x hx => ((Xb.1 ha).2 x hx).2.resolve_left h0
 have hu : ∀ {a b : List ByteArray}, Yi ns a = true → Yi ns b = true → ∀ x ∈ Uo a b, x ∈ ns := fun ha hb x hx => (Wj.1 hx).elim (hin ha x) (hin hb x)
 exact {
  refl := fun a _ => Yj.2 fun _ h => h
  trans := fun a b c _ _ _ x y => Yj.2 fun z h => Yj.1 y z (Yj.1 x z h)
  anti := fun a b ha hb x y => Zb7 (Xb.1 ha.1).1 (Xb.1 hb.1).1 fun c => ⟨Yj.1 x c, Yj.1 y c⟩
  mem := fun a b ha hb => ⟨Xb.2 ⟨close_sorted (Xb.1 hns).1, fun x hx => ⟨((Xb.1 hns).2 x (close_in x hx)).1, .inr (close_in x hx)⟩⟩, close_closed hr (hu ha.1 hb.1)⟩
  left := fun a b ha hb => Yj.2 fun x h => close_sub hr (hu ha.1 hb.1) x (Wj.2 (.inl h))
  right := fun a b ha hb => Yj.2 fun x h => close_sub hr (hu ha.1 hb.1) x (Wj.2 (.inr h))
  lub := fun a b c ha hb hc x y => Yj.2 fun z h => close_least hr (hu ha.1 hb.1) hc.2 (fun z h => (Wj.1 h).elim (Yj.1 x z) (Yj.1 y z)) z h
  bmem := ⟨rfl, Zb1.2 fun r h hx => by
   exfalso
   cases hq : r.cond with
   | nil => exact hc r h hq
   | cons y t => have := hx y (by rw [hq]; simp); cases this⟩
  bot := fun _ _ => rfl }
theorem V5 {lo hi : Int} {ns : List ByteArray} {p : Lat} {rs : List Rl} {v : Val} : Yb (.mk 5 lo hi ns [p] rs) v = true ↔ MapE ns (fun v => Yb p v = true) (botV p) v := by
 rw [isE_5, mapB_one]
 unfold MapE
 simp only [ne_eq, Yo]
theorem jl_map {lo hi : Int} {ns : List ByteArray} {p : Lat} {rs : List Rl} (J : JlV p) : JlV (.mk 5 lo hi ns [p] rs) :=
 Jl.map (jl_maps (only := ns) J) id id (fun a => by rw [V5]; simp) (fun _ _ => rfl) (fun a b _ _ => Zv8) (fun a b _ _ => joinV_5) (by rw [botV]; rfl)
theorem el_parts {v : Val} : Val.mk 0 [] v.parts [] = v ↔ v.n = 0 ∧ v.names = [] ∧ v.entries = [] := by
 cases v
 simp only [Val.n, Val.parts, Val.entries, Val.names, Val.mk.injEq, true_and]
 exact ⟨fun h => ⟨h.1.symm, h.2.1.symm, h.2.2.symm⟩, fun h => ⟨h.1.symm, h.2.1.symm, h.2.2.symm⟩⟩
theorem el67 {k lo hi : Int} {ns : List ByteArray} {ps : List Lat} {rs : List Rl} (hk : k = 6 ∨ k = 7) {v : Val} : Yb (.mk k lo hi ns ps rs) v = true ↔ PsE ps v.parts ∧ Val.mk 0 [] v.parts [] = v := by
 rw [isE_67 hk, el_parts]
 unfold PsE
 exact and_comm
theorem jl_prod {lo hi : Int} {ns : List ByteArray} {ps : List Lat} {rs : List Rl} (H : ∀ p ∈ ps, JlV p) : JlV (.mk 6 lo hi ns ps rs) :=
 Jl.map (Zy3 ps H) Val.parts (fun l => .mk 0 [] l []) (fun a => el67 (.inl rfl)) (fun _ _ => rfl) (fun a b _ _ => Zg6) (fun a b _ _ => joinV_6) (by rw [botV, Zr5]; rfl)
def Jw (v : Val) : Val × Val := (v.parts.getD 0 Uy, v.parts.getD 1 Uy)
def ofP (x : Val × Val) : Val := .mk 0 [] [x.1, x.2] []
theorem el_7 {lo hi : Int} {ns : List ByteArray} {p q : Lat} {rs : List Rl} {v : Val} : Yb (.mk 7 lo hi ns [p, q] rs) v = true ↔ (Yb p (Jw v).1 = true ∧ Yb q (Jw v).2 = true) ∧ ofP (Jw v) = v := by
 rw [el67 (.inr rfl)]
 constructor
 · rintro ⟨h1, h2⟩
   obtain ⟨a, t, e1, ha, h1⟩ := Yk.1 h1
   obtain ⟨b, t, e2, hb, h1⟩ := Yk.1 h1
   rw [Zf8.1 h1] at e2
   rw [e2] at e1
   unfold Jw ofP
   rw [e1] at h2 ⊢
   exact ⟨⟨ha, hb⟩, h2⟩
 · rintro ⟨⟨h1, h2⟩, h3⟩
   have e : v.parts = [(Jw v).1, (Jw v).2] := (congrArg Val.parts h3).symm
   exact ⟨by rw [e]; exact Yk.2 ⟨_, _, rfl, h1, Yk.2 ⟨_, _, rfl, h2, Zf8.2 rfl⟩⟩, by rw [e]; exact h3⟩
theorem Xr {lo hi : Int} {ns : List ByteArray} {p q : Lat} {rs : List Rl} (x y : Val × Val) : leqV (.mk 7 lo hi ns [p, q] rs) (ofP x) (ofP y) = if x.1 = y.1 then leqV q x.2 y.2 else leqV p x.1 y.1 := by
 rw [leqV_7]
 show leqLex [p, q] [x.1, x.2] [y.1, y.2] = _
 rw [leqLex]
 by_cases h : x.1 = y.1
 · rw [if_pos h, if_pos ((Yo _ _).2 h), leqLex2]
 · rw [if_neg h, if_neg (fun e => h ((Yo _ _).1 e))]
theorem Zq5 {lo hi : Int} {ns : List ByteArray} {p q : Lat} {rs : List Rl} (tot : TotV p) {x y : Val × Val} (hx : Yb p x.1 = true) (hy : Yb p y.1 = true) : Vk (.mk 7 lo hi ns [p, q] rs) (ofP x) (ofP y) = ofP (if x.1 = y.1 then (x.1, Vk q x.2 y.2) else if leqV (.mk 7 lo hi ns [p, q] rs) (ofP x) (ofP y) = true then y else x) := by
 have hh : Zw2 (ofP x).parts (ofP y).parts = decide (x.1 = y.1) := by
  show decide (valC x.1 y.1 = 0) = _
  simp only [Yo]
 by_cases h : x.1 = y.1
 · rw [joinV_7 (by rw [hh, decide_eq_true h]), if_pos h]
   show Val.mk 0 [] (Yp4 [p, q] [x.1, x.2] [y.1, y.2]) [] = _
   rw [Yp4, joinLex2]; rfl
 · rw [Zt6 (.inr (.inr (.inr (.inr ⟨rfl, by rw [hh, decide_eq_false h]⟩)))), if_neg h]
   by_cases h2 : leqV (.mk 7 lo hi ns [p, q] rs) (ofP x) (ofP y) = true
   · rw [if_pos h2, if_pos h2]
   · have h3 : leqV (.mk 7 lo hi ns [p, q] rs) (ofP y) (ofP x) = true := by
      rw [Xr, if_neg h] at h2
      rw [Xr, if_neg (show ¬ y.1 = x.1 from fun e => h e.symm)]
      exact (tot _ _ hx hy).resolve_left h2
     rw [if_neg h2, if_pos h3, if_neg h2]
theorem jl_lexV {lo hi : Int} {ns : List ByteArray} {p q : Lat} {rs : List Rl} (J : JlV p) (J' : JlV q) (tot : TotV p) : JlV (.mk 7 lo hi ns [p, q] rs) := by
 refine Jl.map (jl_lex J J' tot (lx := fun x y => leqV (.mk 7 lo hi ns [p, q] rs) (ofP x) (ofP y)) (fun x y _ _ => Xr x y) (jx := fun x y => if x.1 = y.1 then (x.1, Vk q x.2 y.2) else if leqV (.mk 7 lo hi ns [p, q] rs) (ofP x) (ofP y) = true then y else x) (fun x y _ _ => rfl)) Jw ofP (fun a => el_7) (fun _ _ => rfl) (fun a b ha hb => ?_) (fun a b ha hb => ?_) (by rw [botV, Zr5]; rfl)
 · show _ = leqV _ (ofP (Jw a)) (ofP (Jw b))
   rw [(el_7.1 ha).2, (el_7.1 hb).2]
 · show _ = ofP _
   rw [← Zq5 tot (el_7.1 ha).1.1 (el_7.1 hb).1.1, (el_7.1 ha).2, (el_7.1 hb).2]
theorem tot_lex {lo hi : Int} {ns : List ByteArray} {p q : Lat} {rs : List Rl} (h1 : TotV p) (h2 : TotV q) : TotV (.mk 7 lo hi ns [p, q] rs) := fun a b ha hb => by
 rw [el_7] at ha hb
 rw [← ha.2, ← hb.2, Xr, Xr]
 by_cases h : (Jw a).1 = (Jw b).1
 · rw [if_pos h, if_pos h.symm]; exact h2 _ _ ha.1.2 hb.1.2
 · rw [if_neg h, if_neg (fun e => h e.symm)]; exact h1 _ _ ha.1.1 hb.1.1
theorem jl_flat {lo hi : Int} {ns : List ByteArray} {ps : List Lat} {rs : List Rl} : JlV (.mk 8 lo hi ns ps rs) := by
 have hle : ∀ a b : Val, leqV (.mk 8 lo hi ns ps rs) a b = true ↔ a.n = 0 ∨ b.n = 2 ∨ a = b := fun a b => by rw [leqV_8, decide_eq_true_eq, Yo]
 have hj : ∀ a b : Val, Vk (.mk 8 lo hi ns ps rs) a b = if leqV (.mk 8 lo hi ns ps rs) a b then b else if leqV (.mk 8 lo hi ns ps rs) b a then a else .mk 2 [] [] [] := fun a b => Zt6 (by omega)
 have h2m : Yb (.mk 8 lo hi ns ps rs) (.mk 2 [] [] []) = true := isE_8.2 ⟨rfl, rfl, .inr (.inl ⟨rfl, rfl⟩)⟩
 have hz : ∀ {a b : Val}, Yb (.mk 8 lo hi ns ps rs) a = true → Yb (.mk 8 lo hi ns ps rs) b = true → a.n = b.n → a.n ≠ 1 → a = b := fun {a b} ha hb e h1 => by
  rw [isE_8] at ha hb
  have na : a.names = [] := by exact ha.2.2.elim (·.2) (·.elim (·.2) fun h => absurd h.1 h1)
  have nb : b.names = [] := by exact hb.2.2.elim (·.2) (·.elim (·.2) fun h => absurd (e.trans h.1) h1)
  exact val_ext e (na.trans nb.symm) (ha.1.trans hb.1.symm) (ha.2.1.trans hb.2.1.symm)
 have hn : ∀ {a : Val}, Yb (.mk 8 lo hi ns ps rs) a = true → a.n = 0 ∨ a.n = 1 ∨ a.n = 2 := fun ha => by rw [isE_8] at ha; omega
 have hmem : ∀ a b, Yb (.mk 8 lo hi ns ps rs) a = true → Yb (.mk 8 lo hi ns ps rs) b = true → Yb (.mk 8 lo hi ns ps rs) (Vk (.mk 8 lo hi ns ps rs) a b) = true := fun a b ha hb => by
  rw [hj]
  split
  · exact hb
  · split
    · exact ha
    · exact h2m
 exact {
  refl := fun a _ => (hle a a).2 (.inr (.inr rfl))
  trans := fun a b c ha hb hc x y => by
   rw [hle] at *
   rcases x with x | x | rfl
   · exact .inl x
   · rcases y with y | y | rfl
     · omega
     · exact .inr (.inl y)
     · exact .inr (.inl x)
   · exact y
  anti := fun a b ha hb x y => by
   rw [hle] at *
   rcases x with x | x | rfl
   · rcases y with y | y | rfl
     · exact hz ha hb (by omega) (by omega)
     · omega
     · rfl
   · rcases y with y | y | rfl
     · omega
     · exact hz ha hb (by omega) (by omega)
     · rfl
   · rfl
  mem := hmem
  left := fun a b ha hb => by
   rw [hj]
   split
   · assumption
   · split
     · exact (hle a a).2 (.inr (.inr rfl))
     · exact (hle _ _).2 (.inr (.inl rfl))
  right := fun a b ha hb => by
   rw [hj]
   split
   · exact (hle b b).2 (.inr (.inr rfl))
   · split
     · assumption
     · exact (hle _ _).2 (.inr (.inl rfl))
  lub := fun a b c ha hb hc x y => by
   rw [hj]
   split
   · exact y
   · rename_i h1
     split
     · exact x
     · rename_i h2
       rw [hle] at *
       rcases x with x | x | rfl
       · exact absurd (.inl x) h1
       · exact .inr (.inl x)
       · rcases y with y | y | rfl
         · exact absurd (.inl y) h2
         · exact .inr (.inl y)
         · exact absurd (.inr (.inr rfl)) h1
  bmem := by rw [show botV (.mk 8 lo hi ns ps rs) = Uy by rw [botV]; rfl]; exact isE_8.2 ⟨rfl, rfl, .inl ⟨rfl, rfl⟩⟩
  bot := fun a _ => by rw [show botV (.mk 8 lo hi ns ps rs) = Uy by rw [botV]; rfl]; exact (hle _ _).2 (.inl rfl) }
theorem el9 {v : Val} : Val.mk 0 [] [] v.entries = v ↔ v.n = 0 ∧ v.names = [] ∧ v.parts = [] := by
 cases v
 simp only [Val.n, Val.parts, Val.entries, Val.names, Val.mk.injEq, and_true]
 exact ⟨fun h => ⟨h.1.symm, h.2.1.symm, h.2.2.symm⟩, fun h => ⟨h.1.symm, h.2.1.symm, h.2.2.symm⟩⟩
theorem Yd2 {lo hi : Int} {ns : List ByteArray} {ps : List Lat} {rs : List Rl} : JlV (.mk 9 lo hi ns ps rs) :=
 Jl.map jl_reg Val.entries (fun l => .mk 0 [] [] l) (fun a => by rw [isE_9, el9, and_comm]) (fun _ _ => rfl) (fun a b _ _ => Zl2) (fun a b _ _ => joinV_9) (by rw [botV]; rfl)
theorem WfL.uni {l : Lat} (h : WfL l) (h10 : l.kind = 10) : l.names ≠ [] ∧ Yi l.names l.names = true ∧ (∀ r ∈ l.rules, r.concl ∈ l.names) ∧ (∀ r ∈ l.rules, r.cond ≠ []) ∧ ∀ r ∈ l.rules, ∀ x ∈ r.cond, x ∈ l.names := by
 have h1 := h.spell
 have hk := h.kinds.2.2.2.2.2.2.2.2.2.1 h10
 have e6 : (l.kind == 6) = false := by rw [h10]; rfl
 unfold Zk6 at h1
 rw [Bool.not_eq_false', e6, Yp0, Zd, Z0, Z0] at h1
 have h3 : ∀ r ∈ l.rules, ruleB l.names r = true := Z4.1 h1.2
 have h4 : ∀ r ∈ l.rules, r.cond.length ≠ 0 ∧ Xo r.cond l.names = true ∧ hasS l.names r.concl = true := fun r hr => by
  have := h3 r hr
  unfold ruleB at this
  simp only [Z0, decide_eq_true_eq] at this
  exact ⟨this.1.1.1, this.1.2, this.2⟩
 refine ⟨fun e => by rw [e] at hk; simp at hk, Xb.2 ⟨(Ya7 _).1 h1.1.2, fun x hx => ⟨Z4.1 h1.1.1 x hx, .inr hx⟩⟩, fun r hr => (Xs _ _).1 (h4 r hr).2.2, fun r hr e => (h4 r hr).1 (by rw [e]; rfl), fun r hr => Yj.1 (h4 r hr).2.1⟩
theorem WfL.chain {l : Lat} (h : WfL l) (h7 : l.kind = 7) : ∃ p q, l.parts = [p, q] ∧ Wh p = true := by
 have h2 := h.kinds.2.2.1 h7
 have h3 := Zi8 (by decide) (Zp4 h.check).2.2.2
 match hm : l.parts, h2 with
 | [p, q], _ =>
  refine ⟨p, q, rfl, ?_⟩
  unfold Ve at h3
  rw [h7, hm] at h3
  simpa using h3
theorem tot_chain (f : Nat) : ∀ l : Lat, SizeOf.sizeOf l ≤ f → Wh l = true → TotV l := by
 induction f with
 | zero => intro l hn; cases l; simp at hn
 | succ f ih =>
  intro l hn hc
  have hp : ∀ p ∈ l.parts, Wh p = true → TotV p := fun p hp => ih p (by have := Yz hp; omega)
  rw [Zi6, Bool.or_eq_true, decide_eq_true_eq, Z0, Z0, decide_eq_true_eq, decide_eq_true_eq] at hc
  obtain ⟨k, lo, hi, ns, ps, rs⟩ := l
  simp only [Lat.kind, Lat.parts] at hc hp
  rcases hc with h | ⟨⟨h7, h2⟩, h3⟩
  · exact tot_n h
  · subst h7
    obtain ⟨p, q, rfl⟩ : ∃ p q, ps = [p, q] := by
     match ps, h2 with
     | [p, q], _ => exact ⟨p, q, rfl⟩
    rw [Z4] at h3
    exact tot_lex (hp p (by simp) (h3 p (by simp))) (hp q (by simp) (h3 q (by simp)))
theorem jlV (f : Nat) : ∀ l : Lat, SizeOf.sizeOf l ≤ f → WfL l → JlV l := by
 induction f with
 | zero => intro l hn; cases l; simp at hn
 | succ f ih =>
  intro l hn hwf
  have hk := hwf.kinds
  have hr := hwf.ranges
  have hp : ∀ p ∈ l.parts, JlV p := fun p hp => ih p (by have := Yz hp; omega) (hwf.part hp)
  have hu := hwf.uni
  have hc := hwf.chain
  have hlo : l.lo ≤ l.hi := by
   have := of_decide_eq_false hr
   omega
  obtain ⟨k, lo, hi, ns, ps, rs⟩ := l
  simp only [Lat.kind, Lat.lo, Lat.hi, Lat.names, Lat.parts, Lat.rules] at hk hp hu hc hlo
  have hkk : (k = 1 ∨ k = 2 ∨ k = 3) ∨ k = 4 ∨ k = 5 ∨ k = 6 ∨ k = 7 ∨ k = 8 ∨ k = 9 ∨ k = 10 := by omega
  rcases hkk with h | rfl | rfl | rfl | rfl | rfl | rfl | rfl
  · exact jl_n h hlo
  · exact jl_set
  · obtain ⟨p, rfl⟩ := List.length_eq_one_iff.1 (hk.2.1 rfl)
    exact jl_map (hp p (by simp))
  · exact jl_prod hp
  · obtain ⟨p, q, rfl, h1⟩ := hc rfl
    exact jl_lexV (hp p (by simp)) (hp q (by simp)) (tot_chain _ p (Zb _) h1)
  · exact jl_flat
  · exact Yd2
  · obtain ⟨h1, h2, h3, h4, _⟩ := hu rfl
    exact jl_closed h1 h2 h3 h4
theorem WfL.jl {l : Lat} (h : WfL l) : JlV l := jlV _ l (Zb _) h
end
section
mutual
def trivB : Lat → Bool
 | .mk k lo hi _ ps _ => if k = 2 ∨ k = 3 then decide (lo = hi) else if k = 5 ∨ k = 6 ∨ k = 7 then trivBs ps else false
def trivBs : List Lat → Bool
 | [] => true
 | p :: t => trivB p && trivBs t
end
mutual
def topV : Lat → Val × Bool
 | .mk k lo hi ns ps _ => if k = 1 then (.mk 1 [] [] [], true) else if k = 2 then (.mk hi [] [] [], true) else if k = 3 then (.mk lo [] [] [], true) else if k = 8 then (.mk 2 [] [] [], true)
   else if k = 4 ∨ k = 10 then (.mk 0 ns [] [], decide (0 < ns.length)) else if k = 9 then (Uy, false)
   else if k = 5 then topMap ns ps else if topOk ps then (.mk 0 [] (topVs ps) [], true) else (Uy, false)
def topMap : List ByteArray → List Lat → Val × Bool
 | _, [] => (Uy, true)
 | ns, p :: _ => if trivB p then (Uy, true) else if (topV p).2 = false ∨ ns.length = 0 then (Uy, false) else (.mk 0 ns (List.replicate ns.length (topV p).1) [], true)
def topVs : List Lat → List Val
 | [] => []
 | p :: t => (topV p).1 :: topVs t
def topOk : List Lat → Bool
 | [] => true
 | p :: t => (topV p).2 && topOk t
end
/-! Descriptions that have ranks. -/
mutual
def finB : Lat → Bool
 | .mk k _ _ ns ps _ => !(decide (k = 9) || decide (k = 4 ∨ k = 8 ∨ k = 5) && decide (ns.length = 0)) && finBs ps
def finBs : List Lat → Bool
 | [] => true
 | p :: t => finB p && finBs t
end
mutual
def W4 : Lat → Bool
 | .mk k _ _ _ ps _ => !decide (k = 8 ∨ k = 10) && Vr ps
def Vr : List Lat → Bool
 | [] => true
 | p :: t => W4 p && Vr t
end
def finAt1 (ps : List Lat) : Bool := match ps with | _ :: q :: _ => finB q | _ => true
mutual
def rkdB : Lat → Bool
 | .mk k _ _ _ ps _ => !(decide (k = 9) || decide (k = 7) && !finAt1 ps) && rkdBs ps
def rkdBs : List Lat → Bool
 | [] => true
 | p :: t => rkdB p && rkdBs t
end
mutual
def rkdR : Lat → Bool
 | .mk k _ _ _ ps _ => !(decide (k = 9 ∨ k = 8 ∨ k = 10) || decide (k = 7) && !finAt1 ps) && rkdRs ps
def rkdRs : List Lat → Bool
 | [] => true
 | p :: t => rkdR p && rkdRs t
end
theorem rkdR_eq : ∀ l : Lat, rkdR l = (W4 l && rkdB l)
 | .mk k _ _ _ ps _ => by
  have hs : rkdRs ps = (Vr ps && rkdBs ps) := go ps
  rw [rkdR, W4, rkdB, hs]
  generalize finAt1 ps = a
  by_cases h9 : k = 9
  · subst h9; simp
  by_cases h8 : k = 8
  · subst h8; simp
  by_cases h10 : k = 10
  · subst h10; simp
  · simp only [h9, h8, h10, or_self, decide_false, Zd, Bool.not_false, Bool.true_and]
    cases (decide (k = 7) && !a) <;> cases Vr ps <;> rfl
where go : ∀ ps : List Lat, rkdRs ps = (Vr ps && rkdBs ps)
 | [] => by rw [rkdRs, Vr, rkdBs]; rfl
 | p :: t => by
  rw [rkdRs, Vr, rkdBs, go t, rkdR_eq p]
  cases W4 p <;> cases rkdB p <;> cases Vr t <;> rfl
mutual
def rkI : Lat → Val → Int
 | .mk k lo hi _ ps _, v =>
   if k = 1 then v.n else if k = 2 then v.n - lo else if k = 3 then hi - v.n else if k = 4 then v.names.length
   else if k = 5 then rkMap ps v.parts else if k = 6 then rkSum ps v.parts else if k = 7 then rkLex ps v.parts else 0
def rkMap : List Lat → List Val → Int
 | [], _ => 0
 | p :: _, vs => (vs.map fun v => rkI p v).sum
def rkSum : List Lat → List Val → Int
 | p :: ps, v :: vs => rkI p v + rkSum ps vs
 | [], _ => 0
 | _ :: _, [] => 0
def rkLex : List Lat → List Val → Int
 | p :: ps, v :: vs => rkLex2 (rkI p v) ps vs
 | [], _ => 0
 | _ :: _, [] => 0
def rkLex2 (c : Int) : List Lat → List Val → Int
 | q :: _, w :: _ => c * (rkI q (topV q).1 + 1) + rkI q w
 | [], _ => 0
 | _ :: _, [] => 0
end
end
section
structure Df {α : Type} (E : α → Prop) (le : α → α → Bool) (jn : α → α → α) (bot : α) (q : Prop) (df : α → α → α) : Prop where
 mem : ∀ a b, E a → E b → E (df a b)
 dle : ∀ a b, E a → E b → le (df a b) a = true
 restore : ∀ a b, E a → E b → le a (jn (df a b) b) = true
 botd : ∀ a b, E a → E b → le a b = true → df a b = bot
 least : q → ∀ a b c, E a → E b → E c → le a (jn c b) = true → le (df a b) c = true
section
variable {α : Type} {E : α → Prop} {le : α → α → Bool} {jn : α → α → α} {bot : α} {q : Prop} {df : α → α → α}
theorem Df.is_bot (D : Df E le jn bot q df) (J : Jl E le jn bot) {a b : α} (ha : E a) (hb : E b) : df a b = bot ↔ le a b = true :=
 ⟨fun h => by have := D.restore a b ha hb; rw [h, J.bot_left hb] at this; exact this, D.botd a b ha hb⟩
theorem Df.of (J : Jl E le jn bot) {g : α → α → α} (hdf : ∀ a b, E a → E b → df a b = if le a b = true then bot else g a b)
  (hg : ∀ a b, E a → E b → le a b = false → E (g a b) ∧ le (g a b) a = true ∧ le a (jn (g a b) b) = true ∧ (q → ∀ c, E c → le a (jn c b) = true → le (g a b) c = true)) : Df E le jn bot q df where
 mem a b ha hb := by
  rw [hdf a b ha hb]; split
  · exact J.bmem
  · rename_i h; exact (hg a b ha hb (by simpa using h)).1
 dle a b ha hb := by
  rw [hdf a b ha hb]; split
  · exact J.bot a ha
  · rename_i h; exact (hg a b ha hb (by simpa using h)).2.1
 restore a b ha hb := by
  rw [hdf a b ha hb]; split
  · rename_i h; rw [J.bot_left hb]; exact h
  · rename_i h; exact (hg a b ha hb (by simpa using h)).2.2.1
 botd a b ha hb h := by rw [hdf a b ha hb, if_pos h]
 least hq a b c ha hb hc h := by
  rw [hdf a b ha hb]; split
  · exact J.bot c hc
  · rename_i h1; exact (hg a b ha hb (by simpa using h1)).2.2.2 hq c hc h
end
def J4 (bot : Val) (df : Val → Val → Val) (b : Val) (l : List (ByteArray × Val)) : List (ByteArray × Val) := l.filterMap fun x => if valC (df x.2 ((getM b x.1).getD bot)) bot = 0 then none else some (x.1, df x.2 ((getM b x.1).getD bot))
def Zd2 (bot : Val) (df : Val → Val → Val) (a b : Val) : Val := .mk 0 ((J4 bot df b (a.names.zip a.parts)).map Z8) ((J4 bot df b (a.names.zip a.parts)).map Zc) []
mutual
def Wz : Lat → Val → Val → Val
 | .mk k lo hi ns ps rs, a, b =>
   if leqV (.mk k lo hi ns ps rs) a b then botV (.mk k lo hi ns ps rs)
   else if k = 4 then .mk 0 (minS a.names b.names) [] [] else if k = 5 then diffMap ps a b
   else if k = 6 then .mk 0 [] (Zr0 ps a.parts b.parts) []
   else if k = 7 ∧ Zw2 a.parts b.parts = true then .mk 0 [] (diffLex ps a.parts b.parts) []
   else if k = 9 then .mk 0 [] [] (a.entries.filter fun x => !b.entries.any fun y => undE x y) else a
def diffMap : List Lat → Val → Val → Val
 | [], a, _ => a
 | p :: _, a, b => Zd2 (botV p) (fun v w => Wz p v w) a b
def Zr0 : List Lat → List Val → List Val → List Val
 | p :: ps, a :: s, b :: t => Wz p a b :: Zr0 ps s t
 | [], _, _ => []
 | _ :: _, [], _ => []
 | _ :: _, _ :: _, [] => []
def diffLex : List Lat → List Val → List Val → List Val
 | _ :: ps, a :: s, _ :: t => a :: diffLex2 ps s t
 | [], _, _ => []
 | _ :: _, [], _ => []
 | _ :: _, _ :: _, [] => []
def diffLex2 : List Lat → List Val → List Val → List Val
 | p :: _, a :: _, b :: _ => [Wz p a b]
 | [], _, _ => []
 | _ :: _, [], _ => []
 | _ :: _, _ :: _, [] => []
end
def DfV (l : Lat) : Prop := Df (fun v => Yb l v = true) (leqV l) (Vk l) (botV l) (W4 l = true) (Wz l)
section
variable {k lo hi : Int} {ns : List ByteArray} {ps : List Lat} {rs : List Rl}
theorem Zr1 {a b : Val} (h : leqV (.mk k lo hi ns ps rs) a b = true) : Wz (.mk k lo hi ns ps rs) a b = botV (.mk k lo hi ns ps rs) := by rw [Wz, if_pos h]
theorem Zu2 {a b : Val} (hk : k = 1 ∨ k = 2 ∨ k = 3 ∨ k = 8 ∨ k = 10 ∨ k = 7 ∧ Zw2 a.parts b.parts = false) (h : leqV (.mk k lo hi ns ps rs) a b = false) : Wz (.mk k lo hi ns ps rs) a b = a := by
 rw [Wz, if_neg (by rw [h]; decide), if_neg (by omega), if_neg (by omega), if_neg (by omega), if_neg (fun h7 => by
  rcases hk with e | e | e | e | e | e
  · omega
  · omega
  · omega
  · omega
  · omega
  · rw [e.2] at h7; exact absurd h7.2 (by decide)), if_neg (by omega)]
theorem df_self (hd : ¬ (k = 8 ∨ k = 10) → ∀ a b : Val, Yb (.mk k lo hi ns ps rs) a = true → Yb (.mk k lo hi ns ps rs) b = true → leqV (.mk k lo hi ns ps rs) a b = true ∨ leqV (.mk k lo hi ns ps rs) b a = true) (hk : k = 1 ∨ k = 2 ∨ k = 3 ∨ k = 8 ∨ k = 10) (J : JlV (.mk k lo hi ns ps rs)) : DfV (.mk k lo hi ns ps rs) := by
 refine Df.of J (g := fun a _ => a) (fun a b _ _ => ?_) fun a b ha hb hn => ⟨ha, J.refl a ha, J.left a b ha hb, fun hq c hc h => ?_⟩
 · by_cases h : leqV (.mk k lo hi ns ps rs) a b = true
   · rw [if_pos h, Zr1 h]
   · rw [if_neg h, Zu2 (by omega) (by simpa using h)]
 · have h8 : ¬ (k = 8 ∨ k = 10) := fun e => by
    rw [W4, decide_eq_true e] at hq; cases hq
   rcases hd h8 c b hc hb with h1 | h1
   · rw [J.of_le hc hb h1, hn] at h; cases h
   · rw [J.of_ge hc hb h1] at h; exact h
end
theorem df_set {lo hi : Int} {ns : List ByteArray} {ps : List Lat} {rs : List Rl} : DfV (.mk 4 lo hi ns ps rs) := by
 refine Df.of jl_set (g := fun a b => .mk 0 (minS a.names b.names) [] []) (fun a b _ _ => by rw [Wz, if_pos (show (4 : Int) = 4 by rfl)]) fun a b ha hb _ => ?_
 rw [isE_4] at ha
 refine ⟨isE_4.2 ⟨⟨rfl, rfl, rfl⟩, Yh3 _ ha.2⟩, ?_, ?_, fun _ c _ h => ?_⟩
 · rw [U7 (.inl rfl)]; exact Yj.2 fun x hx => (Zp6.1 hx).1
 · rw [U7 (.inl rfl), joinV_4]
   exact Yj.2 fun x hx => Wj.2 (by
    by_cases h : x ∈ b.names
    · exact .inr h
    · exact .inl (Zp6.2 ⟨hx, h⟩))
 · rw [U7 (.inl rfl), joinV_4] at h
   rw [U7 (.inl rfl)]
   exact Yj.2 fun x hx => (Wj.1 (Yj.1 h x (Zp6.1 hx).1)).resolve_right (Zp6.1 hx).2
theorem reg_filter {l : List En} (f : En → Bool) (h : regB l = true) : regB (l.filter f) = true := by
 rw [Vt] at *
 exact ⟨fun e he => h.1 e (Z7.1 he).1, h.2.1.filter f, fun e he g hg => h.2.2 e (Z7.1 he).1 g (Z7.1 hg).1⟩
theorem df_register {lo hi : Int} {ns : List ByteArray} {ps : List Lat} {rs : List Rl} : DfV (.mk 9 lo hi ns ps rs) := by
 refine Df.of Yd2 (g := fun a b => .mk 0 [] [] (a.entries.filter fun x => !b.entries.any fun y => undE x y)) (fun a b _ _ => ?_) fun a b ha hb _ => ?_
 · by_cases h : leqV (.mk 9 lo hi ns ps rs) a b = true
   · rw [if_pos h, Zr1 h]
   · rw [if_neg h, Wz, if_neg h, if_neg (by decide), if_neg (by decide), if_neg (by decide), if_neg (fun h => absurd h.1 (by decide)), if_pos rfl]
 rw [isE_9] at ha hb
 have hm : ∀ x, x ∈ (a.entries.filter fun x => !b.entries.any fun y => undE x y) ↔ x ∈ a.entries ∧ ¬ ∃ y ∈ b.entries, undE x y = true := fun x => by
  rw [Z7, Z6, ← Bool.not_eq_true, List.any_eq_true]
 have hr : regB (a.entries.filter fun x => !b.entries.any fun y => undE x y) = true := reg_filter _ ha.2
 refine ⟨isE_9.2 ⟨⟨rfl, rfl, rfl⟩, hr⟩, ?_, ?_, fun _ c hc h => ?_⟩
 · rw [Zl2]; exact W3.2 fun p hp => ⟨p, ((hm p).1 hp).1, Uz.2 (.inl rfl)⟩
 · rw [Zl2, joinV_9]
   refine W3.2 fun p hp => ?_
   by_cases h : ∃ y ∈ b.entries, undE p y = true
   · obtain ⟨y, hy, h1⟩ := h
     obtain ⟨q, hq, h2⟩ := Zy2 hr hb.2 (.inr hy)
     exact ⟨q, hq, Yh5 h1 h2⟩
   · exact Zy2 hr hb.2 (.inl ((hm p).2 ⟨hp, h⟩))
 · rw [Zl2, joinV_9] at h
   rw [Zl2]
   refine W3.2 fun p hp => ?_
   obtain ⟨h1, h2⟩ := (hm p).1 hp
   obtain ⟨q, hq, h3⟩ := W3.1 h p h1
   rcases (Jb.1 hq).1 with h4 | h4
   · exact ⟨q, h4, h3⟩
   · exact absurd ⟨q, h4, h3⟩ h2
theorem Yr1 : ∀ (ps : List Lat) (_ : ∀ p ∈ ps, JlV p) (_ : ∀ p ∈ ps, DfV p), Df (PsE ps) (leqs ps) (Zx0 ps) (ps.map botV) (Vr ps = true) (Zr0 ps)
 | [], _, _ => {
   mem := fun a b ha hb => by rw [Zr0]; exact Zf8.2 rfl
   dle := fun a b _ _ => by rw [leqs]
   restore := fun a b _ _ => by rw [leqs]
   botd := fun a b _ _ _ => by rw [Zr0]; rfl
   least := fun _ a b c _ _ _ _ => by rw [leqs] }
 | p :: ps, HJ, HD => by
  have J := HD p (by simp)
  have K := Yr1 ps (fun q hq => HJ q (by simp [hq])) fun q hq => HD q (by simp [hq])
  exact {
   mem := fun a b ha hb => by
    obtain ⟨v, t, rfl, h1, h2⟩ := Yk.1 ha
    obtain ⟨v', t', rfl, h1', h2'⟩ := Yk.1 hb
    rw [Zr0]
    exact Yk.2 ⟨_, _, rfl, J.mem _ _ h1 h1', K.mem _ _ h2 h2'⟩
   dle := fun a b ha hb => by
    obtain ⟨v, t, rfl, h1, h2⟩ := Yk.1 ha
    obtain ⟨v', t', rfl, h1', h2'⟩ := Yk.1 hb
    rw [Zr0, leqs, J.dle _ _ h1 h1', K.dle _ _ h2 h2']; rfl
   restore := fun a b ha hb => by
    obtain ⟨v, t, rfl, h1, h2⟩ := Yk.1 ha
    obtain ⟨v', t', rfl, h1', h2'⟩ := Yk.1 hb
    rw [Zr0, Zx0, leqs, J.restore _ _ h1 h1', K.restore _ _ h2 h2']; rfl
   botd := fun a b ha hb x => by
    obtain ⟨v, t, rfl, h1, h2⟩ := Yk.1 ha
    obtain ⟨v', t', rfl, h1', h2'⟩ := Yk.1 hb
    rw [leqs, Z0] at x
    rw [Zr0, J.botd _ _ h1 h1' x.1, K.botd _ _ h2 h2' x.2]; rfl
   least := fun hq a b c ha hb hc x => by
    obtain ⟨v, t, rfl, h1, h2⟩ := Yk.1 ha
    obtain ⟨v', t', rfl, h1', h2'⟩ := Yk.1 hb
    obtain ⟨v2, t2, rfl, k1, k2⟩ := Yk.1 hc
    rw [Vr, Z0] at hq
    rw [Zx0, leqs, Z0] at x
    rw [Zr0, leqs, J.least hq.1 _ _ _ h1 h1' k1 x.1, K.least hq.2 _ _ _ h2 h2' k2 x.2]; rfl }
theorem Zi2 {l : Lat} (h : W4 l = true) : l.kind ≠ 8 ∧ l.kind ≠ 10 ∧ Vr l.parts = true := by
 obtain ⟨k, lo, hi, ns, ps, rs⟩ := l
 rw [W4, Z0, Z6, decide_eq_false_iff_not] at h
 exact ⟨fun e => h.1 (.inl e), fun e => h.1 (.inr e), h.2⟩
theorem Uh : ∀ {ps : List Lat}, Vr ps = true ↔ ∀ p ∈ ps, W4 p = true
 | [] => by rw [Vr]; simp
 | p :: t => by rw [Vr, Z0, Uh]; simp
theorem df_prod {lo hi : Int} {ns : List ByteArray} {ps : List Lat} {rs : List Rl} (HJ : ∀ p ∈ ps, JlV p) (HD : ∀ p ∈ ps, DfV p) : DfV (.mk 6 lo hi ns ps rs) := by
 have K := Yr1 ps HJ HD
 refine Df.of (jl_prod HJ) (g := fun a b => .mk 0 [] (Zr0 ps a.parts b.parts) []) (fun a b _ _ => ?_) fun a b ha hb _ => ?_
 · by_cases h : leqV (.mk 6 lo hi ns ps rs) a b = true
   · rw [if_pos h, Zr1 h]
   · rw [if_neg h, Wz, if_neg h, if_neg (by decide), if_neg (by decide), if_pos rfl]
 rw [el67 (.inl rfl)] at ha hb
 refine ⟨(el67 (.inl rfl)).2 ⟨K.mem _ _ ha.1 hb.1, rfl⟩, ?_, ?_, fun hq c hc h => ?_⟩
 · rw [Zg6]; exact K.dle _ _ ha.1 hb.1
 · rw [Zg6, joinV_6]; exact K.restore _ _ ha.1 hb.1
 · rw [el67 (.inl rfl)] at hc
   rw [Zg6, joinV_6] at h
   rw [Zg6]; exact K.least (Zi2 hq).2.2 _ _ _ ha.1 hb.1 hc.1 h
theorem diffV_lex {lo hi : Int} {ns : List ByteArray} {p q : Lat} {rs : List Rl} {x y : Val × Val} (h : leqV (.mk 7 lo hi ns [p, q] rs) (ofP x) (ofP y) = false) : Wz (.mk 7 lo hi ns [p, q] rs) (ofP x) (ofP y) = ofP (if x.1 = y.1 then (x.1, Wz q x.2 y.2) else x) := by
 have hh : Zw2 (ofP x).parts (ofP y).parts = decide (x.1 = y.1) := by
  show decide (valC x.1 y.1 = 0) = _
  simp only [Yo]
 by_cases e : x.1 = y.1
 · rw [Wz, if_neg (by rw [h]; decide), if_neg (by decide), if_neg (by decide), if_neg (by decide), if_pos ⟨rfl, by rw [hh, decide_eq_true e]⟩, if_pos e]
   show Val.mk 0 [] (diffLex [p, q] [x.1, x.2] [y.1, y.2]) [] = _
   rw [diffLex, diffLex2]; rfl
 · rw [Zu2 (.inr (.inr (.inr (.inr (.inr ⟨rfl, by rw [hh, decide_eq_false e]⟩))))) h, if_neg e]
theorem df_lex {lo hi : Int} {ns : List ByteArray} {p q : Lat} {rs : List Rl} (J : JlV p) (J' : JlV q) (D' : DfV q) (tot : TotV p) : DfV (.mk 7 lo hi ns [p, q] rs) := by
 have JL := jl_lexV (lo := lo) (hi := hi) (ns := ns) (rs := rs) J J' tot
 have hE : ∀ {x : Val × Val}, Yb p x.1 = true → Yb q x.2 = true → Yb (.mk 7 lo hi ns [p, q] rs) (ofP x) = true := fun h1 h2 => el_7.2 ⟨⟨h1, h2⟩, rfl⟩
 refine Df.of JL (g := fun a b => Wz (.mk 7 lo hi ns [p, q] rs) a b) (fun a b _ _ => ?_) fun a b ha hb hn => ?_
 · by_cases h : leqV (.mk 7 lo hi ns [p, q] rs) a b = true
   · rw [if_pos h, Zr1 h]
   · rw [if_neg h]
 have ha' := el_7.1 ha
 have hb' := el_7.1 hb
 rw [← ha'.2, ← hb'.2] at hn ⊢
 show Yb _ (Wz _ _ _) = true ∧ leqV _ (Wz _ _ _) _ = true ∧ leqV _ _ (Vk _ (Wz _ _ _) _) = true ∧ _
 rw [diffV_lex hn]
 generalize Jw a = x at *
 generalize Jw b = y at *
 obtain ⟨⟨a0, a1⟩, _⟩ := ha'
 obtain ⟨⟨b0, b1⟩, _⟩ := hb'
 rw [Xr] at hn
 by_cases e : x.1 = y.1
 · rw [if_pos e] at hn ⊢
   have hd : Yb q (Wz q x.2 y.2) = true := D'.mem _ _ a1 b1
   refine ⟨hE a0 hd, ?_, ?_, fun hq c hc h => ?_⟩
   · rw [Xr, if_pos rfl]; exact D'.dle _ _ a1 b1
   · rw [Zq5 tot (x := (x.1, Wz q x.2 y.2)) a0 b0, if_pos e, Xr, if_pos rfl]; exact D'.restore _ _ a1 b1
   · have hc' := el_7.1 hc
     rw [← hc'.2] at h ⊢
     generalize Jw c = z at *
     obtain ⟨⟨c0, c1⟩, _⟩ := hc'
     have hq' : W4 q = true := Uh.1 (Zi2 hq).2.2 q (by simp [Lat.parts])
     rw [Zq5 tot c0 b0] at h
     rw [Xr]
     by_cases e2 : z.1 = y.1
     · rw [if_pos e2, Xr, if_pos (e.trans e2.symm)] at h
       rw [if_pos (e.trans e2.symm)]
       exact D'.least hq' _ _ _ a1 b1 c1 h
     · rw [if_neg e2] at h
       rw [if_neg (show ¬ x.1 = z.1 from fun h => e2 (h.symm.trans e))]
       split at h
       · rw [Xr, if_pos e, hn] at h; cases h
       · rw [Xr, if_neg (show ¬ x.1 = z.1 from fun h => e2 (h.symm.trans e))] at h; exact h
 · rw [if_neg e] at hn ⊢
   refine ⟨hE a0 a1, JL.refl _ (hE a0 a1), JL.left _ _ (hE a0 a1) (hE b0 b1), fun hq c hc h => ?_⟩
   have hc' := el_7.1 hc
   rw [← hc'.2] at h ⊢
   generalize Jw c = z at *
   obtain ⟨⟨c0, c1⟩, _⟩ := hc'
   rw [Zq5 tot c0 b0] at h
   by_cases e2 : z.1 = y.1
   · rw [if_pos e2, Xr, if_neg (show ¬ x.1 = z.1 from fun h => e (h.trans e2)), e2, hn] at h; cases h
   · rw [if_neg e2] at h
     split at h
     · rw [Xr, if_neg e, hn] at h; cases h
     · exact h
theorem Zl3 {g : ByteArray → Val → Option Val} : ∀ {l : List (ByteArray × Val)} {s : ByteArray}, (l.map Z8).Pairwise ltS →
  getL ((l.filterMap fun x => (g x.1 x.2).map fun d => (x.1, d)).map Z8) ((l.filterMap fun x => (g x.1 x.2).map fun d => (x.1, d)).map Zc) s = (getL (l.map Z8) (l.map Zc) s).bind (g s)
 | [], s, _ => by simp [getL]
 | (n, v) :: t, s, h => by
  rw [Z3, Z1] at h
  have ih := Zl3 (g := g) (l := t) (s := s) h.2
  rw [Z3, Z3, getL]
  by_cases e : n = s
  · subst e
    rw [if_pos rfl]
    cases hg : g n v with
    | none =>
     simp only [Z5, hg, Option.map_none]
     rw [ih]
     have : getL (t.map Z8) (t.map Zc) n = none := (Zh1 (by simp)).2 fun hm => Vj n (h.1 n hm)
     rw [this]; exact hg.symm
    | some d =>
     simp only [Z5, hg, Option.map_some, Z3]
     rw [getL, if_pos rfl]; exact hg.symm
  · rw [if_neg e]
    cases hg : g n v with
    | none => simp only [Z5, hg, Option.map_none]; exact ih
    | some d =>
     simp only [Z5, hg, Option.map_some, Z3]
     rw [getL, if_neg e]; exact ih
theorem Zx2 : ∀ {ns : List ByteArray} {ps : List Val}, ns.length = ps.length → (ns.zip ps).map Z8 = ns ∧ (ns.zip ps).map Zc = ps
 | [], [], _ => ⟨rfl, rfl⟩
 | n :: ns, p :: ps, h => by
  have := Zx2 (ns := ns) (ps := ps) (by simpa using h)
  rw [List.zip_cons_cons, Z3, Z3, this.1, this.2]
  exact ⟨rfl, rfl⟩
 | [], _ :: _, h => by simp at h
 | _ :: _, [], h => by simp at h
def dfAt (bot : Val) (df : Val → Val → Val) (b : Val) (s : ByteArray) (v : Val) : Option Val := if df v ((getM b s).getD bot) = bot then none else some (df v ((getM b s).getD bot))
theorem getM_diff {only : List ByteArray} {E : Val → Prop} {bot : Val} {df : Val → Val → Val} {a b : Val} (ha : MapE only E bot a) (s : ByteArray) : getM (Zd2 bot df a b) s = (getM a s).bind (dfAt bot df b s) := by
 have hz := Zx2 ha.2.1
 have e : J4 bot df b (a.names.zip a.parts) = (a.names.zip a.parts).filterMap fun x => (dfAt bot df b x.1 x.2).map fun d => (x.1, d) := by
  unfold J4 dfAt
  congr 1
  funext x
  by_cases h : df x.2 ((getM b x.1).getD bot) = bot
  · rw [if_pos h, if_pos ((Yo _ _).2 h)]; rfl
  · rw [if_neg h, if_neg (fun q => h ((Yo _ _).1 q))]; rfl
 have e2 : getM (Zd2 bot df a b) s = getL ((J4 bot df b (a.names.zip a.parts)).map Z8) ((J4 bot df b (a.names.zip a.parts)).map Zc) s := rfl
 rw [e2, e, Zl3 (g := dfAt bot df b) (by rw [hz.1]; exact ha.sorted), hz.1, hz.2]
 rfl
theorem sub_keys {only : List ByteArray} {E : Val → Prop} {bot : Val} {df : Val → Val → Val} {a b : Val} (ha : MapE only E bot a) : (Zd2 bot df a b).names.Sublist a.names := by
 have hz := Zx2 ha.2.1
 have key : ∀ l : List (ByteArray × Val), ((J4 bot df b l).map Z8).Sublist (l.map Z8) := fun l => by
  unfold J4
  induction l with
  | nil => exact .slnil
  | cons x t ih =>
   rw [Z5]
   split
   · rename_i h; exact ih.cons _
   · rename_i y h
     split at h
     · cases h
     · cases h; exact ih.cons_cons _
 have := key (a.names.zip a.parts)
 rw [hz.1] at this
 exact this
theorem df_map {lo hi : Int} {ns : List ByteArray} {p : Lat} {rs : List Rl} (J : JlV p) (D : DfV p) : DfV (.mk 5 lo hi ns [p] rs) := by
 refine Df.of (jl_map J) (g := Zd2 (botV p) (Wz p)) (fun a b _ _ => ?_) fun a b ha hb hn => ?_
 · by_cases h : leqV (.mk 5 lo hi ns [p] rs) a b = true
   · rw [if_pos h, Zr1 h]
   · rw [if_neg h, Wz, if_neg h, if_neg (by decide), if_pos rfl, diffMap]
 rw [V5] at ha hb
 have hg := fun s => getM_diff (df := Wz p) (b := b) ha s
 have hbs : ∀ s, Yb p ((getM b s).getD (botV p)) = true := fun s => by
  cases hw : getM b s with
  | none => exact J.bmem
  | some w => exact (hb.get hw).1
 have hm : MapE ns (fun v => Yb p v = true) (botV p) (Zd2 (botV p) (Wz p) a b) := by
  refine ⟨⟨rfl, rfl⟩, by show (List.map _ _).length = (List.map _ _).length; rw [Za, Za], Xb.2 ⟨ha.sorted.sublist (sub_keys ha), fun x hx => (Xb.1 ha.2.2.1).2 x ((sub_keys ha).subset hx)⟩, fun d hd => ?_⟩
  obtain ⟨x, hx, rfl⟩ := List.mem_map.1 hd
  obtain ⟨y, hy, hxy⟩ := List.mem_filterMap.1 hx
  split at hxy
  · cases hxy
  · rename_i h
    cases hxy
    exact ⟨D.mem _ _ (ha.2.2.2 _ (Z9 hy).2).1 (hbs _), fun e => h ((Yo _ _).2 e)⟩
 refine ⟨V5.2 hm, ?_, ?_, fun hq c hc h => ?_⟩
 · rw [Zv8, Xl hm.sorted]
   intro s d hd
   rw [hg] at hd
   cases hv : getM a s with
   | none => rw [hv] at hd; cases hd
   | some v =>
    rw [hv] at hd
    have hd : dfAt (botV p) (Wz p) b s v = some d := hd
    unfold dfAt at hd
    split at hd
    · cases hd
    · cases hd; exact ⟨v, rfl, D.dle _ _ (ha.get hv).1 (hbs s)⟩
 · rw [Zv8, joinV_5, Xl ha.sorted]
   intro s v hv
   rw [Zh0 (Vk p) hm hb, hg, hv]
   show ∃ w, cmbM (Vk p) (dfAt (botV p) (Wz p) b s v) (getM b s) = some w ∧ _
   have hr := D.restore v _ (ha.get hv).1 (hbs s)
   unfold dfAt
   split
   · rename_i h0
     rw [h0, J.bot_left (hbs s)] at hr
     cases hw : getM b s with
     | none =>
      rw [hw] at hr
      exact absurd ((J.is_bot (ha.get hv).1).1 hr) (ha.get hv).2
     | some w => rw [hw] at hr; exact ⟨w, rfl, hr⟩
   · cases hw : getM b s with
     | none =>
      rw [hw] at hr
      have h1 := D.mem v (botV p) (ha.get hv).1 J.bmem
      rw [show Vk p (Wz p v ((none : Option Val).getD (botV p))) ((none : Option Val).getD (botV p)) = Wz p v (botV p) from J.of_ge h1 J.bmem (J.bot _ h1)] at hr
      exact ⟨_, rfl, hr⟩
     | some w => rw [hw] at hr; exact ⟨_, rfl, hr⟩
 · rw [V5] at hc
   rw [Zv8, joinV_5, Xl ha.sorted] at h
   rw [Zv8, Xl hm.sorted]
   intro s d hd
   have hq' : W4 p = true := Uh.1 (Zi2 hq).2.2 p (by simp [Lat.parts])
   rw [hg] at hd
   cases hv : getM a s with
   | none => rw [hv] at hd; cases hd
   | some v =>
    rw [hv] at hd
    have hd : dfAt (botV p) (Wz p) b s v = some d := hd
    unfold dfAt at hd
    split at hd
    · cases hd
    · rename_i h0
      cases hd
      obtain ⟨w, hw, h1⟩ := h s v hv
      rw [Zh0 (Vk p) hc hb] at hw
      have hve := (ha.get hv).1
      cases hu : getM c s with
      | none =>
       rw [hu] at hw
       have hw : getM b s = some w := hw
       rw [hw] at h0
       exact absurd (D.botd v w hve (hb.get hw).1 h1) h0
      | some u =>
       refine ⟨u, rfl, D.least hq' _ _ _ hve (hbs s) (hc.get hu).1 ?_⟩
       rw [hu] at hw
       cases hx : getM b s with
       | none =>
        rw [hx] at hw
        have hw : u = w := Option.some.inj hw
        rw [← hw] at h1
        show leqV p v (Vk p u (botV p)) = true
        rw [J.of_ge (hc.get hu).1 J.bmem (J.bot _ (hc.get hu).1)]; exact h1
       | some x => rw [hx] at hw; cases hw; exact h1
theorem dfV (f : Nat) : ∀ l : Lat, SizeOf.sizeOf l ≤ f → WfL l → DfV l := by
 induction f with
 | zero => intro l hn; cases l; simp at hn
 | succ f ih =>
  intro l hn hwf
  have hk := hwf.kinds
  have hJ := hwf.jl
  have hp : ∀ p ∈ l.parts, DfV p := fun p hp => ih p (by have := Yz hp; omega) (hwf.part hp)
  have hj : ∀ p ∈ l.parts, JlV p := fun p hp => (hwf.part hp).jl
  have hc := hwf.chain
  obtain ⟨k, lo, hi, ns, ps, rs⟩ := l
  simp only [Lat.kind, Lat.lo, Lat.hi, Lat.names, Lat.parts, Lat.rules] at hk hp hj hc
  have hkk : (k = 1 ∨ k = 2 ∨ k = 3) ∨ k = 4 ∨ k = 5 ∨ k = 6 ∨ k = 7 ∨ (k = 8 ∨ k = 10) ∨ k = 9 := by omega
  rcases hkk with h | rfl | rfl | rfl | rfl | h | rfl
  · exact df_self (fun _ a b ha hb => tot_n h a b ha hb) (by omega) hJ
  · exact df_set
  · obtain ⟨p, rfl⟩ := List.length_eq_one_iff.1 (hk.2.1 rfl)
    exact df_map (hj p (by simp)) (hp p (by simp))
  · exact df_prod hj hp
  · obtain ⟨p, q, rfl, h1⟩ := hc rfl
    exact df_lex (hj p (by simp)) (hj q (by simp)) (hp q (by simp)) (tot_chain _ p (Zb _) h1)
  · exact df_self (fun h' => absurd h h') (by omega) hJ
  · exact df_register
theorem WfL.df {l : Lat} (h : WfL l) : DfV l := dfV _ l (Zb _) h
end
end Go.Proofs.YtbhkcbidcfofiaaGreat
