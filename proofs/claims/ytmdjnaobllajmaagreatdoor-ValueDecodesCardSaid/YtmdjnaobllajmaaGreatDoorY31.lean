/-
  What the statements of the chapter share, part 31: K6, K7.
-/
import Derived.Test.YtmdjnaobllajmaaGreatDoorY30
set_option linter.unusedVariables false
set_option linter.unusedSimpArgs false
set_option maxRecDepth 100000
set_option maxHeartbeats 8000000
namespace Go.Proofs.YtmdjnaobllajmaaGreatDoor
open _root_.Array renaming getD_eq_getD_getElem? → Z0, getElem?_eq_some_iff → Z1, getElem?_replicate → Z7
open _root_.List renaming getElem?_eq_getElem → Z3, mem_cons → Z5
open _root_.Nat renaming beq → Z2, ble → Z4, zero_add → Z6
open Go.RowKit
section
variable {P : Program} {G : Nat → D} {n : Nat} {h : List Ob} {t : Tr}
inductive Rs where
 | no
 | mk (e : Exit) (t : Tr) (h : List Ob)
noncomputable def putK {α : Type} (n : Nat) (t : Tr) (dst : Option Nat) (d : D) (z : α) (f : Tr → α) : α := @Option.rec Nat (fun _ => α) (f t) (fun i => bc (Z4 (Nat.succ i) n) (bc (Z4 i 4094) (f (setK t i d)) z) (f t)) dst
theorem Zl0 {α : Type} {dst : Option Nat} {d : D} {z r : α} {f : Tr → α} (q : putK n t dst d z f = r) (hz : z ≠ r) : ∃ t', t'.get = putE n t.get dst d ∧ f t' = r := by
 cases dst with
 | none => exact ⟨t, rfl, q⟩
 | some i =>
  have q : bc (Z4 (i + 1) n) (bc (Z4 i 4094) (f (setK t i d)) z) (f t) = r := q
  rw [bleE, bleE] at q
  by_cases h1 : i + 1 ≤ n
  · rw [decide_eq_true h1] at q
    by_cases h2 : i ≤ 4094
    · rw [decide_eq_true h2] at q
      refine ⟨_, ?_, q⟩
      unfold putE
      simp only [if_pos (show i < n by omega)]
      funext j
      rw [Zr2 t i d j (by omega)]; rfl
    · rw [decide_eq_false h2] at q; exact absurd q hz
  · rw [decide_eq_false h1] at q
    exact ⟨t, by unfold putE; simp only [if_neg (show ¬ i < n by omega)], q⟩
noncomputable def gdK {α : Type} (ops : Array Oper) (t : Tr) (g : Option (Nat × Bool)) (z f1 f0 : α) : α := @Option.rec (Nat × Bool) (fun _ => α) f1 (fun g => @Option.rec Bool (fun _ => α) z (fun b => bc b f1 f0) (Yo ops (some g) (getK t))) g
theorem gdK_spec {α : Type} {ops : Array Oper} {g : Option (Nat × Bool)} {z f1 f0 r : α} (q : gdK ops t g z f1 f0 = r) (hz : z ≠ r) : (Yo ops g t.get = some true ∧ f1 = r) ∨ (Yo ops g t.get = some false ∧ f0 = r) := by
 cases g with
 | none => exact .inl ⟨rfl, q⟩
 | some g =>
  have q : @Option.rec Bool (fun _ => α) z (fun b => bc b f1 f0) (Yo ops (some g) (getK t)) = r := q
  rw [Zs8] at q
  cases hw : Yo ops (some g) t.get with
  | none => rw [hw] at q; exact absurd q hz
  | some b =>
   rw [hw] at q
   cases b
   · exact .inr ⟨rfl, q⟩
   · exact .inl ⟨rfl, q⟩
inductive Sr where
 | no
 | mk (t : Tr) (h : List Ob)
noncomputable def seqK (P : Program) (G : Nat → D) (cal : Cal) (n : Nat) (ops : Array Oper) (l : List Oper) : Tr → List Ob → Sr := @List.rec Oper (fun _ => Tr → List Ob → Sr) (fun t h => .mk t h)
 (fun o _ ih t h => gdK ops t o.guard .no
  (@Kd.casesOn (fun _ => Sr) (dispK o.op P G t h) (fun d => putK n t o.dst d .no fun t' => ih t' h) (fun _ d => putK n t o.dst d .no fun t' => ih t' h) (fun i ob' => putK n t o.dst (.v undef) .no fun t' => ih t' (h.set i ob'))
   (bc (isCallK o.op) (@Er.casesOn (fun _ => Sr) (effC G cal t h o.op) .no fun E h' => putK n t o.dst E.d .no fun t' => ih t' h')
    (@Option.rec (List Ob × D) (fun _ => Sr) .no (fun r => @Prod.casesOn (List Ob) D (fun _ => Sr) r fun h' d => putK n t o.dst d .no fun t' => ih t' h') (xF P G (getK t) h o.op))))
  (putK n t o.dst (.v undef) .no fun t' => ih t' h)) l
theorem seqK_ok (hG : ∀ g, low 0 (G g)) {cal : Cal} (hc : Ya5 P G cal) {ops : Array Oper} {t' : Tr} {h' : List Ob} {Q : S → Prop} (k : Q ⟨n, t'.get, h'⟩) : ∀ (l : List Oper) (t : Tr) (h : List Ob), seqK P G cal n ops l t h = .mk t' h' → ao P G ops l Q ⟨n, t.get, h⟩
 | [], t, h, q => by cases q; exact Yr k
 | o :: rest, t, h, q => by
  have nn : Sr.no ≠ .mk t' h' := fun h => by cases h
  rcases gdK_spec (z := Sr.no) q nn with ⟨hw, q⟩ | ⟨hw, q⟩
  · have kk : KOk P G o t h (dispK o.op P G t h) := by obtain ⟨dst, op, ty, pos, aft, gd⟩ := o; exact dispK_ok
    have go : ∀ (h2 : List Ob) (d : D), OpTri P G o ((opds o.op).map (ev G t.get)) h (fun h1 d1 => h1 = h2 ∧ d1 = d) → putK n t o.dst d Sr.no (fun t2 => seqK P G cal n ops rest t2 h2) = .mk t' h' → ao P G ops (o :: rest) Q ⟨n, t.get, h⟩ := fun h2 d tri q => by
     obtain ⟨t2, e, q⟩ := Zl0 q nn
     have := seqK_ok hG hc k rest t2 h2 q
     rw [e] at this
     exact ao_tri hw tri this
    cases hd : dispK o.op P G t h with
    | pu d => rw [hd] at q kk; exact go h d (kk h) q
    | re i d =>
     rw [hd] at q kk
     obtain ⟨ob, hi, kk⟩ := kk
     exact go h d (kk h hi) q
    | st i ob' =>
     rw [hd] at q kk
     obtain ⟨ob, hi, kk⟩ := kk
     exact go _ _ (kk h hi) q
    | gen =>
     rw [hd] at q
     have q : bc (isCallK o.op) _ _ = Sr.mk t' h' := q
     cases hcall : isCallK o.op
     · rw [hcall] at q
       have q : @Option.rec (List Ob × D) (fun _ => Sr) .no _ (xF P G (getK t) h o.op) = Sr.mk t' h' := q
       rw [Zs8] at q
       cases hx : xF P G t.get h o.op with
       | none => rw [hx] at q; cases q
       | some r =>
        rw [hx] at q
        obtain ⟨h2, d⟩ := r
        exact go h2 d (xF_sound hx) q
     · rw [hcall] at q
       have q : @Er.casesOn (fun _ => Sr) (effC G cal t h o.op) .no _ = Sr.mk t' h' := q
       cases he : effC G cal t h o.op with
       | no => rw [he] at q; cases q
       | mk E h2 =>
        rw [he] at q
        exact go h2 E.d (effOk_tri (effC_ok hG hc hcall he)) q
  · obtain ⟨t2, e, q⟩ := Zl0 q nn
    have := seqK_ok hG hc k rest t2 h q
    rw [e] at this
    exact ao_triN hw this
inductive Dr where
 | no
 | mk (t : Tr) (h : List Ob) (es : List Ef)
noncomputable def dcons (E : Ef) (r : Dr) : Dr := @Dr.casesOn (fun _ => Dr) r .no fun t h es => .mk t h (E :: es)
noncomputable def drawK (P : Program) (G : Nat → D) (cal : Cal) (n : Nat) (ops : Array Oper) (l : List Oper) : Tr → List Ob → Dr := @List.rec Oper (fun _ => Tr → List Ob → Dr) (fun t h => .mk t h [])
 (fun o _ ih t h => gdK ops t o.guard .no
  (@Er.casesOn (fun _ => Dr) (effK P G cal t h o.op) .no fun E h' => putK n t o.dst E.d .no fun t' => dcons E (ih t' h'))
  (putK n t o.dst (.v undef) .no fun t' => dcons nopF (ih t' h))) l
theorem dcons_mk {E : Ef} {r : Dr} {h : List Ob} {es : List Ef} (q : dcons E r = .mk t h es) : ∃ es', es = E :: es' ∧ r = .mk t h es' := by
 cases r with
 | no => cases q
 | mk a b c => cases q; exact ⟨c, rfl, rfl⟩
theorem Yj6 (hG : ∀ g, low 0 (G g)) {cal : Cal} (hc : Ya5 P G cal) {ops : Array Oper} : ∀ (l : List Oper) (t : Tr) (h : List Ob) (t' : Tr) (h' : List Ob) (es : List Ef), drawK P G cal n ops l t h = .mk t' h' es → es.length = l.length ∧ h.length ≤ h'.length ∧
 ∀ (ef : Nat → Ef) (k : Nat), (∀ j E, es[j]? = some E → ef (k + j) = E) → ∀ T, h'.length - h.length ≤ T → ∀ Q : (Nat → D) → List Ob → Prop, Q t'.get (h' ++ holes (T - (h'.length - h.length))) → af P G n ops ef Q k l t.get (h ++ holes T)
 | [], t, h, t', h', es, q => by
  cases q
  exact ⟨rfl, Nat.le_refl _, fun ef k _ T hT Q hQ => by rw [af]; simpa using hQ⟩
 | o :: rest, t, h, t', h', es, q => by
  have nn : Dr.no ≠ .mk t' h' es := fun h => by cases h
  rcases gdK_spec (z := Dr.no) q nn with ⟨hw, q⟩ | ⟨hw, q⟩
  · have q : @Er.casesOn (fun _ => Dr) (effK P G cal t h o.op) .no _ = Dr.mk t' h' es := q
    cases he : effK P G cal t h o.op with
    | no => rw [he] at q; cases q
    | mk E h2 =>
     rw [he] at q
     obtain ⟨t2, e, q⟩ := Zl0 (z := Dr.no) q nn
     obtain ⟨es', hes, q2⟩ := dcons_mk q
     subst hes
     obtain ⟨a1, a2, a3⟩ := Yj6 hG hc rest t2 h2 t' h' es' q2
     obtain ⟨y, le, z⟩ := effK_ok hG hc he
     refine ⟨by simp [a1], by omega, fun ef k hef T hT Q hQ => ?_⟩
     have hE0 : ef k = E := hef 0 E rfl
     obtain ⟨z1, z2⟩ := z T (by omega)
     rw [af, hE0]
     refine ⟨.inl ⟨hw, y⟩, z1, ?_⟩
     rw [z2, ← e]
     refine a3 ef (k + 1) (fun j E' hj => by rw [show k + 1 + j = k + (j + 1) by omega]; exact hef (j + 1) E' (by simpa using hj)) _ (by omega) Q ?_
     rw [show T - (h2.length - h.length) - (h'.length - h2.length) = T - (h'.length - h.length) by omega]; exact hQ
  · obtain ⟨t2, e, q⟩ := Zl0 (z := Dr.no) q nn
    obtain ⟨es', hes, q2⟩ := dcons_mk q
    subst hes
    obtain ⟨a1, a2, a3⟩ := Yj6 hG hc rest t2 h t' h' es' q2
    refine ⟨by simp [a1], a2, fun ef k hef T hT Q hQ => ?_⟩
    have hE0 : ef k = nopF := hef 0 nopF rfl
    rw [af, hE0]
    refine ⟨.inr ⟨hw, rfl⟩, by simp [nopF, Ef.ok], ?_⟩
    have e1 : nopF.heap (h ++ holes T) = h ++ holes T := by simp [nopF, Ef.heap, Xc]
    rw [e1]
    show af P G n ops ef Q (k + 1) rest (putE n t.get o.dst (.v undef)) _
    rw [← e]
    exact a3 ef (k + 1) (fun j E' hj => by rw [show k + 1 + j = k + (j + 1) by omega]; exact hef (j + 1) E' (by simpa using hj)) T hT Q hQ
/-! May the operations change places? Only those that write are looked at. -/
noncomputable def ap1 (k : Nat) (b : List (Nat × Ob)) : Bool := @List.rec (Nat × Ob) (fun _ => Bool) true (fun y _ ih2 => bc (Z2 k y.1) false ih2) b
noncomputable def apK (a b : List (Nat × Ob)) : Bool := @List.rec (Nat × Ob) (fun _ => Bool) true (fun x _ ih => bc (ap1 x.1 b) ih false) a
theorem ap1_spec (k : Nat) : ∀ b : List (Nat × Ob), ap1 k b = true → ∀ y ∈ b, k ≠ y.1
 | [], _, y, hy => by simp at hy
 | w :: b, q, y, hy => by
  have q : bc (Z2 k w.1) false (ap1 k b) = true := q
  rw [Vj] at q
  cases hw : Z2 k w.1
  · rw [hw] at q
    rcases Z5.1 hy with rfl | hy
    · exact bqF hw
    · exact ap1_spec k b q y hy
  · rw [hw] at q; cases q
theorem apK_spec : ∀ (a b : List (Nat × Ob)), apK a b = true → ∀ x ∈ a, ∀ y ∈ b, x.1 ≠ y.1
 | [], _, _, x, hx => by simp at hx
 | z :: a, b, q, x, hx => by
  have q : bc (ap1 z.1 b) (apK a b) false = true := q
  rw [Vj] at q
  cases hz : ap1 z.1 b
  · rw [hz] at q; cases q
  · rw [hz] at q
    rcases Z5.1 hx with rfl | hx
    · exact ap1_spec _ _ hz
    · exact apK_spec a b q x hx
noncomputable def chkR (ops : Array Oper) (i : Nat) (W : List (Nat × Ob)) (es : List Ef) : Nat → Bool := @List.rec Ef (fun _ => Nat → Bool) (fun _ => true) (fun F _ ih j => bc (bc (Z2 i j) true (bc (apK W F.R) true (bc (Z4 i j) (twB .any ops 12 j i) (twB .any ops 12 i j)))) (ih (Nat.add j 1)) false) es
noncomputable def chkK (ops : Array Oper) (all es : List Ef) : Nat → Bool := @List.rec Ef (fun _ => Nat → Bool) (fun _ => true) (fun E _ ih i => bc (@List.casesOn (Nat × Ob) (fun _ => Bool) E.W true fun _ _ => chkR ops i E.W all 0) (ih (Nat.add i 1)) false) es
theorem Zz5 {ops : Array Oper} {i : Nat} {W : List (Nat × Ob)} : ∀ (es : List Ef) (k j : Nat) (F : Ef), chkR ops i W es k = true → es[j]? = some F → i ≠ k + j → (∀ x ∈ W, ∀ y ∈ F.R, x.1 ≠ y.1) ∨ (i < k + j ∧ twB .any ops 12 (k + j) i = true) ∨ (k + j < i ∧ twB .any ops 12 i (k + j) = true)
 | [], _, _, _, _, q, _ => by simp at q
 | F :: es, k, j, F', q, r, hne => by
  have q : bc (bc (Z2 i k) true (bc (apK W F.R) true (bc (Z4 i k) (twB .any ops 12 k i) (twB .any ops 12 i k)))) (chkR ops i W es (k + 1)) false = true := q
  rw [Vj, Vj, Vj, Vj] at q
  cases j with
  | zero =>
   simp at r; subst r
   rw [Nat.add_zero] at hne ⊢
   have hb : Z2 i k = false := by rw [bqE]; exact decide_eq_false hne
   rw [hb] at q
   simp only [cond_false] at q
   cases ha : apK W F.R
   · rw [ha] at q
     simp only [cond_false] at q
     rw [bleE] at q
     by_cases hle : i ≤ k
     · rw [decide_eq_true hle] at q
       simp only [cond_true] at q
       refine .inr (.inl ⟨by omega, ?_⟩)
       cases ht : twB .any ops 12 k i
       · rw [ht] at q; cases q
       · rfl
     · rw [decide_eq_false hle] at q
       simp only [cond_false] at q
       refine .inr (.inr ⟨by omega, ?_⟩)
       cases ht : twB .any ops 12 i k
       · rw [ht] at q; cases q
       · rfl
   · exact .inl (apK_spec _ _ ha)
  | succ j =>
   rw [show k + (j + 1) = k + 1 + j by omega] at hne ⊢
   refine Zz5 es (k + 1) j F' ?_ (by simpa using r) hne
   generalize (bif Z2 i k then true else _ : Bool) = b at q
   cases b
   · cases q
   · exact q
theorem Zz6 {ops : Array Oper} {all : List Ef} : ∀ (es : List Ef) (k i : Nat) (E : Ef), chkK ops all es k = true → es[i]? = some E → E.W = [] ∨ chkR ops (k + i) E.W all 0 = true
 | [], _, _, _, _, q => by simp at q
 | F :: es, k, i, E, q, r => by
  have q : bc (@List.casesOn (Nat × Ob) (fun _ => Bool) F.W true fun _ _ => chkR ops k F.W all 0) (chkK ops all es (k + 1)) false = true := q
  rw [Vj] at q
  cases hW : (@List.casesOn (Nat × Ob) (fun _ => Bool) F.W true fun _ _ => chkR ops k F.W all 0 : Bool)
  · rw [hW] at q; cases q
  rw [hW] at q
  cases i with
  | zero =>
   simp at r; subst r
   rw [Nat.add_zero]
   cases hw : F.W with
   | nil => exact .inl rfl
   | cons a b => rw [hw] at hW; exact .inr hW
  | succ i => rw [show k + (i + 1) = k + 1 + i by omega]; exact Zz6 es (k + 1) i E q (by simpa using r)
theorem chkK_comp {ops : Array Oper} {es : List Ef} (q : chkK ops es es 0 = true) {i j : Nat} {E F : Ef} (hi : es[i]? = some E) (hj : es[j]? = some F) (hlt : i < j) : twB .any ops 12 j i = true ∨ compF E F := by
 have h1 := Zz6 es 0 i E q hi
 have h2 := Zz6 es 0 j F q hj
 rw [Z6] at h1 h2
 by_cases ht : twB .any ops 12 j i = true
 · exact .inl ht
 · right
   constructor
   · rcases h1 with h1 | h1
     · rw [h1]; intro x hx; simp at hx
     · rcases Zz5 es 0 j F h1 hj (by omega) with h | ⟨_, h⟩ | ⟨h, _⟩
       · exact h
       · rw [Z6] at h; exact absurd h ht
       · omega
   · rcases h2 with h2 | h2
     · rw [h2]; intro x hx; simp at hx
     · rcases Zz5 es 0 i E h2 hi (by omega) with h | ⟨h, _⟩ | ⟨_, h⟩
       · exact h
       · omega
       · rw [Z6] at h; exact absurd h ht
/-! The text's order is one of the orders, and what waits for nothing stands apart. -/
noncomputable def onsK (l : List Edge) : List Nat := @List.rec Edge (fun _ => List Nat) [] (fun e _ ih => bc (Region.binds .any e) (e.on :: ih) ih) l
theorem Yh8 : ∀ (l : List Edge) (x : Nat), x ∈ onsK l ↔ ∃ e ∈ l, Region.binds .any e = true ∧ e.on = x
 | [], x => by simp [onsK]
 | e :: l, x => by
  show x ∈ bc (Region.binds .any e) (e.on :: onsK l) (onsK l) ↔ _
  rw [Vj]
  have ih := Yh8 l x
  cases hb : Region.binds .any e
  · simp only [cond_false, ih]
    constructor
    · rintro ⟨y, h1, h2⟩; exact ⟨y, by simp [h1], h2⟩
    · rintro ⟨y, h1, h2, h3⟩
      rcases Z5.1 h1 with rfl | h1
      · rw [hb] at h2; cases h2
      · exact ⟨y, h1, h2, h3⟩
  · simp only [cond_true, Z5, ih]
    constructor
    · rintro (rfl | ⟨y, h1, h2⟩)
      · exact ⟨e, by simp, hb, rfl⟩
      · exact ⟨y, by simp [h1], h2⟩
    · rintro ⟨y, h1, h2, h3⟩
      rcases h1 with rfl | h1
      · exact .inl h3.symm
      · exact .inr ⟨y, h1, h2, h3⟩
noncomputable def memO (d : Option Nat) (l : List Nat) : Bool := @Option.rec Nat (fun _ => Bool) false (fun i => memK i l) d
noncomputable def eqO (a b : Option Nat) : Bool := @Option.rec Nat (fun _ => Bool) false (fun i => @Option.rec Nat (fun _ => Bool) false (fun j => Z2 i j) b) a
noncomputable def apartK (d : Option Nat) (l : List Nat) (d2 : Option Nat) (l2 : List Nat) : Bool := bc (memO d l2) false (bc (eqO d d2) false (bc (memO d2 l) false true))
structure Seen where
 k : Nat
 d : Option Nat
 l : List Nat
noncomputable def lexQ (ops : Array Oper) (l : List Oper) : Nat → List Seen → Bool := @List.rec Oper (fun _ => Nat → List Seen → Bool) (fun _ _ => true)
 (fun o _ ih j acc => (fun ons lk => bc (@List.rec Nat (fun _ => Bool) true (fun k _ ih2 => bc (Z4 (Nat.succ k) j) ih2 false) ons)
   (bc (@List.rec Seen (fun _ => Bool) true (fun s _ ih2 => bc (bc (memK s.k ons) true (apartK s.d s.l o.dst lk)) ih2 false) acc) (ih (Nat.add j 1) (⟨j, o.dst, lk⟩ :: acc)) false) false) (onsK o.after.toList) (o.looksAt ops)) l
theorem apartK_spec {x y : Oper} {ops : Array Oper} (q : apartK x.dst (x.looksAt ops) y.dst (y.looksAt ops) = true) : x.apart ops y = true := by
 unfold apartK at q
 rw [Vj, Vj, Vj] at q
 have mem : ∀ (i : Nat) (l : List Nat), memK i l = l.contains i := fun i l => by
  rw [Yi4, Bool.eq_iff_iff, Zs6]; simp
 cases hx : x.dst with
 | none =>
  cases hy : y.dst with
  | none => unfold Oper.apart; rw [hx, hy]; rfl
  | some e =>
   rw [hx, hy] at q
   simp only [memO, eqO, cond_false, mem] at q
   unfold Oper.apart; rw [hx, hy]
   cases hc : (x.looksAt ops).contains e
   · simp only [hc]; rfl
   · rw [hc] at q; cases q
 | some d =>
  rw [hx] at q
  simp only [memO, mem] at q
  cases hc : (y.looksAt ops).contains d
  rotate_left
  · rw [hc] at q; cases q
  rw [hc] at q
  simp only [cond_false] at q
  cases hy : y.dst with
  | none => unfold Oper.apart; rw [hx, hy]; simp only [hc]; rfl
  | some e =>
   rw [hy] at q
   simp only [eqO] at q
   cases hde : Z2 d e
   rotate_left
   · rw [hde] at q; cases q
   rw [hde] at q
   simp only [cond_false] at q
   cases hc2 : (x.looksAt ops).contains e
   rotate_left
   · rw [hc2] at q; cases q
   have hne := bqF hde
   unfold Oper.apart; rw [hx, hy]; simp only [hc, hc2]
   simp; exact Ne.symm hne
structure LexOk (ops : Array Oper) : Prop where
 back : ∀ j oj, ops[j]? = some oj → ∀ e ∈ oj.after, Region.binds .any e = true → e.on < j
 apart : ∀ i j oi oj, i < j → ops[i]? = some oi → ops[j]? = some oj → (∀ e ∈ oj.after, Region.binds .any e = true → e.on ≠ i) → oi.apart ops oj = true
theorem lexQ_spec {ops : Array Oper} : ∀ (l : List Oper) (j : Nat) (acc : List Seen), lexQ ops l j acc = true → (∀ i, l[i]? = ops[j + i]?) → (∀ i oi, i < j → ops[i]? = some oi → ⟨i, oi.dst, oi.looksAt ops⟩ ∈ acc) →
 ∀ i oi, l[i]? = some oi → (∀ e ∈ oi.after, Region.binds .any e = true → e.on < j + i) ∧ ∀ k ok, k < j + i → ops[k]? = some ok → (∀ e ∈ oi.after, Region.binds .any e = true → e.on ≠ k) → ok.apart ops oi = true
 | [], _, _, _, _, _, _, _, q => by simp at q
 | o :: l, j, acc, q, hl, hacc, i, oi, hi => by
  have q : bc (@List.rec Nat (fun _ => Bool) true (fun k _ ih2 => bc (Z4 (Nat.succ k) j) ih2 false) (onsK o.after.toList))
   (bc (@List.rec Seen (fun _ => Bool) true (fun s _ ih2 => bc (bc (memK s.k (onsK o.after.toList)) true (apartK s.d s.l o.dst (o.looksAt ops))) ih2 false) acc) (lexQ ops l (j + 1) (⟨j, o.dst, o.looksAt ops⟩ :: acc)) false) false = true := q
  rw [Vj, Vj] at q
  have hA : ∀ ons : List Nat, @List.rec Nat (fun _ => Bool) true (fun k _ ih2 => bc (Z4 (Nat.succ k) j) ih2 false) ons = true → ∀ k ∈ ons, k < j := fun ons => by
   induction ons with
   | nil => intro _ k hk; simp at hk
   | cons a ons ih =>
    intro h k hk
    have h : bc (Z4 (a + 1) j) (@List.rec Nat (fun _ => Bool) true (fun k _ ih2 => bc (Z4 (Nat.succ k) j) ih2 false) ons) false = true := h
    rw [Vj, bleE] at h
    by_cases ha : a + 1 ≤ j
    · rw [decide_eq_true ha] at h
      rcases Z5.1 hk with rfl | hk
      · omega
      · exact ih h k hk
    · rw [decide_eq_false ha] at h; cases h
  have hB : ∀ acc : List Seen, @List.rec Seen (fun _ => Bool) true (fun s _ ih2 => bc (bc (memK s.k (onsK o.after.toList)) true (apartK s.d s.l o.dst (o.looksAt ops))) ih2 false) acc = true → ∀ s ∈ acc, memK s.k (onsK o.after.toList) = true ∨ apartK s.d s.l o.dst (o.looksAt ops) = true := fun acc => by
   induction acc with
   | nil => intro _ k hk; simp at hk
   | cons a acc ih =>
    intro h s hs
    have h : bc (bc (memK a.k (onsK o.after.toList)) true (apartK a.d a.l o.dst (o.looksAt ops))) (@List.rec Seen (fun _ => Bool) true (fun s _ ih2 => bc (bc (memK s.k (onsK o.after.toList)) true (apartK s.d s.l o.dst (o.looksAt ops))) ih2 false) acc) false = true := h
    rw [Vj, Vj] at h
    cases hm : memK a.k (onsK o.after.toList)
    · rw [hm] at h
      simp only [cond_false] at h
      cases hp : apartK a.d a.l o.dst (o.looksAt ops)
      · rw [hp] at h; cases h
      · rw [hp] at h
        rcases Z5.1 hs with rfl | hs
        · exact .inr hp
        · exact ih h s hs
    · rw [hm] at h
      rcases Z5.1 hs with rfl | hs
      · exact .inl hm
      · exact ih h s hs
  cases h1 : (@List.rec Nat (fun _ => Bool) true (fun k _ ih2 => bc (Z4 (Nat.succ k) j) ih2 false) (onsK o.after.toList) : Bool)
  · rw [h1] at q; cases q
  rw [h1] at q
  simp only [cond_true] at q
  cases h2 : (@List.rec Seen (fun _ => Bool) true (fun s _ ih2 => bc (bc (memK s.k (onsK o.after.toList)) true (apartK s.d s.l o.dst (o.looksAt ops))) ih2 false) acc : Bool)
  · rw [h2] at q; cases q
  rw [h2] at q
  simp only [cond_true] at q
  have h0 : ops[j]? = some o := by simpa using (hl 0).symm
  cases i with
  | zero =>
   simp at hi; subst hi
   rw [Nat.add_zero]
   refine ⟨fun e he hb => hA _ h1 _ ((Yh8 _ _).2 ⟨e, by simpa using he, hb, rfl⟩), fun k ok hk hok hno => ?_⟩
   rcases hB _ h2 _ (hacc k ok hk hok) with hm | hp
   · exfalso
     rw [Yi4, Zs6, Yh8] at hm
     obtain ⟨e, h3, h4, h5⟩ := hm
     exact hno e (by simpa using h3) h4 h5
   · exact apartK_spec hp
  | succ i =>
   rw [show j + (i + 1) = j + 1 + i by omega]
   refine lexQ_spec l (j + 1) _ q (fun i => by have := hl (i + 1); simpa [Nat.add_assoc, Nat.add_comm 1 i] using this) (fun k ok hk hok => ?_) i oi (by simpa using hi)
   rcases Nat.lt_or_ge k j with h | h
   · exact List.mem_cons_of_mem _ (hacc k ok h hok)
   · have : k = j := by omega
     subst this
     rw [h0] at hok; cases hok
     exact List.mem_cons_self
theorem lexQ_ok {ops : Array Oper} (q : lexQ ops ops.toList 0 [] = true) : LexOk ops := by
 have := lexQ_spec ops.toList 0 [] q (fun i => by simp) (fun i _ hi => by omega)
 refine ⟨fun j oj hj e he hb => ?_, fun i j oi oj hlt hi hj hno => ?_⟩
 · have := (this j oj (by simpa using hj)).1 e he hb
   simpa using this
 · exact (this j oj (by simpa using hj)).2 i oi (by simpa using hlt) hi hno
end
section
variable {P : Program} {G : Nat → D} {n : Nat} {h : List Ob} {t : Tr}
theorem Ye0 {ops : Array Oper} (hL : LexOk ops) {ef : Nat → Ef} {Q : (Nat → D) → List Ob → Prop} (hE : efOk .any ops ef) : ∀ (l : List Oper) (k : Nat) (listed : Array Bool) (e : Nat → D) (h : List Ob), Closed .any ops listed → (∀ j, j < ops.size → listed[j]? = some (decide (j < k))) → listed.size = ops.size → (∀ j, l[j]? = ops[k + j]?) → af P G n ops ef Q k l e h → afAny P G n .any ops ef Q l.length listed e h
 | [], k, listed, e, h, _, hd, hs, hl, q => by
  refine ⟨?_, q⟩
  rw [List.eq_nil_iff_forall_not_mem]
  intro i hi
  obtain ⟨h1, o, h2, _⟩ := mem_ready.1 hi
  have hlt := (Z1.1 h2).1
  have hk : ¬ k ≤ i := fun hk => by
   have := hl (i - k)
   rw [show k + (i - k) = i by omega, h2] at this; simp at this
  rw [Z0, hd i hlt, decide_eq_true (by omega)] at h1
  cases h1
 | o :: l, k, listed, e, h, hcl, hd, hs, hl, q => by
  have h0 : ops[k]? = some o := by simpa using (hl 0).symm
  have hk := (Z1.1 h0).1
  obtain ⟨hy, hok, hK⟩ := q
  have hr : k ∈ Region.ready .any ops listed := mem_ready.2 ⟨by rw [Z0, hd k hk]; simp, o, h0, fun e he hb => by
   have := hL.back k o h0 e he hb
   rw [Z0, hd e.on (by omega), decide_eq_true this]; rfl⟩
  refine afAny_first h0 l.length listed e h hcl (fun j oj hj hjk hun hno hnt => ?_) hr hy hok (Ye0 hL hE l (k + 1) _ _ _ (hcl.set hr) (fun j hj => ?_) (by simpa using hs) (fun j => by have := hl (j + 1); simpa [Nat.add_assoc, Nat.add_comm 1 j] using this) hK)
  · have hjs := (Z1.1 hj).1
    have hlt : k < j := by
     rw [Z0, hd j hjs] at hun
     have : ¬ j < k := by simpa using hun
     omega
    exact ⟨hL.apart k j o oj hlt h0 hj hno, hE k j oj hlt hj hno hnt⟩
  · rw [Array.getElem?_setIfInBounds]
    by_cases hkj : k = j
    · subst hkj; rw [if_pos rfl, if_pos (by omega), decide_eq_true (by omega)]
    · rw [if_neg hkj, hd j hj]
      congr 1
      by_cases hjk : j < k
      · rw [decide_eq_true hjk, decide_eq_true (by omega)]
      · rw [decide_eq_false hjk, decide_eq_false (by omega)]
theorem aw_drawQ {id : Nat} {l : List Oper} {e : Nat → D} {Q : Exit → S → Prop} {ef : Nat → Ef} (hm : P.follows .mixedOrders = true) (hB : LexOk l.toArray) (hE : efOk .any l.toArray ef) (H : af P G n l.toArray ef (fun e h => Q .normal ⟨n, e, h⟩) 0 l e h) : aw P G (.region id l.toArray true) Q ⟨n, e, h⟩ := fun B a w r => by
 obtain ⟨hd, p, r⟩ := r
 have hdr := r.ok.drew
 have r' : Sit G B ⟨n, e, h⟩ a { w with drawn := w.drawn + 1 } := ⟨hd, p, hdr.1, r.evo.trans hdr.2, fun t => hdr.2.rd r.ok (r.tmp t), r.size, r.defers⟩
 refine wp_region_any hm (Zb6 (ef := ef) (Q := fun e h => Q .normal ⟨n, e, h⟩) (fun e h a w q r => ⟨_, q, r⟩) _ _ _ _ _ _ r' ?_)
 have := Ye0 (P := P) (G := G) (n := n) hB (Q := fun e h => Q .normal ⟨n, e, h⟩) hE l 0 (Array.replicate l.toArray.size false) e h (fun j oj hj hl => by
  have hlt := (Z1.1 hj).1
  rw [Z0, Z7, if_pos hlt] at hl
  cases hl) (fun j hj => by rw [Z7, if_pos hj]; simp) (by simp) (by simp) H
 simpa using this
theorem aw_drawnK (hG : ∀ g, low 0 (G g)) {cal : Cal} (hc : Ya5 P G cal) {id : Nat} {ops : Array Oper} {Q : Exit → S → Prop} {t' : Tr} {h' : List Ob} {es : List Ef} (hm : P.follows .mixedOrders = true) (hB : lexQ ops ops.toList 0 [] = true) (q : drawK P G cal n ops ops.toList t h = .mk t' h' es) (hchk : chkK ops es es 0 = true) (k : Q .normal ⟨n, t'.get, h'⟩) : aw P G (.region id ops true) Q ⟨n, t.get, h⟩ := by
 have hB := lexQ_ok hB
 obtain ⟨ops⟩ := ops
 obtain ⟨a1, a2, a3⟩ := Yj6 hG hc ops t h t' h' es q
 refine aw_holes (h'.length - h.length) (aw_drawQ (ef := fun k => (es[k]?).getD nopF) hm hB (fun i j oj hij hj hno hnt => ?_) (a3 _ 0 (fun j E hj => by simp [hj]) _ (Nat.le_refl _) _ (by simpa [holes] using k)))
 have hjl : j < es.length := by
  have := (Z1.1 hj).1
  simp at this; rw [a1]; exact this
 rcases chkK_comp hchk (Z3 (show i < es.length by omega)) (Z3 hjl) hij with hw | hc
 · exfalso
   rw [hnt] at hw; cases hw
 · simp only [Z3 (show i < es.length by omega), Z3 hjl, Option.getD_some]
   exact hc
abbrev Run := Nat → Tr → List Ob → Rs
noncomputable def goOn (r : Rs) (f : Tr → List Ob → Rs) : Rs := @Rs.casesOn (fun _ => Rs) r .no fun e t h => @Exit.casesOn (fun _ => Rs) e (f t h) (fun i => .mk (.exit i) t h) (fun i => .mk (.goto i) t h) (.mk .ret t h) (fun _ => .no) .no
theorem goOn_mk {r : Rs} {f : Tr → List Ob → Rs} {e : Exit} {h : List Ob} (q : goOn r f = .mk e t h) : (∃ t1 h1, r = .mk .normal t1 h1 ∧ f t1 h1 = .mk e t h) ∨ (r = .mk e t h ∧ e ≠ .normal) := by
 cases r with
 | no => cases q
 | mk e1 t1 h1 =>
  cases e1 with
  | normal => exact .inl ⟨t1, h1, rfl, q⟩
  | exit i => cases q; exact .inr ⟨rfl, by intro h; cases h⟩
  | goto i => cases q; exact .inr ⟨rfl, by intro h; cases h⟩
  | ret => cases q; exact .inr ⟨rfl, by intro h; cases h⟩
  | _ => cases q
noncomputable def cndK (d : D) (a b : Rs) : Rs := @D.casesOn (fun _ => Rs) d .no (fun x => @Value.casesOn (fun _ => Rs) x (fun s => bc s a b) (fun _ _ => .no) (fun _ _ => .no) (fun _ _ _ => .no) (fun _ => .no) (fun _ => .no) (fun _ _ _ => .no) (fun _ => .no) (fun _ => .no) (fun _ _ _ => .no) .no (fun _ _ => .no) .no (fun _ => .no) (fun _ => .no)) (fun _ _ => .no) (fun _ => .no) (fun _ => .no) (fun _ => .no) (fun _ _ => .no) (fun _ _ => .no) (fun _ _ _ _ => .no) (fun _ _ _ _ => .no) (fun _ _ _ _ _ => .no) (fun _ => .no) .no (fun _ _ => .no)
noncomputable def blkK (id : Nat) (r : Rs) : Rs := @Rs.casesOn (fun _ => Rs) r .no fun e t h => @Exit.casesOn (fun _ => Rs) e r (fun i => bc (Z2 i id) (.mk .normal t h) r) (fun _ => r) r (fun _ => r) r
noncomputable def scpK (r : Rs) : Rs := @Rs.casesOn (fun _ => Rs) r .no fun e _ _ => @Exit.casesOn (fun _ => Rs) e r (fun _ => r) (fun _ => .no) r (fun _ => r) r
noncomputable def execK (P : Program) (G : Nat → D) (cal : Cal) (k : Nat) (c : Code) : Run := @Code.rec (fun _ => Run) (fun _ t h => .mk .normal t h)
 (fun _ ops dr n t h => bc dr (bc (lexQ ops ops.toList 0 []) (@Dr.casesOn (fun _ => Rs) (drawK P G cal n ops ops.toList t h) .no fun t1 h1 es => bc (chkK ops es es 0) (.mk .normal t1 h1) .no) .no) (@Sr.casesOn (fun _ => Rs) (seqK P G cal n ops ops.toList t h) .no fun t1 h1 => .mk .normal t1 h1))
 (fun _ _ x y n t h => goOn (x n t h) (y n))
 (fun c _ _ x y n t h => cndK (evK G t c) (x n t h) (y n t h))
 (fun id _ x n t h => blkK id (x n t h))
 (fun _ x n t h => @Nat.rec (fun _ => Tr → List Ob → Rs) (fun _ _ => .no) (fun _ again t h => goOn (x n t h) again) k t h)
 (fun _ _ _ _ _ _ _ _ _ => .no)
 (fun id _ t h => .mk (.exit id) t h)
 (fun _ x n t h => scpK (x n t h))
 (fun _ _ t h => .mk .normal t h)
 (fun l _ t h => .mk (.goto l) t h)
 (fun _ t h => .mk .ret t h)
 (fun _ _ _ _ => .no) c
theorem execK_ok (hG : ∀ g, low 0 (G g)) (hm : P.follows .mixedOrders = true) {cal : Cal} (hc : Ya5 P G cal) (k : Nat) : ∀ (c : Code) (n : Nat) (t : Tr) (h : List Ob) (e : Exit) (t' : Tr) (h' : List Ob), execK P G cal k c n t h = .mk e t' h' → aw P G c (endsAt n e t' h') ⟨n, t.get, h⟩ := by
 intro c
 induction c with
 | skip => intro n t h e t' h' q; cases q; exact aw_skip ⟨rfl, rfl⟩
 | label l => intro n t h e t' h' q; cases q; exact aw_label ⟨rfl, rfl⟩
 | exit id => intro n t h e t' h' q; cases q; exact aw_exit ⟨rfl, rfl⟩
 | goto l => intro n t h e t' h' q; cases q; exact aw_goto ⟨rfl, rfl⟩
 | ret => intro n t h e t' h' q; cases q; exact aw_ret ⟨rfl, rfl⟩
 | refuse w => intro n t h e t' h' q; cases q
 | rangeFunc f p a b iha ihb => intro n t h e t' h' q; cases q
 | seq x y ihx ihy =>
  intro n t h e t' h' q
  have q : goOn (execK P G cal k x n t h) (execK P G cal k y n) = .mk e t' h' := q
  rcases goOn_mk q with ⟨t1, h1, hx, q⟩ | ⟨q, hne⟩
  · exact aw_seq' (Zi6 (ihx _ _ _ _ _ _ hx) fun e1 s1 ⟨h2, h3⟩ => by rw [h2, h3]; exact ihy _ _ _ _ _ _ q)
  · refine aw_seq' (Zi6 (ihx _ _ _ _ _ _ q) fun e1 s1 ⟨h2, h3⟩ => ?_)
    rw [h2, h3]
    cases e with
    | normal => exact absurd rfl hne
    | _ => exact ⟨rfl, rfl⟩
 | cond c x y ihx ihy =>
  intro n t h e t' h' q
  have q : cndK (evK G t c) (execK P G cal k x n t h) (execK P G cal k y n t h) = .mk e t' h' := q
  rw [Ud] at q
  cases hd : ev G t.get c <;> rw [hd] at q <;> try (cases q; done)
  case v X =>
  cases X <;> try (cases q; done)
  case bool b =>
  cases b
  · exact aw_if0 hd (ihy _ _ _ _ _ _ q)
  · exact aw_if1 hd (ihx _ _ _ _ _ _ q)
 | block id x ih =>
  intro n t h e t' h' q
  have q : blkK id (execK P G cal k x n t h) = .mk e t' h' := q
  cases hx : execK P G cal k x n t h with
  | no => rw [hx] at q; cases q
  | mk e1 t1 h1 =>
   rw [hx] at q
   refine aw_block (Zi6 (ih _ _ _ _ _ _ hx) fun e2 s2 ⟨h2, h3⟩ => ?_)
   rw [h2, h3]
   cases e1 with
   | exit i =>
    have q : bc (Z2 i id) (.mk .normal t1 h1) (.mk (.exit i) t1 h1) = Rs.mk e t' h' := q
    rw [Vj] at q
    show if i = id then _ else _
    cases hb : Z2 i id
    · rw [hb] at q; cases q; rw [if_neg (bqF hb)]; exact ⟨rfl, rfl⟩
    · rw [hb] at q; cases q; rw [if_pos (bqT hb)]; exact ⟨rfl, rfl⟩
   | _ => cases q; exact ⟨rfl, rfl⟩
 | scope x ih =>
  intro n t h e t' h' q
  have q : scpK (execK P G cal k x n t h) = .mk e t' h' := q
  cases hx : execK P G cal k x n t h with
  | no => rw [hx] at q; cases q
  | mk e1 t1 h1 =>
   rw [hx] at q
   refine aw_scope (Zi6 (ih _ _ _ _ _ _ hx) fun e2 s2 ⟨h2, h3⟩ => ?_)
   rw [h2, h3]
   cases e1 with
   | goto i => cases q
   | _ => cases q; exact ⟨rfl, rfl⟩
 | loop x ih =>
  intro n t h e t' h' q B a w r
  refine wp_loop_rounds k ?_
  have q : @Nat.rec (fun _ => Tr → List Ob → Rs) (fun _ _ => .no) (fun _ again t h => goOn (execK P G cal k x n t h) again) k t h = .mk e t' h' := q
  have q0 : ∀ m t h, @Nat.rec (fun _ => Tr → List Ob → Rs) (fun _ _ => .no) (fun _ again t h => goOn (execK P G cal k x n t h) again) m t h = .mk e t' h' → ∀ a w, Sit G B ⟨n, t.get, h⟩ a w → Code.rounds P x (fun e1 a' w' => ∃ s', endsAt n e t' h' e1 s' ∧ Sit G B s' a' w') m a w := by
   intro m
   induction m with
   | zero => intro t h q; cases q
   | succ m ihm =>
    intro t h q a w r
    have q : goOn (execK P G cal k x n t h) (@Nat.rec (fun _ => Tr → List Ob → Rs) (fun _ _ => .no) (fun _ again t h => goOn (execK P G cal k x n t h) again) m) = .mk e t' h' := q
    rw [rounds_succ]
    rcases goOn_mk q with ⟨t1, h1, hx, q⟩ | ⟨q, hne⟩
    · refine Code.wp_mono ?_ (ih n t h _ _ _ hx B a w r)
      rintro e1 a' w' ⟨s', ⟨rfl, rfl⟩, r'⟩
      exact ihm t1 h1 q a' w' r'
    · refine Code.wp_mono ?_ (ih n t h _ _ _ q B a w r)
      rintro e1 a' w' ⟨s', ⟨rfl, rfl⟩, r'⟩
      cases e1 with
      | normal => exact absurd rfl hne
      | _ => exact ⟨_, ⟨rfl, rfl⟩, r'⟩
  exact q0 k t h q a w r
 | region id ops dr =>
  intro n t h e t' h' q
  cases dr
  · have q : @Sr.casesOn (fun _ => Rs) (seqK P G cal n ops ops.toList t h) .no _ = .mk e t' h' := q
    cases hs : seqK P G cal n ops ops.toList t h with
    | no => rw [hs] at q; cases q
    | mk t1 h1 =>
     rw [hs] at q
     cases q
     exact aw_regionA (seqK_ok (Q := fun s => endsAt n .normal t' h' .normal s) hG hc ⟨rfl, rfl⟩ _ _ _ hs)
  · have q : bc (lexQ ops ops.toList 0 []) _ _ = Rs.mk e t' h' := q
    rw [Vj] at q
    cases hl : lexQ ops ops.toList 0 []
    · rw [hl] at q; cases q
    rw [hl] at q
    simp only [cond_true] at q
    cases hs : drawK P G cal n ops ops.toList t h with
    | no => rw [hs] at q; cases q
    | mk t1 h1 es =>
     rw [hs] at q
     have q : bc (chkK ops es es 0) _ _ = Rs.mk e t' h' := q
     rw [Vj] at q
     cases hk : chkK ops es es 0
     · rw [hk] at q; cases q
     rw [hk] at q; cases q
     exact aw_drawnK hG hc hm hl hs hk ⟨rfl, rfl⟩
noncomputable def treeK (l : List D) : Nat → Tr → Tr := @List.rec D (fun _ => Nat → Tr → Tr) (fun _ t => t) (fun d _ ih i t => ih (Nat.add i 1) (setK t i d)) l
theorem treeK_get : ∀ (l : List D) (i : Nat) (t : Tr) (j : Nat), i + l.length < 4095 → (treeK l i t).get j = if i ≤ j ∧ j < i + l.length then (l[j - i]?).getD .any else t.get j
 | [], i, t, j, _ => by show t.get j = _; rw [if_neg (by simp only [List.length_nil]; omega)]
 | d :: l, i, t, j, hl => by
  simp only [List.length_cons] at hl ⊢
  show (treeK l (i + 1) (setK t i d)).get j = _
  rw [treeK_get l (i + 1) _ j (by omega), Zr2 t i d j (by omega)]
  by_cases hj : j = i
  · subst hj; rw [if_neg (by omega), if_pos rfl, if_pos (by omega), Nat.sub_self]; rfl
  · by_cases h2 : i + 1 ≤ j ∧ j < i + 1 + l.length
    · rw [if_pos h2, if_pos (by omega), show j - i = (j - (i + 1)) + 1 by omega]; rfl
    · rw [if_neg h2, if_neg hj, if_neg (by omega)]
theorem treeK_env {l : List D} (hl : l.length < 4095) : (treeK l 0 (mkT 6)).get = Zq6 l := funext fun j => by
 rw [treeK_get l 0 (mkT 6) j (by omega)]
 unfold Zq6
 by_cases hj : j < l.length
 · rw [if_pos (by omega)]; rfl
 · rw [if_neg (by omega), List.getElem?_eq_none (by omega), mkT_get]; rfl
noncomputable def firstK (l : List Nat) : Nat → Nat → Bool := @List.rec Nat (fun _ => Nat → Nat → Bool) (fun j m => Z4 m j) (fun a _ ih j m => bc (Z4 m j) true (bc (Z2 a j) (ih (Nat.add j 1) m) false)) l
theorem Zy0 : ∀ (l : List Nat) (j m : Nat), firstK l j m = true → m ≤ j + l.length ∧ ∀ k, j + k < m → l[k]? = some (j + k)
 | [], j, m, q => by
  have := Nat.le_of_ble_eq_true q
  exact ⟨by simpa using this, fun k hk => by omega⟩
 | a :: l, j, m, q => by
  have q : bc (Z4 m j) true (bc (Z2 a j) (firstK l (j + 1) m) false) = true := q
  rw [Vj, Vj, bleE] at q
  by_cases hm : m ≤ j
  · exact ⟨by simp; omega, fun k hk => by omega⟩
  · rw [decide_eq_false hm] at q
    cases hb : Z2 a j
    · rw [hb] at q; cases q
    · rw [hb] at q
      obtain ⟨h1, h2⟩ := Zy0 l (j + 1) m q
      refine ⟨by simp only [List.length_cons]; omega, fun k hk => ?_⟩
      cases k with
      | zero => simp [bqT hb]
      | succ k => have := h2 k (by omega); simp only [List.getElem?_cons_succ, this]; congr 1; omega
noncomputable def shrK (m : Nat) (h' : List Ob) (r : D) : Option (List Ob × D) := bc (Z2 (lenK h' 0) m) (some (h', r))
 ((fun R => @Option.rec (List Ob) (fun _ => Option (List Ob × D)) none (fun h2 => @Option.rec D (fun _ => Option (List Ob × D)) none (fun r2 => bc (nodupK R) (bc (firstK R 0 m) (some (h2, r2)) none) none) (rnK R r)) (rnHK R h' R)) (closeK h' 4000 0 (addK (refsK r []) (List.range m))))
noncomputable def callBK (P : Program) (G : Nat → D) (cx : FuncId) (k : Nat) (cal : Cal) : Cal := fun f args h => @Option.rec Func (fun _ => Option (List Ob × D)) none (fun fn => @Option.rec Code (fun _ => Option (List Ob × D))
   (bc (Z2 f cx) (match args with
    | [.v (.string a), .v (.string b)] => some (h, .v (.int .i64 (Lib.compareBytes a.data.toList b.data.toList)))
    | _ => none) none)
   (fun c => bc (entB P f) (bc (Z4 (lenK args 0) fn.ntmps) (bc (Z4 (lenK args 0) 4094) (@Rs.casesOn (fun _ => Option (List Ob × D)) (execK P G cal k c fn.ntmps (treeK args 0 (mkT 6)) h) none
    fun e t h1 => @Exit.casesOn (fun _ => Option (List Ob × D)) e (@Option.rec (List D) (fun _ => Option (List Ob × D)) none (fun ds => shrK (lenK h 0) h1 (outD ds)) (resD P ⟨fn.ntmps, getK t, h1⟩ fn.results.toList)) (fun _ => none) (fun _ => none) (@Option.rec (List D) (fun _ => Option (List Ob × D)) none (fun ds => shrK (lenK h 0) h1 (outD ds)) (resD P ⟨fn.ntmps, getK t, h1⟩ fn.results.toList)) (fun _ => none) none) none) none) none) fn.body) P.funcs[f]?
noncomputable def callK (P : Program) (G : Nat → D) (cx : FuncId) (K : Nat) (k : Nat) : Cal := @Nat.rec (fun _ => Cal) (fun _ _ _ => none) (fun _ cal => callBK P G cx K cal) k
theorem shrK_does {f : FuncId} {args : List D} {h1 : List Ob} {r : D} {h' : List Ob} {r' : D} (hG : ∀ g, low 0 (G g)) (q : shrK (lenK h 0) h1 r = some (h', r')) (d : Does P G f h args (fun h2 r2 => h2 = h1 ∧ r2 = r)) : Does P G f h args (fun h2 r2 => h2 = h' ∧ r2 = r') := by
 unfold shrK at q
 dsimp only at q
 rw [Vj, V8, V8, Z6, Z6] at q
 cases hn : Z2 h1.length h.length
 · rw [hn] at q
   simp only [cond_false] at q
   generalize closeK h1 4000 0 _ = R at q
   cases e1 : rnHK R h1 R with
   | none => rw [e1] at q; cases q
   | some h2 =>
   rw [e1] at q
   have q : @Option.rec D (fun _ => Option (List Ob × D)) none (fun r2 => bc (nodupK R) (bc (firstK R 0 h.length) (some (h2, r2)) none) none) (rnK R r) = _ := q
   cases e2 : rnK R r with
   | none => rw [e2] at q; cases q
   | some r2 =>
   rw [e2] at q
   have q : bc (nodupK R) (bc (firstK R 0 h.length) (some (h2, r2)) none) none = some (h', r') := q
   rw [Vj, Vj] at q
   obtain ⟨n1, q⟩ := (by
    cases hk : nodupK R
    · rw [hk] at q; cases q
    · rw [hk] at q; exact ⟨rfl, q⟩ : nodupK R = true ∧ (bif firstK R 0 h.length then some (h2, r2) else none) = some (h', r'))
   obtain ⟨n2, hq⟩ := X5 q
   cases hq
   obtain ⟨l1, l2⟩ := Zy0 R 0 h.length n2
   rw [Yf9] at e1
   rw [rnK_eq] at e2
   rw [Zl5] at n1
   refine d.shrink hG ?_
   rintro _ _ ⟨rfl, rfl⟩
   exact ⟨_, _, ⟨R, e1, n1, e2, by omega, fun k hk => by have := l2 k (by omega); rwa [Z6] at this⟩, rfl, rfl⟩
 · rw [hn] at q; cases q; exact d
theorem callBK_ok {cx : FuncId} (hG : ∀ g, low 0 (G g)) (hm : P.follows .mixedOrders = true) (hx : CmpX P cx) (K : Nat) {cal : Cal} (ih : Ya5 P G cal) : Ya5 P G (callBK P G cx K cal) := by
  intro f args h h' r q
  unfold callBK at q
  cases hf : P.funcs[f]? with
  | none => rw [hf] at q; cases q
  | some fn =>
  rw [hf] at q
  dsimp only at q
  cases hb : fn.body with
  | none =>
   rw [hb] at q
   have hent : entB P f = false := by unfold entB; rw [hf]; simp [hb]
   dsimp only at q
   rw [Vj] at q
   cases hbq : Z2 f cx
   · rw [hbq] at q; cases q
   rw [hbq] at q
   simp only [cond_true] at q
   split at q
   · cases q
     refine .inr ⟨hent, rfl, fun w hd h2 W vs hv => ?_⟩
     rw [rdL] at hv; obtain ⟨u, t, rfl, h3, hv⟩ := hv
     rw [rdL] at hv; obtain ⟨u2, t, rfl, h4, hv⟩ := hv
     rw [rdL] at hv; subst hv
     rw [rd] at h3 h4; subst h3; subst h4
     rw [bqT hbq]
     exact ⟨_, hx _ _ w, by rw [rd]⟩
   · cases q
  | some c =>
   rw [hb] at q
   dsimp only at q
   rw [Vj, Vj, Vj, V8, Z6, bleE, bleE] at q
   cases hent : entB P f
   · rw [hent] at q; cases q
   rw [hent] at q
   by_cases l1 : args.length ≤ fn.ntmps
   rotate_left
   · rw [decide_eq_false l1] at q; cases q
   rw [decide_eq_true l1] at q
   by_cases l2 : args.length ≤ 4094
   rotate_left
   · rw [decide_eq_false l2] at q; cases q
   rw [decide_eq_true l2] at q
   simp only [cond_true] at q
   refine .inl ⟨rfl, ?_⟩
   cases hxx : execK P G cal K c fn.ntmps (treeK args 0 (mkT 6)) h with
   | no => rw [hxx] at q; cases q
   | mk e t h1 =>
   rw [hxx] at q
   have A := execK_ok hG hm ih K _ _ _ _ _ _ _ hxx
   rw [treeK_env (by omega)] at A
   have key : (e = .normal ∨ e = .ret) → @Option.rec (List D) (fun _ => Option (List Ob × D)) none (fun ds => shrK (lenK h 0) h1 (outD ds)) (resD P ⟨fn.ntmps, getK t, h1⟩ fn.results.toList) = some (h', r) → Does P G f h args (fun h2 r2 => h2 = h' ∧ r2 = r) := fun he q => by
    rw [Zs8] at q
    cases hr : resD P ⟨fn.ntmps, t.get, h1⟩ fn.results.toList with
    | none => rw [hr] at q; cases q
    | some ds =>
     rw [hr] at q
     exact shrK_does hG q (Ze3 hf hb l1 (Zi6 A fun e1 s1 ⟨h2, h3⟩ => by rw [h2, h3]; exact ⟨he, ds, hr, rfl, rfl⟩))
   cases e with
   | normal => exact key (.inl rfl) q
   | ret => exact key (.inr rfl) q
   | _ => cases q
end
end Go.Proofs.YtmdjnaobllajmaaGreatDoor
