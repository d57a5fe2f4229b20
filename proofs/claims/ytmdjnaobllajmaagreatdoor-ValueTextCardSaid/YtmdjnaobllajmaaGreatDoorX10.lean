/-
  What the statements of the chapter share, part 10: TSpec, PTxt.
-/
import Derived.Test.YtmdjnaobllajmaaGreatDoorX05
import Derived.Test.YtmdjnaobllajmaaGreatDoorX08
import Derived.Test.YtmdjnaobllajmaaGreatDoorX09
import Derived.Lib.ItoaNum
import Derived.Lib.Join
set_option linter.unusedVariables false
set_option linter.unusedSimpArgs false
set_option maxRecDepth 100000
set_option maxHeartbeats 8000000
namespace Go.Proofs.YtmdjnaobllajmaaGreatDoor
open Go.RowKit
def bsOf (s : ByteArray) : List UInt8 := s.data.toList
def tickT (t : Tk) : List UInt8 := Lib.itoa t.process ++ 58 :: Lib.itoa t.n
def entryT (e : En) : List UInt8 := bsOf e.name ++ 64 :: Lib.join (e.clock.map tickT) [46]
def flagT (b : Bool) : List UInt8 := if b then [116, 114, 117, 101] else [102, 97, 108, 115, 101]
mutual
def textV : Lat → Val → List UInt8
 | .mk k _ _ ns ps _, v =>
   if k = 1 then flagT (decide (v.n = 1))
   else if k = 2 ∨ k = 3 then Lib.itoa v.n
   else if k = 4 ∨ k = 10 then 123 :: (Lib.join (v.names.map bsOf) [44] ++ [125])
   else if k = 8 then (if v.n = 0 then [63] else if v.n = 1 then bsOf (v.names.headD ByteArray.empty) else [33])
   else if k = 9 then 91 :: (Lib.join (v.entries.map entryT) [32, 124, 32] ++ [93])
   else if k = 5 then 123 :: (Lib.join (textMap ps v.names v.parts) [44, 32] ++ [125])
   else if k = 6 then 40 :: (Lib.join (textProd ns ps v.parts) [44, 32] ++ [41])
   else 60 :: (Lib.join (textParts ps v.parts) [44, 32] ++ [62])
def textMap : List Lat → List ByteArray → List Val → List (List UInt8)
 | [], _, _ => []
 | p :: _, ns, vs => (ns.zip vs).map fun x => bsOf x.1 ++ 58 :: 32 :: textV p x.2
def textProd : List ByteArray → List Lat → List Val → List (List UInt8)
 | n :: ns, p :: ps, v :: vs => (bsOf n ++ 58 :: 32 :: textV p v) :: textProd ns ps vs
 | [], _, _ => []
 | _ :: _, [], _ => []
 | _ :: _, _ :: _, [] => []
def textParts : List Lat → List Val → List (List UInt8)
 | p :: ps, v :: vs => textV p v :: textParts ps vs
 | [], _ => []
 | _ :: _, [] => []
end
def nw (b : UInt8) : Bool := !wordB (b.toNat : Int)
def Stop (K : UInt8 → Bool) (r : List UInt8) : Prop := ∀ b t, r = b :: t → K b = true
theorem stop_nil (K : UInt8 → Bool) : Stop K [] := fun _ _ h => by cases h
theorem stop_cons {K : UInt8 → Bool} {b : UInt8} (h : K b = true) (t : List UInt8) : Stop K (b :: t) := fun c u e => by cases e; exact h
theorem Stop.mono {K K' : UInt8 → Bool} {r : List UInt8} (h : Stop K' r) (hk : ∀ b, K' b = true → K b = true) : Stop K r := fun b t e => hk b (h b t e)
def Det {α : Type} (A : α → Prop) (enc : α → List UInt8) (K : UInt8 → Bool) : Prop := ∀ x y r1 r2, A x → A y → Stop K r1 → Stop K r2 → enc x ++ r1 = enc y ++ r2 → x = y ∧ r1 = r2
theorem word_run : ∀ (a b r1 r2 : List UInt8), (∀ c ∈ a, nw c = false) → (∀ c ∈ b, nw c = false) → Stop nw r1 → Stop nw r2 → a ++ r1 = b ++ r2 → a = b ∧ r1 = r2
 | [], [], _, _, _, _, _, _, h => ⟨rfl, h⟩
 | [], c :: b, r1, r2, _, hb, h1, _, h => by
   have := h1 c (b ++ r2) h
   rw [hb c (by simp)] at this
   cases this
 | c :: a, [], r1, r2, ha, _, _, h2, h => by
   have := h2 c (a ++ r1) h.symm
   rw [ha c (by simp)] at this
   cases this
 | c :: a, d :: b, r1, r2, ha, hb, h1, h2, h => by
   rw [List.cons_append, List.cons_append] at h
   injection h with e1 e2
   obtain ⟨e3, e4⟩ := word_run a b r1 r2 (fun x hx => ha x (by simp [hx])) (fun x hx => hb x (by simp [hx])) h1 h2 e2
   exact ⟨by rw [e1, e3], e4⟩
theorem joinTail_cons (sep x : List UInt8) (l : List (List UInt8)) : Lib.joinTail sep (x :: l) = sep ++ (x ++ Lib.joinTail sep l) := by simp [Lib.joinTail]
theorem joinTail_nil (sep : List UInt8) : Lib.joinTail sep [] = [] := rfl
section
variable {α : Type} {A : α → Prop} {enc : α → List UInt8} {K K' : UInt8 → Bool} {s0 : UInt8} {st : List UInt8}
theorem det_tail (h : Det A enc K) (hk : K s0 = true) (hK : ∀ b, K' b = true → K b = true ∧ b ≠ s0) : ∀ (xs ys : List α) (r1 r2 : List UInt8), (∀ x ∈ xs, A x) → (∀ y ∈ ys, A y) → Stop K' r1 → Stop K' r2 →
 Lib.joinTail (s0 :: st) (xs.map enc) ++ r1 = Lib.joinTail (s0 :: st) (ys.map enc) ++ r2 → xs = ys ∧ r1 = r2
 | [], [], _, _, _, _, _, _, e => ⟨rfl, e⟩
 | [], y :: ys, r1, r2, _, _, h1, _, e => by
   rw [List.map_cons, joinTail_cons, List.map_nil, joinTail_nil, List.nil_append, List.cons_append, List.cons_append] at e
   exact absurd rfl (hK _ (h1 _ _ e)).2
 | x :: xs, [], r1, r2, _, _, _, h2, e => by
   rw [List.map_cons, joinTail_cons, List.map_nil, joinTail_nil, List.nil_append, List.cons_append, List.cons_append] at e
   exact absurd rfl (hK _ (h2 _ _ e.symm)).2
 | x :: xs, y :: ys, r1, r2, hx, hy, h1, h2, e => by
   rw [List.map_cons, joinTail_cons, List.map_cons, joinTail_cons] at e
   simp only [List.append_assoc] at e
   have e := List.append_cancel_left e
   have hs : ∀ (zs : List α) r, Stop K' r → Stop K (Lib.joinTail (s0 :: st) (zs.map enc) ++ r) := fun zs r hr => by
     cases zs with
     | nil => exact hr.mono fun b hb => (hK b hb).1
     | cons z t => rw [List.map_cons, joinTail_cons]; exact stop_cons hk _
   obtain ⟨e1, e2⟩ := h x y _ _ (hx x (by simp)) (hy y (by simp)) (hs _ _ h1) (hs _ _ h2) e
   obtain ⟨e3, e4⟩ := det_tail h hk hK xs ys r1 r2 (fun z hz => hx z (by simp [hz])) (fun z hz => hy z (by simp [hz])) h1 h2 e2
   exact ⟨by rw [e1, e3], e4⟩
theorem det_join (h : Det A enc K) (hk : K s0 = true) (hK : ∀ b, K' b = true → K b = true ∧ b ≠ s0) (hne : ∀ x, A x → ∃ b t, enc x = b :: t ∧ K' b = false) :
 Det (fun l : List α => ∀ x ∈ l, A x) (fun l => Lib.join (l.map enc) (s0 :: st)) K' := fun xs ys r1 r2 hx hy h1 h2 e => by
 cases xs with
 | nil =>
   cases ys with
   | nil => exact ⟨rfl, e⟩
   | cons y ys =>
     obtain ⟨b, t, e1, e2⟩ := hne y (hy y (by simp))
     simp only [List.map_cons, List.map_nil] at e
     rw [Lib.join_cons, e1, Lib.join_nil, List.nil_append, List.cons_append, List.cons_append] at e
     rw [h1 _ _ e] at e2
     cases e2
 | cons x xs =>
   cases ys with
   | nil =>
     obtain ⟨b, t, e1, e2⟩ := hne x (hx x (by simp))
     simp only [List.map_cons, List.map_nil] at e
     rw [Lib.join_cons, e1, Lib.join_nil, List.nil_append, List.cons_append, List.cons_append] at e
     rw [h2 _ _ e.symm] at e2
     cases e2
   | cons y ys =>
     simp only [List.map_cons] at e
     rw [Lib.join_cons, Lib.join_cons, List.append_assoc, List.append_assoc] at e
     have hs : ∀ (zs : List α) r, Stop K' r → Stop K (Lib.joinTail (s0 :: st) (zs.map enc) ++ r) := fun zs r hr => by
       cases zs with
       | nil => exact hr.mono fun b hb => (hK b hb).1
       | cons z t => rw [List.map_cons, joinTail_cons]; exact stop_cons hk _
     obtain ⟨e1, e2⟩ := h x y _ _ (hx x (by simp)) (hy y (by simp)) (hs _ _ h1) (hs _ _ h2) e
     obtain ⟨e3, e4⟩ := det_tail h hk hK xs ys r1 r2 (fun z hz => hx z (by simp [hz])) (fun z hz => hy z (by simp [hz])) h1 h2 e2
     exact ⟨by rw [e1, e3], e4⟩
end
/-! Parts side by side. -/
def allZ : List ((Val → Prop) × (Val → List UInt8)) → List Val → Prop
 | e :: es, v :: vs => e.1 v ∧ allZ es vs
 | [], [] => True
 | [], _ :: _ => False
 | _ :: _, [] => False
def encZ : List ((Val → Prop) × (Val → List UInt8)) → List Val → List (List UInt8)
 | e :: es, v :: vs => e.2 v :: encZ es vs
 | [], _ => []
 | _ :: _, [] => []
section
variable {K : UInt8 → Bool} {s0 : UInt8} {st : List UInt8}
theorem zip_stop (hk : K s0 = true) (es : List ((Val → Prop) × (Val → List UInt8))) (vs : List Val) (r : List UInt8) (hr : Stop K r) : Stop K (Lib.joinTail (s0 :: st) (encZ es vs) ++ r) := by
 cases es with
 | nil => exact hr
 | cons e es =>
   cases vs with
   | nil => exact hr
   | cons v vs => rw [encZ, joinTail_cons]; exact stop_cons hk _
theorem det_zipTail (hk : K s0 = true) : ∀ (es : List ((Val → Prop) × (Val → List UInt8))) (vs ws : List Val) (r1 r2 : List UInt8), (∀ e ∈ es, Det e.1 e.2 K) → allZ es vs → allZ es ws → Stop K r1 → Stop K r2 →
 Lib.joinTail (s0 :: st) (encZ es vs) ++ r1 = Lib.joinTail (s0 :: st) (encZ es ws) ++ r2 → vs = ws ∧ r1 = r2
 | [], [], [], _, _, _, _, _, _, _, e => ⟨rfl, e⟩
 | [], _ :: _, _, _, _, _, h, _, _, _, _ => h.elim
 | [], [], _ :: _, _, _, _, _, h, _, _, _ => h.elim
 | _ :: _, [], _, _, _, _, h, _, _, _, _ => h.elim
 | _ :: _, _ :: _, [], _, _, _, _, h, _, _, _ => h.elim
 | e :: es, v :: vs, w :: ws, r1, r2, H, hv, hw, h1, h2, q => by
   rw [encZ, encZ, joinTail_cons, joinTail_cons] at q
   simp only [List.append_assoc] at q
   have q := List.append_cancel_left q
   obtain ⟨e1, e2⟩ := H e (by simp) v w _ _ hv.1 hw.1 (zip_stop hk _ _ _ h1) (zip_stop hk _ _ _ h2) q
   obtain ⟨e3, e4⟩ := det_zipTail hk es vs ws r1 r2 (fun x hx => H x (by simp [hx])) hv.2 hw.2 h1 h2 e2
   exact ⟨by rw [e1, e3], e4⟩
theorem det_zip (hk : K s0 = true) (es : List ((Val → Prop) × (Val → List UInt8))) (H : ∀ e ∈ es, Det e.1 e.2 K) : Det (allZ es) (fun vs => Lib.join (encZ es vs) (s0 :: st)) K := fun vs ws r1 r2 hv hw h1 h2 q => by
  cases es with
  | nil =>
    cases vs with
    | nil =>
      cases ws with
      | nil => exact ⟨rfl, q⟩
      | cons => exact hw.elim
    | cons => exact hv.elim
  | cons e es =>
    cases vs with
    | nil => exact hv.elim
    | cons v vs =>
      cases ws with
      | nil => exact hw.elim
      | cons w ws =>
        simp only [encZ] at q
        rw [Lib.join_cons, Lib.join_cons, List.append_assoc, List.append_assoc] at q
        obtain ⟨e1, e2⟩ := H e (by simp) v w _ _ hv.1 hw.1 (zip_stop hk _ _ _ h1) (zip_stop hk _ _ _ h2) q
        obtain ⟨e3, e4⟩ := det_zipTail hk es vs ws r1 r2 (fun x hx => H x (by simp [hx])) hv.2 hw.2 h1 h2 e2
        exact ⟨by rw [e1, e3], e4⟩
end
/-! Numbers. -/
def decVal (l : List UInt8) : Nat := l.foldl (fun a b => a * 10 + (b.toNat - 48)) 0
theorem decVal_digits : ∀ u : Nat, decVal (Lib.decDigits u) = u := fun u => by
  rw [Lib.decDigits]
  by_cases h : u < 10
  · rw [dif_pos h]
    unfold decVal
    simp
    omega
  · rw [dif_neg h]
    have ih := decVal_digits (u / 10)
    unfold decVal at ih ⊢
    rw [List.foldl_append, ih]
    simp
    omega
  termination_by u => u
theorem nw_digit (k : Nat) (h : k < 10) : nw (UInt8.ofNat (48 + k)) = false := by
 unfold nw wordB
 have : (UInt8.ofNat (48 + k)).toNat = 48 + k := by simp; omega
 rw [this]
 simp
 omega
theorem digits_word : ∀ u : Nat, ∀ c ∈ Lib.decDigits u, nw c = false ∧ c ≠ 45 := fun u c hc => by
  have hd : ∀ k, k < 10 → UInt8.ofNat (48 + k) ≠ 45 := fun k hk e => by
    have := congrArg UInt8.toNat e
    simp at this
    omega
  rw [Lib.decDigits] at hc
  by_cases h : u < 10
  · rw [dif_pos h] at hc
    rw [List.mem_singleton.1 hc]
    exact ⟨nw_digit u h, hd u h⟩
  · rw [dif_neg h] at hc
    rcases List.mem_append.1 hc with hc | hc
    · exact digits_word (u / 10) c hc
    · rw [List.mem_singleton.1 hc]
      exact ⟨nw_digit _ (by omega), hd _ (by omega)⟩
  termination_by u => u
theorem digits_ne (u : Nat) : Lib.decDigits u ≠ [] := by
 rw [Lib.decDigits]
 split
 · simp
 · simp
theorem itoa_word (n : Int) : ∀ c ∈ Lib.itoa n, nw c = false := fun c hc => by
  unfold Lib.itoa at hc
  split at hc
  · rcases List.mem_cons.1 hc with rfl | hc
    · rfl
    · exact (digits_word _ c hc).1
  · exact (digits_word _ c hc).1
theorem itoa_inj {n m : Int} (h : Lib.itoa n = Lib.itoa m) : n = m := by
 unfold Lib.itoa at h
 by_cases a : n < 0 <;> by_cases b : m < 0
 · rw [if_pos a, if_pos b] at h
   injection h with _ h
   have := congrArg decVal h
   rw [decVal_digits, decVal_digits] at this
   omega
 · rw [if_pos a, if_neg b] at h
   exact absurd rfl (digits_word m.toNat 45 (by rw [← h]; simp)).2
 · rw [if_neg a, if_pos b] at h
   exact absurd rfl (digits_word n.toNat 45 (by rw [h]; simp)).2
 · rw [if_neg a, if_neg b] at h
   have := congrArg decVal h
   rw [decVal_digits, decVal_digits] at this
   omega
theorem itoa_head (n : Int) : ∃ b t, Lib.itoa n = b :: t ∧ nw b = false := by
 cases h : Lib.itoa n with
 | nil =>
   unfold Lib.itoa at h
   split at h
   · cases h
   · exact absurd h (digits_ne _)
 | cons b t => exact ⟨b, t, rfl, itoa_word n b (by rw [h]; simp)⟩
theorem det_itoa : Det (fun _ : Int => True) Lib.itoa nw := fun x y r1 r2 _ _ h1 h2 e => by
  obtain ⟨e1, e2⟩ := word_run _ _ r1 r2 (itoa_word x) (itoa_word y) h1 h2 e
  exact ⟨itoa_inj e1, e2⟩
theorem name_word {s : ByteArray} (h : nameB s = true) : (∀ c ∈ bsOf s, nw c = false) ∧ ∃ b t, bsOf s = b :: t ∧ nw b = false := by
 unfold nameB at h
 simp only [Bool.and_eq_true, decide_eq_true_eq] at h
 have h1 : ∀ c ∈ bsOf s, nw c = false := fun c hc => by
   have := List.all_eq_true.1 h.2.2 c hc
   unfold nw
   rw [this]; rfl
 refine ⟨h1, ?_⟩
 cases e : bsOf s with
 | nil =>
   have : (bsOf s).length = s.size := rfl
   rw [e] at this
   simp at this
   omega
 | cons b t => exact ⟨b, t, rfl, h1 b (by rw [e]; simp)⟩
theorem det_name : Det (fun s => nameB s = true) bsOf nw := fun x y r1 r2 hx hy h1 h2 e => by
  obtain ⟨e1, e2⟩ := word_run _ _ r1 r2 (name_word hx).1 (name_word hy).1 h1 h2 e
  exact ⟨ByteArray.ext (Array.toList_inj.1 e1), e2⟩
theorem det_tick : Det (fun _ : Tk => True) tickT nw := fun x y r1 r2 _ _ h1 h2 e => by
  unfold tickT at e
  rw [List.append_assoc, List.append_assoc] at e
  obtain ⟨e1, e2⟩ := det_itoa x.process y.process _ _ trivial trivial (stop_cons rfl _) (stop_cons rfl _) e
  injection e2 with _ e2
  obtain ⟨e3, e4⟩ := det_itoa x.n y.n _ _ trivial trivial h1 h2 e2
  refine ⟨?_, e4⟩
  cases x; cases y
  simp only at e1 e3
  rw [e1, e3]
def nwp (b : UInt8) : Bool := nw b && b != 46
theorem det_entry : Det (fun e : En => nameB e.name = true) entryT nwp := fun x y r1 r2 hx hy h1 h2 e => by
  unfold entryT at e
  rw [List.append_assoc, List.append_assoc] at e
  obtain ⟨e1, e2⟩ := det_name x.name y.name _ _ hx hy (stop_cons rfl _) (stop_cons rfl _) e
  injection e2 with _ e2
  obtain ⟨e3, e4⟩ := det_join (s0 := 46) (st := []) (K' := nwp) det_tick rfl (fun b hb => by
    unfold nwp at hb
    simp only [Bool.and_eq_true, bne_iff_ne] at hb
    exact hb) (fun t _ => by
    obtain ⟨b, u, e, hb⟩ := itoa_head t.process
    unfold tickT
    rw [e]
    exact ⟨b, _, rfl, by unfold nwp; rw [hb]; rfl⟩) x.clock y.clock r1 r2 (fun _ _ => trivial) (fun _ _ => trivial) h1 h2 e2
  refine ⟨?_, e4⟩
  cases x; cases y
  simp only at e1 e3
  rw [e1, e3]
def nwc (b : UInt8) : Bool := nw b && b != 44
theorem nwc_iff (b : UInt8) (hb : nwc b = true) : nw b = true ∧ b ≠ 44 := by
 unfold nwc at hb
 simp only [Bool.and_eq_true, bne_iff_ne] at hb
 exact hb
theorem det_names : Det (fun l : List ByteArray => ∀ s ∈ l, nameB s = true) (fun l => Lib.join (l.map bsOf) [44]) nwc :=
  det_join det_name rfl nwc_iff fun s hs => by
    obtain ⟨b, t, e, hb⟩ := (name_word hs).2
    exact ⟨b, t, e, by unfold nwc; rw [hb]; rfl⟩
def nwb (b : UInt8) : Bool := nwp b && b != 32
theorem det_entries : Det (fun l : List En => ∀ e ∈ l, nameB e.name = true) (fun l => Lib.join (l.map entryT) [32, 124, 32]) nwb :=
  det_join (s0 := 32) det_entry rfl (fun b hb => by
    unfold nwb at hb
    simp only [Bool.and_eq_true, bne_iff_ne] at hb
    exact hb) fun e he => by
    obtain ⟨b, t, q, hb⟩ := (name_word he).2
    unfold entryT
    rw [q]
    exact ⟨b, _, rfl, by unfold nwb nwp; rw [hb]; rfl⟩
theorem Det.wrap {α : Type} {A : α → Prop} {enc : α → List UInt8} {K : UInt8 → Bool} (h : Det A enc K) (a b : UInt8) (hb : K b = true) {K' : UInt8 → Bool} : Det A (fun x => a :: (enc x ++ [b])) K' := fun x y r1 r2 hx hy _ _ e => by
  simp only [List.cons_append, List.append_assoc] at e
  injection e with _ e
  obtain ⟨e1, e2⟩ := h x y _ _ hx hy (stop_cons hb _) (stop_cons hb _) e
  injection e2 with _ e2
  exact ⟨e1, e2⟩
theorem textProd_eq : ∀ (ns : List ByteArray) (ps : List Lat) (vs : List Val), ns.length = ps.length → textProd ns ps vs = encZ ((ns.zip ps).map fun x => ((fun v => elemB x.2 v = true), fun v => bsOf x.1 ++ 58 :: 32 :: textV x.2 v)) vs
  | [], [], _, _ => by rw [textProd]; rfl
  | [], _ :: _, _, h => by simp at h
  | _ :: _, [], _, h => by simp at h
  | n :: ns, p :: ps, [], _ => by rw [textProd]; rfl
  | n :: ns, p :: ps, v :: vs, h => by
    rw [textProd, textProd_eq ns ps vs (by simpa using h)]
    rfl
theorem textParts_eq : ∀ (ps : List Lat) (vs : List Val), textParts ps vs = encZ (ps.map fun p => ((fun v => elemB p v = true), textV p)) vs
  | [], _ => by rw [textParts]; rfl
  | p :: ps, [] => by rw [textParts]; rfl
  | p :: ps, v :: vs => by
    rw [textParts, textParts_eq ps vs]
    rfl
theorem allZ_prod : ∀ (ns : List ByteArray) (ps : List Lat) (vs : List Val), ns.length = ps.length → vs.length = ps.length → elemsB ps vs = true → allZ ((ns.zip ps).map fun x => ((fun v => elemB x.2 v = true), fun v => bsOf x.1 ++ 58 :: 32 :: textV x.2 v)) vs
  | [], [], [], _, _, _ => trivial
  | [], _ :: _, _, h, _, _ => by simp at h
  | _ :: _, [], _, h, _, _ => by simp at h
  | [], [], _ :: _, _, h, _ => by simp at h
  | _ :: _, _ :: _, [], _, h, _ => by simp at h
  | n :: ns, p :: ps, v :: vs, h, h2, h3 => by
    rw [elemsB, Bool.and_eq_true] at h3
    exact ⟨h3.1, allZ_prod ns ps vs (by simpa using h) (by simpa using h2) h3.2⟩
theorem allZ_parts : ∀ (ps : List Lat) (vs : List Val), vs.length = ps.length → elemsB ps vs = true → allZ (ps.map fun p => ((fun v => elemB p v = true), textV p)) vs
  | [], [], _, _ => trivial
  | [], _ :: _, h, _ => by simp at h
  | _ :: _, [], h, _ => by simp at h
  | p :: ps, v :: vs, h2, h3 => by
    rw [elemsB, Bool.and_eq_true] at h3
    exact ⟨h3.1, allZ_parts ps vs (by simpa using h2) h3.2⟩
theorem det_text (f : Nat) : ∀ l : Lat, SizeOf.sizeOf l ≤ f → WfL l → Det (fun v => elemB l v = true) (textV l) nw := by
  induction f with
  | zero => intro l hn; cases l; simp at hn
  | succ f ih =>
    intro l hn hwf
    have hk := hwf.kinds
    have hp : ∀ p ∈ l.parts, Det (fun v => elemB p v = true) (textV p) nw := fun p hp => ih p (by have := sizeOf_lpart hp; omega) (hwf.part hp)
    obtain ⟨k, lo, hi, ns, ps, rs⟩ := l
    simp only [Lat.kind, Lat.lo, Lat.hi, Lat.names, Lat.parts, Lat.rules] at hk hp
    intro v w r1 r2 hv hw h1 h2 e
    rcases kind_cases hk.1 with rfl | q | q | rfl | q | rfl | rfl
    · have hu := isE_1.1 hv
      have hu' := isE_1.1 hw
      obtain ⟨vn, vns, vps, ves⟩ := v
      obtain ⟨wn, wns, wps, wes⟩ := w
      simp only [Val.n, Val.names, Val.parts, Val.entries] at hu hu'
      obtain ⟨hv0, rfl, rfl, rfl⟩ := hu
      obtain ⟨hw0, rfl, rfl, rfl⟩ := hu'
      rw [textV, textV, if_pos (by rfl), if_pos (by rfl)] at e
      rcases hv0 with hv0 | hv0 <;> rcases hw0 with hw0 | hw0 <;> subst hv0 <;> subst hw0
      · exact ⟨rfl, List.append_cancel_left e⟩
      · have e : (102 : UInt8) :: _ = (116 : UInt8) :: _ := e
        injection e with e _
        exact absurd e (by decide)
      · have e : (116 : UInt8) :: _ = (102 : UInt8) :: _ := e
        injection e with e _
        exact absurd e (by decide)
      · exact ⟨rfl, List.append_cancel_left e⟩
    · have hu := (isE_23 q).1 hv
      have hu' := (isE_23 q).1 hw
      obtain ⟨vn, vns, vps, ves⟩ := v
      obtain ⟨wn, wns, wps, wes⟩ := w
      simp only [Val.n, Val.names, Val.parts, Val.entries] at hu hu'
      obtain ⟨_, rfl, rfl, rfl⟩ := hu
      obtain ⟨_, rfl, rfl, rfl⟩ := hu'
      rw [textV, textV, if_neg (by omega), if_pos q, if_neg (by omega), if_pos q] at e
      obtain ⟨e1, e2⟩ := det_itoa vn wn r1 r2 trivial trivial h1 h2 e
      exact ⟨by rw [e1], e2⟩
    · have hu := isE_410 q hv
      have hu' := isE_410 q hw
      obtain ⟨vn, vns, vps, ves⟩ := v
      obtain ⟨wn, wns, wps, wes⟩ := w
      simp only [Val.n, Val.names, Val.parts, Val.entries] at hu hu'
      obtain ⟨⟨rfl, rfl, rfl⟩, hA⟩ := hu
      obtain ⟨⟨rfl, rfl, rfl⟩, hB⟩ := hu'
      rw [textV, textV, if_neg (by omega), if_neg (by omega), if_pos q, if_neg (by omega), if_neg (by omega), if_pos q] at e
      obtain ⟨e1, e2⟩ := (det_names.wrap 123 125 rfl (K' := nw)) vns wns r1 r2 (allowed_names hA) (allowed_names hB) h1 h2 e
      exact ⟨by rw [e1], e2⟩
    · have hu := isE_5.1 hv
      have hu' := isE_5.1 hw
      obtain ⟨vn, vns, vps, ves⟩ := v
      obtain ⟨wn, wns, wps, wes⟩ := w
      simp only [Val.n, Val.names, Val.parts, Val.entries] at hu hu'
      obtain ⟨⟨rfl, rfl⟩, hlen, hal, hm⟩ := hu
      obtain ⟨⟨rfl, rfl⟩, hlen', hal', hm'⟩ := hu'
      obtain ⟨p, rfl⟩ := List.length_eq_one_iff.1 (hk.2.1 rfl)
      rw [textV, textV, if_neg (by decide), if_neg (by decide), if_neg (by decide), if_neg (by decide), if_neg (by decide), if_pos (by rfl), if_neg (by decide), if_neg (by decide), if_neg (by decide), if_neg (by decide), if_neg (by decide), if_pos (by rfl)] at e
      simp only [textMap, Val.names, Val.parts] at e
      rw [mapB_one] at hm hm'
      have hA : ∀ {vns : List ByteArray} {vps : List Val}, allowedB ns vns = true → (∀ v ∈ vps, elemB p v = true ∧ valC v (botV p) ≠ 0) → ∀ x ∈ vns.zip vps, nameB x.1 = true ∧ elemB p x.2 = true := fun ha hm x hx => by
        obtain ⟨a, b⟩ := x
        obtain ⟨i1, i2⟩ := List.of_mem_zip hx
        exact ⟨allowed_names ha a i1, (hm b i2).1⟩
      have hd : Det (fun x : ByteArray × Val => nameB x.1 = true ∧ elemB p x.2 = true) (fun x => bsOf x.1 ++ 58 :: 32 :: textV p x.2) nw := fun x y r1 r2 hx hy h1 h2 e => by
        rw [List.append_assoc, List.append_assoc] at e
        obtain ⟨e1, e2⟩ := det_name x.1 y.1 _ _ hx.1 hy.1 (stop_cons rfl _) (stop_cons rfl _) e
        injection e2 with _ e2
        injection e2 with _ e2
        obtain ⟨e3, e4⟩ := hp p (by simp) x.2 y.2 _ _ hx.2 hy.2 h1 h2 e2
        exact ⟨Prod.ext e1 e3, e4⟩
      have hj := det_join (s0 := 44) (st := [32]) (K' := nwc) hd rfl nwc_iff fun x hx => by
        obtain ⟨b, t, q, hb⟩ := (name_word hx.1).2
        rw [q]
        exact ⟨b, _, rfl, by unfold nwc; rw [hb]; rfl⟩
      obtain ⟨e1, e2⟩ := (hj.wrap 123 125 rfl (K' := nw)) (vns.zip vps) (wns.zip wps) r1 r2 (hA hal hm) (hA hal' hm') h1 h2 e
      refine ⟨?_, e2⟩
      have a1 := congrArg (List.map Prod.fst) e1
      have a2 := congrArg (List.map Prod.snd) e1
      rw [List.map_fst_zip (by omega), List.map_fst_zip (by omega)] at a1
      rw [List.map_snd_zip (by omega), List.map_snd_zip (by omega)] at a2
      rw [a1, a2]
    · have hu := (isE_67 q).1 hv
      have hu' := (isE_67 q).1 hw
      obtain ⟨vn, vns, vps, ves⟩ := v
      obtain ⟨wn, wns, wps, wes⟩ := w
      simp only [Val.n, Val.names, Val.parts, Val.entries] at hu hu'
      obtain ⟨⟨rfl, rfl, rfl⟩, hlen, hm⟩ := hu
      obtain ⟨⟨rfl, rfl, rfl⟩, hlen', hm'⟩ := hu'
      rcases q with rfl | rfl
      · rw [textV, textV, if_neg (by decide), if_neg (by decide), if_neg (by decide), if_neg (by decide), if_neg (by decide), if_neg (by decide), if_pos (by rfl), if_neg (by decide), if_neg (by decide), if_neg (by decide), if_neg (by decide), if_neg (by decide), if_neg (by decide), if_pos (by rfl)] at e
        simp only [Val.parts] at e
        have hnp : ns.length = ps.length := (hk.2.2.2.1 rfl).1.symm
        rw [textProd_eq ns ps vps hnp, textProd_eq ns ps wps hnp] at e
        have hz := det_zip (K := nw) (s0 := 44) (st := [32]) rfl ((ns.zip ps).map fun x => ((fun v => elemB x.2 v = true), fun v => bsOf x.1 ++ 58 :: 32 :: textV x.2 v)) fun z hz => by
          obtain ⟨x, hx, rfl⟩ := List.mem_map.1 hz
          obtain ⟨a, p⟩ := x
          intro x y r1 r2 hx' hy h1 h2 e
          simp only [List.append_assoc] at e
          have e := List.append_cancel_left e
          simp only [List.cons_append] at e
          injection e with _ e
          injection e with _ e
          exact hp p (List.of_mem_zip hx).2 x y _ _ hx' hy h1 h2 e
        obtain ⟨e1, e2⟩ := (hz.wrap 40 41 rfl (K' := nw)) vps wps r1 r2 (allZ_prod ns ps vps hnp hlen hm) (allZ_prod ns ps wps hnp hlen' hm') h1 h2 e
        exact ⟨by rw [e1], e2⟩
      · rw [textV, textV, if_neg (by decide), if_neg (by decide), if_neg (by decide), if_neg (by decide), if_neg (by decide), if_neg (by decide), if_neg (by decide), if_neg (by decide), if_neg (by decide), if_neg (by decide), if_neg (by decide), if_neg (by decide), if_neg (by decide), if_neg (by decide)] at e
        simp only [Val.parts] at e
        rw [textParts_eq ps vps, textParts_eq ps wps] at e
        have hz := det_zip (K := nw) (s0 := 44) (st := [32]) rfl (ps.map fun p => ((fun v => elemB p v = true), textV p)) fun z hz => by
          obtain ⟨p, hx, rfl⟩ := List.mem_map.1 hz
          exact hp p hx
        obtain ⟨e1, e2⟩ := (hz.wrap 60 62 rfl (K' := nw)) vps wps r1 r2 (allZ_parts ps vps hlen hm) (allZ_parts ps wps hlen' hm') h1 h2 e
        exact ⟨by rw [e1], e2⟩
    · have hF : ∀ x : Val, elemB (.mk 8 lo hi ns ps rs) x = true → x = .mk 0 [] [] [] ∧ textV (.mk 8 lo hi ns ps rs) x = [63] ∨ x = .mk 2 [] [] [] ∧ textV (.mk 8 lo hi ns ps rs) x = [33] ∨ ∃ s, x = .mk 1 [s] [] [] ∧ textV (.mk 8 lo hi ns ps rs) x = bsOf s ∧ nameB s = true := fun x hx => by
        have hu := isE_8.1 hx
        obtain ⟨vn, vns, vps, ves⟩ := x
        simp only [Val.n, Val.names, Val.parts, Val.entries] at hu
        obtain ⟨rfl, rfl, hu⟩ := hu
        rw [textV, if_neg (by decide), if_neg (by decide), if_neg (by decide), if_pos (by rfl)]
        rcases hu with ⟨rfl, rfl⟩ | ⟨rfl, rfl⟩ | ⟨rfl, hlen, ha⟩
        · exact .inl ⟨rfl, rfl⟩
        · exact .inr (.inl ⟨rfl, rfl⟩)
        · obtain ⟨s, rfl⟩ := List.length_eq_one_iff.1 hlen
          exact .inr (.inr ⟨s, rfl, rfl, allowed_names ha s (by simp)⟩)
      have hne : ∀ {s : ByteArray} {r1 r2 : List UInt8} {c : UInt8}, nameB s = true → nw c = true → bsOf s ++ r1 = c :: r2 → False := fun hs hc e => by
        obtain ⟨b, t, a1, a2⟩ := (name_word hs).2
        rw [a1, List.cons_append] at e
        injection e with e _
        rw [e, hc] at a2
        cases a2
      rcases hF v hv with ⟨rfl, e1⟩ | ⟨rfl, e1⟩ | ⟨s, rfl, e1, hs⟩ <;> rcases hF w hw with ⟨rfl, e2⟩ | ⟨rfl, e2⟩ | ⟨s', rfl, e2, hs'⟩ <;> rw [e1] at e <;> (try rw [e2] at e)
      · injection e with _ e; exact ⟨rfl, e⟩
      · injection e with e _; cases e
      · exact (hne hs' rfl e.symm).elim
      · injection e with e _; cases e
      · injection e with _ e; exact ⟨rfl, e⟩
      · exact (hne hs' rfl e.symm).elim
      · exact (hne hs rfl e).elim
      · exact (hne hs rfl e).elim
      · obtain ⟨e1, e2⟩ := det_name s s' r1 r2 hs hs' h1 h2 e
        exact ⟨by rw [e1], e2⟩
    · have hu := isE_9.1 hv
      have hu' := isE_9.1 hw
      obtain ⟨vn, vns, vps, ves⟩ := v
      obtain ⟨wn, wns, wps, wes⟩ := w
      simp only [Val.n, Val.names, Val.parts, Val.entries] at hu hu'
      obtain ⟨⟨rfl, rfl, rfl⟩, hv⟩ := hu
      obtain ⟨⟨rfl, rfl, rfl⟩, hw⟩ := hu'
      rw [textV, textV, if_neg (by decide), if_neg (by decide), if_neg (by decide), if_neg (by decide), if_pos (by rfl), if_neg (by decide), if_neg (by decide), if_neg (by decide), if_neg (by decide), if_pos (by rfl)] at e
      obtain ⟨e1, e2⟩ := (det_entries.wrap 91 93 rfl (K' := nw)) ves wes r1 r2 (fun x hx => (regGo_mem ves 0 ves hv x hx).2) (fun x hx => (regGo_mem wes 0 wes hw x hx).2) h1 h2 e
      exact ⟨by rw [e1], e2⟩
theorem textV_inj {l : Lat} (hl : chkE l = 0) {v w : Val} (hv : elemB l v = true) (hw : elemB l w = true) (h : textV l v = textV l w) : v = w :=
 (det_text _ l (Nat.le_refl _) (chkE_wf hl) v w [] [] hv hw (stop_nil _) (stop_nil _) (by rw [h])).1
end Go.Proofs.YtmdjnaobllajmaaGreatDoor
