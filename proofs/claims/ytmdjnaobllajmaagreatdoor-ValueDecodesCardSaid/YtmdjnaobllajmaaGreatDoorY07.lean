/-
  What the statements of the chapter share, part 07: D11, D12, D13, D14.
-/
import Derived.Test.YtmdjnaobllajmaaGreatDoorY06
set_option linter.unusedVariables false
set_option linter.unusedSimpArgs false
set_option maxRecDepth 100000
set_option maxHeartbeats 8000000
namespace Go.Proofs.YtmdjnaobllajmaaGreatDoor
open _root_.Array renaming getD_eq_getD_getElem? → Z0, getElem?_eq_some_iff → Z3, getElem?_setIfInBounds → Z7
open _root_.Bool renaming and_eq_true → Z8
open _root_.List renaming getElem?_eq_some_iff → Z1, getElem?_eq_getElem → Z2, getElem?_append_left → Z4, mem_singleton → Z5
open _root_.Option renaming getD_some → Z6
open Go.RowKit
section
variable {P : Program} {G : Nat → D} {n : Nat} {e : Nat → D} {h : List Ob} {ops : Array Oper} {md : Region.Mode}
structure Eff where
 R : List (Nat × Ob)
 W : List (Nat × Ob)
 N : List Ob
 d : Nat → D
def Xc (h : List Ob) : List (Nat × Ob) → List Ob
 | [] => h
 | x :: t => Xc (h.set x.1 x.2) t
theorem U2 : ∀ (W : List (Nat × Ob)) (h : List Ob), (Xc h W).length = h.length
 | [], _ => rfl
 | x :: t, h => by rw [Xc, U2 t]; simp
theorem Zf2 {i : Nat} : ∀ (W : List (Nat × Ob)) (h : List Ob), (∀ x ∈ W, x.1 ≠ i) → (Xc h W)[i]? = h[i]?
 | [], _, _ => rfl
 | x :: t, h, q => by rw [Xc, Zf2 t _ fun y hy => q y (by simp [hy]), List.getElem?_set_ne (q x (by simp))]
theorem Zn6 : ∀ (W : List (Nat × Ob)) (h N : List Ob), (∀ x ∈ W, x.1 < h.length) → Xc (h ++ N) W = Xc h W ++ N
 | [], _, _, _ => rfl
 | x :: t, h, N, q => by
  rw [Xc, Xc, List.set_append_left _ _ (q x (by simp))]
  exact Zn6 t _ N fun y hy => by rw [List.length_set]; exact q y (by simp [hy])
theorem Yb1 : ∀ (W : List (Nat × Ob)) (h : List Ob) (i : Nat) (ob : Ob), (∀ x ∈ W, x.1 ≠ i) → Xc (h.set i ob) W = (Xc h W).set i ob
 | [], _, _, _, _ => rfl
 | x :: t, h, i, ob, q => by
  rw [Xc, Xc, List.set_comm _ _ (Ne.symm (q x (by simp)))]
  exact Yb1 t _ i ob fun y hy => q y (by simp [hy])
theorem Zh1 : ∀ (V W : List (Nat × Ob)) (h : List Ob), (∀ x ∈ V, ∀ y ∈ W, x.1 ≠ y.1) → Xc (Xc h V) W = Xc (Xc h W) V
 | [], _, _, _ => rfl
 | x :: t, W, h, q => by
  rw [Xc, Xc, Zh1 t W _ fun y hy => q y (by simp [hy]), Yb1 W h x.1 x.2 fun y hy => Ne.symm (q x (by simp) y hy)]
def Eff.ok (E : Eff) (h : List Ob) : Prop := ∀ x ∈ E.R, h[x.1]? = some x.2
def Eff.heap (E : Eff) (h : List Ob) : List Ob := Xc h E.W ++ E.N
def Eff.fit (E : Eff) : Prop := (∀ x ∈ E.W, ∃ y ∈ E.R, y.1 = x.1) ∧ (E.N = [] → ∀ m m', E.d m = E.d m')
def nop : Eff := ⟨[], [], [], fun _ => .v undef⟩
def Stp (P : Program) (G : Nat → D) (op : Op) (e : Nat → D) (h h' : List Ob) (d : D) : Prop := aOp P G e h (fun h1 d1 => h1 = h' ∧ d1 = d) op ∨
 ∃ x args tys f cap, op = .call ⟨.value x, args, tys⟩ ∧ ev G e x = .fn f cap ∧ entB P f = true ∧ Does P G f h (args.toList.map (ev G e) ++ cap) (fun h1 r => h1 = h' ∧ r = d)
theorem Stp_congr {op : Op} {e' : Nat → D} {h' : List Ob} {d : D} (key : ∀ x ∈ op.operands, ev G e' x = ev G e x) (k : Stp P G op e h h' d) : Stp P G op e' h h' d := by
 rcases k with k | ⟨x, args, tys, f, cap, e1, e2, e3, e4⟩
 · exact .inl (Zn1 key k)
 · rw [e1] at key
   have h1 := key x (by simp [Op.operands, Call.operands])
   have h2 : args.toList.map (ev G e') = args.toList.map (ev G e) := List.map_congr_left fun y hy => key y (by simp [Op.operands, Call.operands]; exact .inr (by simpa using hy))
   exact .inr ⟨x, args, tys, f, cap, e1, h1.trans e2, e3, by rw [h2]; exact e4⟩
def YE (P : Program) (G : Nat → D) (op : Op) (e : Nat → D) (E : Eff) : Prop := E.fit ∧ ∀ h, E.ok h → Stp P G op e h (E.heap h) (E.d h.length)
def YDE (P : Program) (G : Nat → D) (ops : Array Oper) (o : Oper) (E : Eff) (e : Nat → D) : Prop := (Yo ops o.guard e = some true ∧ YE P G o.op e E) ∨ (Yo ops o.guard e = some false ∧ E = nop)
theorem YDE.fit {o : Oper} {E : Eff} (q : YDE P G ops o E e) : E.fit := by
 rcases q with ⟨_, q⟩ | ⟨_, rfl⟩
 · exact q.1
 · exact ⟨by simp [nop], fun _ _ _ => rfl⟩
theorem YDE.congr {o : Oper} {E : Eff} {dst : Option Nat} {v : D} (q : ∀ t, dst = some t → t ∉ o.looksAt ops) : YDE P G ops o E (putE n e dst v) ↔ YDE P G ops o E e := by
 have key : ∀ x ∈ o.op.operands, ev G (putE n e dst v) x = ev G e x := fun x hx => Yj1 fun t ht => Zf9 (q t ht) x hx
 unfold YDE
 rw [Jy q]
 exact or_congr (and_congr Iff.rfl ⟨fun ⟨a, b⟩ => ⟨a, fun h k => Stp_congr (fun x hx => (key x hx).symm) (b h k)⟩, fun ⟨a, b⟩ => ⟨a, fun h k => Stp_congr key (b h k)⟩⟩) Iff.rfl
def compat (m0 : Nat) (E F : Eff) : Prop := (∀ x ∈ E.W, ∀ y ∈ F.R, x.1 ≠ y.1) ∧ (∀ x ∈ F.W, ∀ y ∈ E.R, x.1 ≠ y.1) ∧ (E.N = [] ∨ (F.N = [] ∧ ∀ y ∈ F.R, y.1 < m0)) ∧ (F.N = [] ∨ (E.N = [] ∧ ∀ y ∈ E.R, y.1 < m0))
theorem compat.symm {m0 : Nat} {E F : Eff} (q : compat m0 E F) : compat m0 F E := ⟨q.2.1, q.1, q.2.2.2, q.2.2.1⟩
theorem Eff.heap_len (E : Eff) (h : List Ob) : (E.heap h).length = h.length + E.N.length := by unfold Eff.heap; rw [List.length_append, U2]
theorem Eff.wlt {E : Eff} (f : E.fit) {h : List Ob} (k : E.ok h) : ∀ x ∈ E.W, x.1 < h.length := fun x hx => by
 obtain ⟨y, hy, he⟩ := f.1 x hx
 rw [← he]; exact (Z1.1 (k y hy)).1
theorem Eff.ok_after {m0 : Nat} {E F : Eff} (c : compat m0 E F) (fE : E.fit) (kE : E.ok h) (kF : F.ok h) : F.ok (E.heap h) := fun y hy => by
 have hlt := (Z1.1 (kF y hy)).1
 unfold Eff.heap
 rw [Z4 (by rw [U2]; exact hlt), Zf2 _ _ fun x hx => c.1 x hx y hy]
 exact kF y hy
theorem Eff.ok_before {m0 : Nat} {E F : Eff} (c : compat m0 E F) (hm : m0 ≤ h.length) (kF : F.ok (E.heap h)) : F.ok h := fun y hy => by
 have q := kF y hy
 have hlt : y.1 < h.length := by
  rcases c.2.2.1 with hn | ⟨_, hn⟩
  · have := (Z1.1 q).1
    rw [Eff.heap_len, hn] at this; simpa using this
  · exact Nat.lt_of_lt_of_le (hn y hy) hm
 unfold Eff.heap at q
 rwa [Z4 (by rw [U2]; exact hlt), Zf2 _ _ fun x hx => c.1 x hx y hy] at q
theorem Eff.heap_comm {m0 : Nat} {E F : Eff} (c : compat m0 E F) (fE : E.fit) (fF : F.fit) (kE : E.ok h) (kF : F.ok h) : F.heap (E.heap h) = E.heap (F.heap h) := by
 have dis : ∀ x ∈ E.W, ∀ y ∈ F.W, x.1 ≠ y.1 := fun x hx y hy => by
  obtain ⟨z, hz, he⟩ := fF.1 y hy
  rw [← he]; exact c.1 x hx z hz
 unfold Eff.heap
 rw [Zn6 F.W _ _ fun x hx => by rw [U2]; exact Eff.wlt fF kF x hx, Zn6 E.W _ _ fun x hx => by rw [U2]; exact Eff.wlt fE kE x hx, Zh1 E.W F.W h dis, List.append_assoc, List.append_assoc]
 rcases c.2.2.1 with hn | ⟨hn, _⟩ <;> simp [hn]
theorem Eff.d_after {m0 : Nat} {E F : Eff} (c : compat m0 E F) (fF : F.fit) : F.d (E.heap h).length = F.d h.length := by
 rcases c.2.2.1 with hn | ⟨hn, _⟩
 · rw [Eff.heap_len, hn]; rfl
 · exact fF.2 hn _ _
def aeOp (P : Program) (G : Nat → D) (n : Nat) (ops : Array Oper) (ef : Nat → Eff) (i : Nat) (K : (Nat → D) → List Ob → Prop) (e : Nat → D) (h : List Ob) : Prop := match ops[i]? with
 | none => K e h
 | some o => YDE P G ops o (ef i) e ∧ (ef i).ok h ∧ K (putE n e o.dst ((ef i).d h.length)) ((ef i).heap h)
def aeAny (P : Program) (G : Nat → D) (n : Nat) (md : Region.Mode) (ops : Array Oper) (ef : Nat → Eff) (Q : (Nat → D) → List Ob → Prop) : Nat → Array Bool → (Nat → D) → List Ob → Prop
 | 0, listed, e, h => Region.ready md ops listed = [] ∧ Q e h
 | fuel + 1, listed, e, h => (Region.ready md ops listed = [] → Q e h) ∧ ∀ i ∈ Region.ready md ops listed, aeOp P G n ops ef i (aeAny P G n md ops ef Q fuel (listed.setIfInBounds i true)) e h
def Closed (md : Region.Mode) (ops : Array Oper) (listed : Array Bool) : Prop := ∀ j oj, ops[j]? = some oj → listed.getD j true = true → ∀ e ∈ oj.after, Region.binds md e = true → listed.getD e.on false = true
theorem getD_setT {l : Array Bool} {i j : Nat} {d : Bool} (q : l.getD j d = true) : (l.setIfInBounds i true).getD j d = true := by
 rw [Z0] at q ⊢
 rw [Z7]
 split
 · rename_i hij
   split
   · rfl
   · rename_i hlt
     rw [Array.getElem?_eq_none (by subst hij; omega)] at q; exact q
 · exact q
theorem Closed.set {listed : Array Bool} {i : Nat} (q : Closed md ops listed) (r : i ∈ Region.ready md ops listed) : Closed md ops (listed.setIfInBounds i true) := fun j oj hj hl e he hb => by
 obtain ⟨hiun, oi, hoi, hall⟩ := mem_ready.1 r
 by_cases hij : i = j
 · subst hij
   rw [hj] at hoi; cases hoi
   exact getD_setT (hall e he hb)
 · rw [getD_set_ne true hij] at hl
   exact getD_setT (q j oj hj hl e he hb)
def twB (md : Region.Mode) (ops : Array Oper) : Nat → Nat → Nat → Bool
 | 0, _, _ => false
 | k + 1, j, i => match ops[j]? with
  | some o => o.after.any fun e => Region.binds md e && (Nat.beq e.on i || (Nat.blt i e.on && twB md ops k e.on i))
  | none => false
theorem Ye6 {listed : Array Bool} {i : Nat} (q : Closed md ops listed) (hi : i < ops.size) : ∀ (k j : Nat) (oj : Oper), ops[j]? = some oj → (∀ e ∈ oj.after, Region.binds md e = true → listed.getD e.on false = true) → twB md ops k j i = true → listed.getD i false = true
 | 0, _, _, _, _, h => by rw [twB] at h; cases h
 | k + 1, j, oj, hj, hd, h => by
  rw [twB, hj] at h
  simp only [Array.any_eq_true'] at h
  obtain ⟨e, he, h⟩ := h
  simp only [Z8, Bool.or_eq_true] at h
  obtain ⟨hb, h⟩ := h
  have hon := hd e he hb
  rcases h with h | ⟨_, h⟩
  · rw [← Nat.eq_of_beq_eq_true h]; exact hon
  · cases hk : ops[e.on]? with
    | none =>
     cases k with
     | zero => rw [twB] at h; cases h
     | succ k => rw [twB, hk] at h; cases h
    | some ok =>
     refine Ye6 q hi k e.on ok hk (q e.on ok hk ?_) h
     rw [Z0] at hon ⊢
     cases hl : listed[e.on]? with
     | none => rfl
     | some b => rw [hl] at hon; exact hon
theorem aeAny_first {ef : Nat → Eff} {m0 : Nat} {Q : (Nat → D) → List Ob → Prop} {i : Nat} {oi : Oper} (hi : ops[i]? = some oi) : ∀ (fuel : Nat) (listed : Array Bool) (e : Nat → D) (h : List Ob), m0 ≤ h.length → Closed md ops listed →
 (∀ j oj, ops[j]? = some oj → j ≠ i → listed.getD j true = false → (∀ e ∈ oj.after, Region.binds md e = true → e.on ≠ i) → (∀ k, twB md ops k j i = false) → oi.apart ops oj = true ∧ compat m0 (ef i) (ef j)) →
 i ∈ Region.ready md ops listed → YDE P G ops oi (ef i) e → (ef i).ok h → aeAny P G n md ops ef Q fuel (listed.setIfInBounds i true) (putE n e oi.dst ((ef i).d h.length)) ((ef i).heap h) → aeAny P G n md ops ef Q (fuel + 1) listed e h := by
  intro fuel
  induction fuel with
  | zero =>
    intro listed a h hm _ _ hr hy hk H
    refine ⟨fun h => (by rw [h] at hr; cases hr), fun j hj => ?_⟩
    by_cases hji : j = i
    · subst hji; unfold aeOp; simp only [hi]; exact ⟨hy, hk, H⟩
    · have := ready_mono hj hji
      rw [H.1] at this
      cases this
  | succ fuel ih =>
    intro listed a h hm hcl hfree hr hy hk H
    refine ⟨fun h => (by rw [h] at hr; cases hr), fun j hj => ?_⟩
    by_cases hji : j = i
    · subst hji; unfold aeOp; simp only [hi]; exact ⟨hy, hk, H⟩
    · have h1 := H.2 j (ready_mono hj hji)
      obtain ⟨hjun, oj, hoj, hall⟩ := mem_ready.1 hj
      have hnot : ∀ e ∈ oj.after, Region.binds md e = true → e.on ≠ i := fun e he hb heq => by
        have h1 := hall e he hb
        have h0 := (mem_ready.1 hr).1
        rw [heq] at h1
        rcases Nat.lt_or_ge i listed.size with h' | h'
        · simp [h'] at h0 h1; rw [h0] at h1; cases h1
        · simp [Array.getElem?_eq_none h'] at h1
      have hnt : ∀ k, twB md ops k j i = false := fun k => by
       cases ht : twB md ops k j i with
       | false => rfl
       | true =>
        have h1 := Ye6 hcl (Z3.1 hi).1 k j oj hoj hall ht
        have h0 := (mem_ready.1 hr).1
        rw [Z0] at h0 h1
        cases hl : listed[i]? with
        | none => rw [hl] at h0; cases h0
        | some b => rw [hl] at h0 h1; simp at h0 h1; rw [h0] at h1; cases h1
      obtain ⟨hap, hc⟩ := hfree j oj hoj hji hjun hnot hnt
      obtain ⟨a1, a2, a3⟩ := Oper.apart_spec hap
      unfold aeOp at h1 ⊢
      simp only [hoj] at h1 ⊢
      obtain ⟨y1, y2, y3⟩ := h1
      have yj : YDE P G ops oj (ef j) a := (YDE.congr a1).1 y1
      have kj : (ef j).ok h := Eff.ok_before hc hm y2
      have ki : (ef i).ok ((ef j).heap h) := Eff.ok_after hc.symm yj.fit kj hk
      have hfree' : ∀ k ok, ops[k]? = some ok → k ≠ i → (listed.setIfInBounds j true).getD k true = false →
          (∀ e ∈ ok.after, Region.binds md e = true → e.on ≠ i) → (∀ f, twB md ops f k i = false) → oi.apart ops ok = true ∧ compat m0 (ef i) (ef k) := fun k ok hk hki hun hno hnt => by
        refine hfree k ok hk hki ?_ hno hnt
        by_cases hjk : j = k
        · subst hjk; exact hjun
        · rw [getD_set_ne true hjk] at hun; exact hun
      refine ⟨yj, kj, ih (listed.setIfInBounds j true) _ _ (by rw [Eff.heap_len]; omega) (hcl.set hj) hfree' (ready_mono hr (Ne.symm hji)) ((YDE.congr a3).2 hy) ki ?_⟩
      rw [Array.setIfInBounds_comm _ _ hji]
      rw [Eff.d_after hc yj.fit] at y3
      rw [Eff.d_after hc.symm hy.fit, ← Eff.heap_comm hc hy.fit yj.fit hk kj, ← Zw5 a2]
      exact y3
def effOk (md : Region.Mode) (m0 : Nat) (ops : Array Oper) (ef : Nat → Eff) : Prop := ∀ i j oj, i < j → ops[j]? = some oj → (∀ e ∈ oj.after, Region.binds md e = true → e.on ≠ i) → (∀ k, twB md ops k j i = false) → compat m0 (ef i) (ef j)
def ae (P : Program) (G : Nat → D) (n : Nat) (ops : Array Oper) (ef : Nat → Eff) (Q : (Nat → D) → List Ob → Prop) : Nat → List Oper → (Nat → D) → List Ob → Prop
 | _, [], e, h => Q e h
 | k, o :: rest, e, h => YDE P G ops o (ef k) e ∧ (ef k).ok h ∧ ae P G n ops ef Q (k + 1) rest (putE n e o.dst ((ef k).d h.length)) ((ef k).heap h)
theorem aeAny_lex {ef : Nat → Eff} {m0 : Nat} {Q : (Nat → D) → List Ob → Prop} (hE : effOk md m0 ops ef) : ∀ (l : List Oper) (k : Nat) (listed : Array Bool) (e : Nat → D) (h : List Ob), m0 ≤ h.length → Closed md ops listed → (∀ j, j < k → listed.getD j true = true) → (∀ j, l[j]? = ops[k + j]?) → Region.lexFrom md ops l.length k listed = true → ae P G n ops ef Q k l e h → aeAny P G n md ops ef Q l.length listed e h
 | [], _, _, _, _, _, _, _, _, hB, q => ⟨by simpa [Region.lexFrom] using hB, q⟩
 | o :: l, k, listed, e, h, hm, hcl, hdone, hl, hB, q => by
    have h0 : ops[k]? = some o := by simpa using (hl 0).symm
    simp only [List.length_cons, Region.lexFrom, Z8] at hB
    obtain ⟨⟨hr, hf⟩, hB'⟩ := hB
    obtain ⟨hy, hk, hK⟩ := q
    have hfr := Region.free_spec h0 hf
    refine aeAny_first h0 l.length listed e h hm hcl (fun j oj hj hjk hun hno hnt => ⟨hfr j oj hj hjk hun hno, ?_⟩) (by simpa using hr) hy hk
      (aeAny_lex hE l (k + 1) _ _ _ (by rw [Eff.heap_len]; omega) (hcl.set (by simpa using hr)) (fun j hj => ?_) (fun j => by have := hl (j + 1); simpa [Nat.add_assoc, Nat.add_comm 1 j] using this) hB' hK)
    · have hlt : k < j := by
       rcases Nat.lt_or_ge j k with h' | h'
       · rw [hdone j h'] at hun; cases hun
       · omega
      exact hE k j oj hlt hj hno hnt
    · by_cases hjk : k = j
      · subst hjk
        rw [Z0, Z7]
        simp only [if_true]
        split <;> rfl
      · rw [getD_set_ne true hjk]; exact hdone j (by omega)
end
section
variable {P : Program} {G : Nat → D} {n : Nat} {e : Nat → D} {h : List Ob} {ops : Array Oper} {md : Region.Mode}
section
variable {B : Base} {a : Act} {w : World}
theorem Stp_sound {o : Oper} {h' : List Ob} {d : D} {K : Act → World → Prop} {R : Exit → Act → World → Prop} (q : Stp P G o.op e h h' d) (r : Sit G B ⟨n, e, h⟩ a w) (k : ∀ a' w', Sit G B ⟨n, putE n e o.dst d, h'⟩ a' w' → K a' w') : o.wp P a w K R := by
 obtain ⟨hd, p, r⟩ := r
 obtain ⟨dst, op, ty, pos, aft, gd⟩ := o
 have fin : ∀ (s' : S), s' = S.put ⟨n, e, h'⟩ dst d → s' = ⟨n, putE n e dst d, h'⟩ := fun s' hs => by rw [hs, Za6]
 rcases q with q | ⟨x, args, tys, f, cap, rfl, e2, e3, e4⟩
 · obtain ⟨v, w', hd', h'', p', d', hr, ⟨rfl, rfl⟩, o', q', ev'⟩ := Zn0 (dst := dst) (ty := ty) (pos := pos) (aft := aft) (gd := gd) r q
   unfold Oper.wp
   have := r.put o' ev' q' dst
   rw [fin _ rfl] at this
   rcases hr with hr | ⟨hr, rfl⟩
   · rw [hr]; exact k _ _ ⟨hd', p', this⟩
   · rw [hr]; exact k _ _ ⟨hd', p', this⟩
 · have q0 := r.ev x
   rw [e2, rd] at q0
   obtain ⟨cs, e1, q0⟩ := q0
   have hrun : (execOp a.eval ⟨dst, .call ⟨.value x, args, tys⟩, ty, pos, aft, gd⟩).run P w = .ok (.enter f (args.map a.eval ++ cs)) w := by
    simp [execOp, resolve, e1, Deferred.ofValue, invoke, Zk1 e3]
   unfold Oper.wp
   rw [hrun, Oper.upon_enter]
   have hargs : rdL hd h (only p w) (args.toList.map (ev G e) ++ cap) (args.toList.map a.eval ++ cs.toList) := Ww (Zv3 r _) q0
   have := e4 w hd p _ r.ok hargs
   rw [show (args.toList.map a.eval ++ cs.toList).toArray = args.map a.eval ++ cs by apply Array.ext'; simp] at this
   refine this.mono ?_
   rintro e' w' ⟨v, hd', h'', d', p', rfl, ⟨rfl, rfl⟩, o, q2, ev'⟩
   have := r.put o ev' q2 dst
   rw [fin _ rfl] at this
   exact k _ _ ⟨hd', p', this⟩
theorem Zb7 {ef : Nat → Eff} {Q : (Nat → D) → List Ob → Prop} {R : Exit → Act → World → Prop} (k : ∀ e h a w, Q e h → Sit G B ⟨n, e, h⟩ a w → R .normal a w) : ∀ (fuel : Nat) (listed : Array Bool) (e : Nat → D) (h : List Ob) (a : Act) (w : World), Sit G B ⟨n, e, h⟩ a w → aeAny P G n md ops ef Q fuel listed e h → wpAny P md ops R fuel listed a w
 | 0, _, _, _, _, _, r, q => ⟨q.1, k _ _ _ _ q.2 r⟩
 | fuel + 1, listed, e, h, a, w, r, q => ⟨fun h0 => k _ _ _ _ (q.1 h0) r, fun i hi => by
   have q2 := q.2 i hi
   unfold aeOp at q2
   unfold wpOp
   split
   · rename_i ho; rw [ho] at q2; exact Zb7 k fuel _ _ _ _ _ r q2
   · rename_i o ho
     rw [ho] at q2
     obtain ⟨hy, hk, hn⟩ := q2
     obtain ⟨hd, p, r'⟩ := id r
     rcases hy with ⟨hw, _, hs⟩ | ⟨hw, hE⟩
     · have hw' := Xo (o := o) r' hw
       rw [if_pos hw']
       exact .inl (Stp_sound (hs h hk) r fun a' w' r2 => Zb7 k fuel _ _ _ _ _ r2 hn)
     · have hw' := Xo (o := o) r' hw
       rw [if_neg (by rw [hw']; decide)]
       rw [hE] at hn
       have r3 := r'.put0 (d := .v undef) (v := undef) (by rw [rd]) o.dst
       rw [Za6] at r3
       have hh : nop.heap h = h := by simp [nop, Eff.heap, Xc]
       rw [hh] at hn
       exact Zb7 k fuel _ _ _ _ _ ⟨hd, p, r3⟩ hn⟩
end
def waitsB (ops : Array Oper) (j i : Nat) : Bool := match ops[j]? with
 | some _ => twB .any ops (j + 1) j i
 | none => true
def chk1 (m0 : Nat) (ops : Array Oper) (i : Nat) (E : Eff) : Nat → List Eff → Prop
 | _, [] => True
 | j, F :: t => (waitsB ops j i = true ∨ compat m0 E F) ∧ chk1 m0 ops i E (j + 1) t
def W5 (m0 : Nat) (ops : Array Oper) : Nat → List Eff → Prop
 | _, [] => True
 | i, E :: t => chk1 m0 ops i E (i + 1) t ∧ W5 m0 ops (i + 1) t
theorem chk1_get {m0 i : Nat} {E : Eff} : ∀ (es : List Eff) (k j : Nat) (F : Eff), chk1 m0 ops i E k es → es[j]? = some F → waitsB ops (k + j) i = true ∨ compat m0 E F
 | [], _, _, _, _, q => by simp at q
 | F :: t, k, 0, F', q, r => by simp at r; subst r; exact q.1
 | F :: t, k, j + 1, F', q, r => by rw [show k + (j + 1) = k + 1 + j by omega]; exact chk1_get t (k + 1) j F' q.2 (by simpa using r)
theorem Yd7 {m0 : Nat} : ∀ (es : List Eff) (k i j : Nat) (E F : Eff), W5 m0 ops k es → es[i]? = some E → es[j]? = some F → i < j → waitsB ops (k + j) (k + i) = true ∨ compat m0 E F
 | [], _, _, _, _, _, _, q, _, _ => by simp at q
 | X :: t, k, 0, j, E, F, q, r1, r2, hlt => by
  simp at r1; subst r1
  cases j with
  | zero => omega
  | succ j => rw [show k + (j + 1) = k + 1 + j by omega]; exact chk1_get t (k + 1) j F q.1 (by simpa using r2)
 | X :: t, k, i + 1, j, E, F, q, r1, r2, hlt => by
  cases j with
  | zero => omega
  | succ j =>
   rw [show k + (j + 1) = k + 1 + j by omega, show k + (i + 1) = k + 1 + i by omega]
   exact Yd7 t (k + 1) i j E F q.2 (by simpa using r1) (by simpa using r2) (by omega)
def aeS (P : Program) (G : Nat → D) (n m0 : Nat) (ops : Array Oper) (Q : (Nat → D) → List Ob → Prop) : List Eff → List Oper → (Nat → D) → List Ob → Prop
 | done, [], e, h => W5 m0 ops 0 done.reverse ∧ Q e h
 | done, o :: rest, e, h => ∃ E, YDE P G ops o E e ∧ E.ok h ∧ aeS P G n m0 ops Q (E :: done) rest (putE n e o.dst (E.d h.length)) (E.heap h)
theorem aeS_ae {m0 : Nat} {Q : (Nat → D) → List Ob → Prop} : ∀ (rest : List Oper) (done : List Eff) (e : Nat → D) (h : List Ob), aeS P G n m0 ops Q done rest e h →
 ∃ es, (∀ j, j < done.length → es[j]? = done.reverse[j]?) ∧ es.length = done.length + rest.length ∧ W5 m0 ops 0 es ∧ ae P G n ops (fun k => (es[k]?).getD nop) Q done.length rest e h
 | [], done, e, h, q => ⟨done.reverse, fun _ _ => rfl, by simp, q.1, q.2⟩
 | o :: rest, done, e, h, q => by
  obtain ⟨E, h1, h2, h3⟩ := q
  obtain ⟨es, g1, g2, g3, g4⟩ := aeS_ae rest (E :: done) _ _ h3
  have hE : es[done.length]? = some E := by
   rw [g1 _ (by simp)]; simp
  refine ⟨es, fun j hj => ?_, by simp at g2 ⊢; omega, g3, ?_⟩
  · rw [g1 j (by simp; omega), List.reverse_cons, Z4 (by simpa using hj)]
  · refine ⟨?_, ?_, ?_⟩
    · simp only [hE, Z6]; exact h1
    · simp only [hE, Z6]; exact h2
    · simp only [hE, Z6]
      simpa using g4
theorem X7 {id : Nat} {l : List Oper} {Q : Exit → S → Prop} (hm : P.follows .mixedOrders = true) (hB : Region.lexB .any l.toArray = true) (H : aeS P G n h.length l.toArray (fun e h => Q .normal ⟨n, e, h⟩) [] l e h) : aw P G (.region id l.toArray true) Q ⟨n, e, h⟩ := fun B a w r => by
 obtain ⟨hd, p, r⟩ := r
 have hdr := r.ok.drew
 have r' : Sit G B ⟨n, e, h⟩ a { w with drawn := w.drawn + 1 } := ⟨hd, p, hdr.1, r.evo.trans hdr.2, fun t => hdr.2.rd r.ok (r.tmp t), r.size, r.defers⟩
 simp only [Region.lexB, Z8] at hB
 obtain ⟨es, _, g2, g3, g4⟩ := aeS_ae l [] e h H
 have hE : effOk .any h.length l.toArray (fun k => (es[k]?).getD nop) := fun i j oj hij hj hno hnt => by
  have hjl : j < es.length := by
   have := (Z3.1 hj).1
   simp at this g2; omega
  rcases Yd7 es 0 i j _ _ g3 (Z2 (show i < es.length by omega)) (Z2 hjl) hij with hw | hc
  · exfalso
    rw [Nat.zero_add, Nat.zero_add] at hw
    unfold waitsB at hw
    rw [hj] at hw
    have hw : twB .any l.toArray (j + 1) j i = true := hw
    rw [hnt] at hw; cases hw
  · simp only [Z2 (show i < es.length by omega), Z2 hjl, Z6]
    exact hc
 refine wp_region_any hm (Zb7 (ef := fun k => (es[k]?).getD nop) (Q := fun e h => Q .normal ⟨n, e, h⟩) (fun e h a w q r => ⟨_, q, r⟩) _ _ _ _ _ _ r' ?_)
 have := aeAny_lex (P := P) (G := G) (n := n) (md := .any) (ops := l.toArray) (Q := fun e h => Q .normal ⟨n, e, h⟩) hE l 0 (Array.replicate l.toArray.size false) e h (Nat.le_refl _) (fun j oj hj hl => by
  have hlt := (Z3.1 hj).1
  rw [Z0, Array.getElem?_replicate, if_pos hlt] at hl
  cases hl) (fun j hj => by omega) (by simp) (by simpa using hB.2) g4
 simpa using this
def Ws (d : D) : Eff := ⟨[], [], [], fun _ => d⟩
def Xw (i : Nat) (ob : Ob) (d : D) : Eff := ⟨[(i, ob)], [], [], fun _ => d⟩
def Wa (i : Nat) (ob ob' : Ob) (d : D) : Eff := ⟨[(i, ob)], [(i, ob')], [], fun _ => d⟩
theorem X2 {m0 : Nat} {d : D} {F : Eff} : compat m0 (Ws d) F := ⟨by simp [Ws], by simp [Ws], .inl rfl, .inr ⟨rfl, by simp [Ws]⟩⟩
theorem X4 {m0 : Nat} {d : D} {F : Eff} : compat m0 F (Ws d) := X2.symm
theorem Xj {m0 i j : Nat} {o o' : Ob} {d d' : D} : compat m0 (Xw i o d) (Xw j o' d') := ⟨by simp [Xw], by simp [Xw], .inl rfl, .inl rfl⟩
theorem Xi {m0 i j : Nat} {o o' o'' : Ob} {d d' : D} (k : i ≠ j) : compat m0 (Xw i o d) (Wa j o' o'' d') := ⟨by simp [Xw], by simp [Xw, Wa]; exact Ne.symm k, .inl rfl, .inl rfl⟩
theorem Wu {m0 i j : Nat} {o o' p p' : Ob} {d d' : D} (k : i ≠ j) : compat m0 (Wa i o p d) (Wa j o' p' d') := ⟨by simp [Wa]; exact k, by simp [Wa]; exact Ne.symm k, .inl rfl, .inl rfl⟩
theorem aOp_any {op : Op} {d : D} (q : aOp P G e [] (fun h' d' => h' = [] ∧ d' = d) op) (h : List Ob) : aOp P G e h (fun h' d' => h' = h ∧ d' = d) op := by
 have one : ∀ {x : Option D}, on x (fun d' => ([] : List Ob) = [] ∧ d' = d) → on x (fun d' => h = h ∧ d' = d) := fun {x} q => by
  obtain ⟨d', h1, _, h2⟩ := Xh.1 q
  exact Xh.2 ⟨d', h1, rfl, h2⟩
 cases op <;> try exact q.elim
 case move => exact ⟨rfl, q.2⟩
 case assign => exact ⟨rfl, q.2⟩
 case pick => obtain ⟨t, h1, _, h2⟩ := q; exact ⟨t, h1, rfl, h2⟩
 case binOp => exact one q
 case unOp => exact one q
 case extract => exact one q
 case field => exact one q
 case fieldAddr => exact one q
 case nilCheck => exact ⟨q.1, rfl, q.2.2⟩
 case load t x =>
  obtain ⟨d', h1, _, h2⟩ := Xh.1 q
  refine Xh.2 ⟨d', ?_, rfl, h2⟩
  generalize ev G e x = X at h1 ⊢
  cases X <;> simp only [Uy] at h1 ⊢ <;> first | exact h1 | (simp at h1)
 case store t x y =>
  obtain ⟨h', h1, h2⟩ := Xh.1 q
  exfalso
  unfold Zb9 at h1
  split at h1
  · cases h1
  · split at h1
    · split at h1 <;> simp at h1
    · cases h1
 case box => obtain ⟨ds, h1, h2, _⟩ := Xh.1 q; simp at h2
 case alloc => obtain ⟨ds, h1, h2, _⟩ := Xh.1 q; simp at h2
 case buildSlice => obtain ⟨ds, h1, h2, _⟩ := Xh.1 q; simp at h2
 case build => obtain ⟨ds, h1, _, h2⟩ := Xh.1 q; exact Xh.2 ⟨ds, h1, rfl, h2⟩
 case indexAddr t x i =>
  have q : idxA P [] t (ev G e x) (ev G e i) (fun d' => ([] : List Ob) = [] ∧ d' = d) := q
  show idxA P h t (ev G e x) (ev G e i) (fun d' => h = h ∧ d' = d)
  unfold idxA at q ⊢
  generalize ev G e x = X at q ⊢
  generalize ev G e i = I at q ⊢
  cases I <;> try exact q.elim
  case v I =>
  cases I <;> try exact q.elim
  case int κ m =>
  cases X <;> try exact q.elim
  case sl kk xs => obtain ⟨h1, h2, h3, h4⟩ := q; exact ⟨h1, h2, h3, fun row hr => ⟨rfl, (h4 row hr).2⟩⟩
  case buf i' n' => obtain ⟨a, b, c, h1, _⟩ := q; simp at h1
  case win i' n' a' b' => obtain ⟨a, b, c, h1, _⟩ := q; simp at h1
  case ptr i' n' => obtain ⟨a, b, c, h1, h2, h3, h4, h5⟩ := q; exact ⟨a, b, c, h1, h2, h3, h4, rfl, h5.2⟩
  case rp ds => obtain ⟨a, b, c, h1, h2, h3, h4, h5⟩ := q; exact ⟨a, b, c, h1, h2, h3, h4, rfl, h5.2⟩
 case slice t x lo hi mx =>
  cases mx with
  | some m => exact q.elim
  | none =>
   have q : slcA P t (ev G e x) (lo.map (ev G e)) (hi.map (ev G e)) (fun d' => ([] : List Ob) = [] ∧ d' = d) := q
   show slcA P t (ev G e x) (lo.map (ev G e)) (hi.map (ev G e)) (fun d' => h = h ∧ d' = d)
   unfold slcA at q ⊢
   split at q
   · obtain ⟨l, r, a, b, c, d, e, f, g⟩ := q; exact ⟨l, r, a, b, c, d, e, f, rfl, g.2⟩
   · obtain ⟨l, r, a, b, c, d, e, f, g⟩ := q; exact ⟨l, r, a, b, c, d, e, f, rfl, g.2⟩
   · exact q.elim
 case index t x i =>
  have q : indA P t (ev G e x) (ev G e i) (fun d' => ([] : List Ob) = [] ∧ d' = d) := q
  show indA P t (ev G e x) (ev G e i) (fun d' => h = h ∧ d' = d)
  unfold indA at q ⊢
  split at q
  · obtain ⟨a, b, c, d⟩ := q; exact ⟨a, b, c, fun b hb => ⟨rfl, (d b hb).2⟩⟩
  · obtain ⟨l, e, z, d, h1, h2, h3, h4, h5, h6⟩ := q; exact ⟨l, e, z, d, h1, h2, h3, h4, h5, rfl, h6.2⟩
  · exact q.elim
 case convert t u x =>
  have q : cvA P [] t u (ev G e x) (fun h' d' => h' = [] ∧ d' = d) := q
  show cvA P h t u (ev G e x) (fun h' d' => h' = h ∧ d' = d)
  unfold cvA at q ⊢
  split at q
  · exact one q
  · rcases q with ⟨q1, q2, q3, q4⟩ | ⟨q1, q2, q4⟩
    · exact .inl ⟨q1, q2, q3, rfl, q4.2⟩
    · exact .inr ⟨q1, q2, rfl, q4.2⟩
  · obtain ⟨q1, q2, q3⟩ := q
    unfold bstD
    split at q3
    · obtain ⟨bs, q4, q5⟩ := q3; exact ⟨q1, q2, bs, q4, rfl, q5.2⟩
    · obtain ⟨a, b, c, q4, _⟩ := q3; simp at q4
    · exact ⟨q1, q2, rfl, q3.2⟩
    · exact q3.elim
 case call c =>
  obtain ⟨cal, args, tys⟩ := c
  cases cal with
  | builtin b =>
   have q : biA P [] b tys.toList (args.toList.map (ev G e)) (fun h' d' => h' = [] ∧ d' = d) := q
   show biA P h b tys.toList (args.toList.map (ev G e)) (fun h' d' => h' = h ∧ d' = d)
   unfold biA at q ⊢
   split at q
   · exact one q
   · obtain ⟨a, b, c, ys, h1, h2, h3, h4⟩ := q
     exfalso
     split at h4
     · obtain ⟨xs, g1, _⟩ := h4; simp at g1
     · simp at h4
     · exact h4
   · exact q.elim
  | _ => exact q.elim
section
variable {m0 : Nat} {done : List Eff} {rest : List Oper} {Q : (Nat → D) → List Ob → Prop} {t : Nat} {op : Op} {ty : TypeId} {pos : String} {aft : Array Edge} {gd : Option (Nat × Bool)}
theorem V4 (c : W5 m0 ops 0 done.reverse) (q : Q e h) : aeS P G n m0 ops Q done [] e h := ⟨c, q⟩
theorem Zf6 {d : D} : (Ws d).heap h = h := by simp [Ws, Eff.heap, Xc]
theorem aS1 (hw : Yo ops gd e = some true) (ht : decide (t < n) = true) (H : ∀ K : List Ob → D → Prop, (∀ h' d, h' = [] → aeS P G n m0 ops Q (Ws d :: done) rest (upd e t d) h → K h' d) → aOp P G e [] K op) : aeS P G n m0 ops Q done (⟨some t, op, ty, pos, aft, gd⟩ :: rest) e h := by
 obtain ⟨d, h1, _, h2⟩ := aOp_det (H (fun h' d => h' = [] ∧ aeS P G n m0 ops Q (Ws d :: done) rest (upd e t d) h) fun h' d q1 q2 => ⟨q1, q2⟩) fun h' d q => q.1
 refine ⟨Ws d, .inl ⟨hw, ⟨by simp [Ws], fun _ _ _ => rfl⟩, fun h2 _ => .inl ?_⟩, by simp [Ws, Eff.ok], ?_⟩
 · rw [Zf6]; exact aOp_any h1 h2
 · rw [Zf6]
   unfold putE
   simp only [if_pos (of_decide_eq_true ht)]
   exact h2
theorem Xg {u : TypeId} {x : Operand} {i o : Nat} {ds : List D} {d : D} (hw : Yo ops gd e = some true) (ht : decide (t < n) = true) (hx : ev G e x = .ptr i o) (hi : h[i]? = some (.cells ds)) (hg : getD P u ds o = some d)
 (k : aeS P G n m0 ops Q (Xw i (.cells ds) d :: done) rest (upd e t d) h) : aeS P G n m0 ops Q done (⟨some t, .load u x, ty, pos, aft, gd⟩ :: rest) e h := by
 have hh : ∀ h, (Xw i (.cells ds) d).heap h = h := fun h => by simp [Xw, Eff.heap, Xc]
 refine ⟨Xw i (.cells ds) d, .inl ⟨hw, ⟨by simp [Xw], fun _ _ _ => rfl⟩, fun h2 k2 => .inl ?_⟩, by simpa [Xw, Eff.ok] using hi, ?_⟩
 · rw [hh]
   have hi2 : h2[i]? = some (.cells ds) := k2 (i, .cells ds) (by simp [Xw])
   show on (Uy P h2 u (ev G e x)) _
   rw [hx]
   simp only [Uy, hi2, hg, on]
   exact ⟨trivial, rfl⟩
 · rw [hh]; unfold putE; simp only [if_pos (of_decide_eq_true ht)]; exact k
theorem V3 {u : TypeId} {x y : Operand} {i o : Nat} {ds es : List D} (hw : Yo ops gd e = some true) (hx : ev G e x = .ptr i o) (hi : h[i]? = some (.cells ds)) (hy : (ev G e y).cells = some es) (hc : (es.all D.one && szT P u == some es.length) = true) (hle : o + es.length ≤ ds.length)
 (k : aeS P G n m0 ops Q (Wa i (.cells ds) (.cells (putL ds o es)) (.v undef) :: done) rest e (h.set i (.cells (putL ds o es)))) : aeS P G n m0 ops Q done (⟨none, .store u x y, ty, pos, aft, gd⟩ :: rest) e h := by
 have hh : ∀ h, (Wa i (.cells ds) (.cells (putL ds o es)) (.v undef)).heap h = h.set i (.cells (putL ds o es)) := fun h => by simp [Wa, Eff.heap, Xc]
 refine ⟨Wa i (.cells ds) (.cells (putL ds o es)) (.v undef), .inl ⟨hw, ⟨by simp [Wa], fun _ _ _ => rfl⟩, fun h2 k2 => .inl ?_⟩, by simpa [Wa, Eff.ok] using hi, by rw [hh]; exact k⟩
 have hi2 : h2[i]? = some (.cells ds) := k2 (i, .cells ds) (by simp [Wa])
 rw [hh]
 show on (Zb9 P h2 u (ev G e x) (ev G e y)) _
 rw [hx]
 simp only [Zb9, hy, hc, if_true, hi2, if_pos hle, on]
 exact ⟨trivial, rfl⟩
theorem Vn {u len e' k' : Nat} {parts : Array (Nat × Operand)} {xs : List (List D)} (hw : Yo ops gd e = some true) (ht : decide (t < n) = true) (hl : litD P u len (parts.toList.map fun q => (q.1, ev G e q.2)) = some (e', k', xs))
 (k : aeS P G n m0 ops Q (⟨[], [], [.buf e' k' xs], fun m => .buf m len⟩ :: done) rest (upd e t (.buf h.length len)) (h ++ [.buf e' k' xs])) : aeS P G n m0 ops Q done (⟨some t, .buildSlice u len parts, ty, pos, aft, gd⟩ :: rest) e h := by
 refine ⟨⟨[], [], [.buf e' k' xs], fun m => .buf m len⟩, .inl ⟨hw, ⟨by simp, fun hn => by cases hn⟩, fun h2 _ => .inl ?_⟩, by simp [Eff.ok], ?_⟩
 · show on (litD P u len (parts.toList.map fun q => (q.1, ev G e q.2))) _
   rw [hl]; exact ⟨rfl, rfl⟩
 · unfold putE; simp only [if_pos (of_decide_eq_true ht)]; exact k
theorem aS_app {x y : Operand} {u u' i m e' k' by' : Nat} {xs ys : List (List D)} {R : List (Nat × Ob)} (hw : Yo ops gd e = some true) (ht : decide (t < n) = true) (hx : ev G e x = .buf i m) (hi : h[i]? = some (.buf e' k' xs)) (hm : xs.length = m) (ha : apT P u = some (e', k', by'))
 (hs : ∀ h2 : List Ob, (∀ q ∈ R, h2[q.1]? = some q.2) → srcD P h2 u u' (ev G e y) = some ys) (hR : ∀ q ∈ R, h[q.1]? = some q.2) (hk : Yz k' ys) (hb : (m + ys.length) * (by' + 1) ≤ 140737488355328)
 (k : aeS P G n m0 ops Q (⟨(i, .buf e' k' xs) :: R, [(i, .buf e' k' (xs ++ ys))], [], fun _ => .buf i (m + ys.length)⟩ :: done) rest (upd e t (.buf i (m + ys.length))) (h.set i (.buf e' k' (xs ++ ys)))) :
 aeS P G n m0 ops Q done (⟨some t, .call ⟨.builtin .append, #[x, y], #[u, u']⟩, ty, pos, aft, gd⟩ :: rest) e h := by
 have hh : ∀ h, (⟨(i, .buf e' k' xs) :: R, [(i, .buf e' k' (xs ++ ys))], [], fun _ => .buf i (m + ys.length)⟩ : Eff).heap h = h.set i (.buf e' k' (xs ++ ys)) := fun h => by simp [Eff.heap, Xc]
 refine ⟨⟨(i, .buf e' k' xs) :: R, [(i, .buf e' k' (xs ++ ys))], [], fun _ => .buf i (m + ys.length)⟩, .inl ⟨hw, ⟨by simp, fun _ _ _ => rfl⟩, fun h2 k2 => .inl ?_⟩, ?_, ?_⟩
 · rw [hh]
   have hi2 : h2[i]? = some (.buf e' k' xs) := k2 (i, .buf e' k' xs) (by simp)
   show aOp P G e h2 _ (.call ⟨.builtin .append, #[x, y], #[u, u']⟩)
   rw [aOp_bi]
   show biA P h2 .append [u, u'] [ev G e x, ev G e y] _
   rw [hx, biA_append]
   exact ⟨e', k', by', ys, ha, hs h2 fun q hq => k2 q (by simp [hq]), hk, xs, hi2, hm, hb, rfl, rfl⟩
 · intro q hq
   rcases List.mem_cons.1 hq with rfl | hq
   · exact hi
   · exact hR q hq
 · rw [hh]; unfold putE; simp only [if_pos (of_decide_eq_true ht)]; exact k
theorem aS_appN {x y : Operand} {u u' e' k' by' : Nat} {ys : List (List D)} {R : List (Nat × Ob)} (hw : Yo ops gd e = some true) (ht : decide (t < n) = true) (hx : ev G e x = .v (.slice none 0 0)) (ha : apT P u = some (e', k', by'))
 (hs : ∀ h2 : List Ob, (∀ q ∈ R, h2[q.1]? = some q.2) → srcD P h2 u u' (ev G e y) = some ys) (hR : ∀ q ∈ R, h[q.1]? = some q.2) (hk : Yz k' ys) (hb : ys.length * (by' + 1) ≤ 140737488355328)
 (k : aeS P G n m0 ops Q (⟨R, [], [.buf e' k' ys], fun m => .buf m ys.length⟩ :: done) rest (upd e t (.buf h.length ys.length)) (h ++ [.buf e' k' ys])) :
 aeS P G n m0 ops Q done (⟨some t, .call ⟨.builtin .append, #[x, y], #[u, u']⟩, ty, pos, aft, gd⟩ :: rest) e h := by
 refine ⟨⟨R, [], [.buf e' k' ys], fun m => .buf m ys.length⟩, .inl ⟨hw, ⟨by simp, fun hn => by cases hn⟩, fun h2 k2 => .inl ?_⟩, hR, ?_⟩
 · show aOp P G e h2 _ (.call ⟨.builtin .append, #[x, y], #[u, u']⟩)
   rw [aOp_bi]
   show biA P h2 .append [u, u'] [ev G e x, ev G e y] _
   rw [hx, biA_append]
   exact ⟨e', k', by', ys, ha, hs h2 k2, hk, hb, rfl, rfl⟩
 · unfold putE; simp only [if_pos (of_decide_eq_true ht)]; exact k
theorem aS_call {x : Operand} {args : Array Operand} {tys : Array TypeId} {f : FuncId} {cap : List D} {E : Eff} (hw : Yo ops gd e = some true) (ht : decide (t < n) = true) (hx : ev G e x = .fn f cap) (he : entB P f = true) (hf : E.fit) (hk : E.ok h)
 (hc : ∀ h2, E.ok h2 → Does P G f h2 (args.toList.map (ev G e) ++ cap) (fun h' r => h' = E.heap h2 ∧ r = E.d h2.length))
 (k : aeS P G n m0 ops Q (E :: done) rest (upd e t (E.d h.length)) (E.heap h)) : aeS P G n m0 ops Q done (⟨some t, .call ⟨.value x, args, tys⟩, ty, pos, aft, gd⟩ :: rest) e h :=
 ⟨E, .inl ⟨hw, hf, fun h2 k2 => .inr ⟨x, args, tys, f, cap, rfl, hx, he, hc h2 k2⟩⟩, hk, by unfold putE; simp only [if_pos (of_decide_eq_true ht)]; exact k⟩
theorem Wr {x : Operand} {args : Array Operand} {tys : Array TypeId} {f : FuncId} {cap : List D} {d : D} (hw : Yo ops gd e = some true) (ht : decide (t < n) = true) (hx : ev G e x = .fn f cap) (he : entB P f = true)
 (hc : ∀ h2, Does P G f h2 (args.toList.map (ev G e) ++ cap) (fun h' r => h' = h2 ∧ r = d))
 (k : aeS P G n m0 ops Q (Ws d :: done) rest (upd e t d) h) : aeS P G n m0 ops Q done (⟨some t, .call ⟨.value x, args, tys⟩, ty, pos, aft, gd⟩ :: rest) e h :=
 aS_call (E := Ws d) hw ht hx he ⟨by simp [Ws], fun _ _ _ => rfl⟩ (by simp [Ws, Eff.ok]) (fun h2 _ => by rw [Zf6]; exact hc h2) (by rw [Zf6]; exact k)
theorem Xt {x : Operand} {args : Array Operand} {tys : Array TypeId} {f : FuncId} {cap : List D} {d : D} {i : Nat} {ob ob' : Ob} (hw : Yo ops gd e = some true) (ht : decide (t < n) = true) (hx : ev G e x = .fn f cap) (he : entB P f = true) (hi : h[i]? = some ob)
 (hc : ∀ h2, h2[i]? = some ob → Does P G f h2 (args.toList.map (ev G e) ++ cap) (fun h' r => h' = h2.set i ob' ∧ r = d))
 (k : aeS P G n m0 ops Q (Wa i ob ob' d :: done) rest (upd e t d) (h.set i ob')) : aeS P G n m0 ops Q done (⟨some t, .call ⟨.value x, args, tys⟩, ty, pos, aft, gd⟩ :: rest) e h := by
 have hh : ∀ h, (Wa i ob ob' d).heap h = h.set i ob' := fun h => by simp [Wa, Eff.heap, Xc]
 exact aS_call (E := Wa i ob ob' d) hw ht hx he ⟨by simp [Wa], fun _ _ _ => rfl⟩ (by simpa [Wa, Eff.ok] using hi) (fun h2 k2 => by rw [hh]; exact hc h2 (k2 (i, ob) (by simp [Wa]))) (by rw [hh]; exact k)
end
section
variable {m0 : Nat} {done : List Eff} {rest : List Oper} {Q : (Nat → D) → List Ob → Prop} {t : Nat} {ty : TypeId} {pos : String} {aft : Array Edge} {gd : Option (Nat × Bool)} {x y : Operand} {u i j m m' e' k' e2 k2 by' : Nat} {xs ys : List (List D)}
theorem Yf4 {h2 : List Ob} {d : D} (hy : d = .buf j m') (hj : h2[j]? = some (.buf e2 k2 ys)) (hm : ys.length = m') : srcD P h2 u u d = some ys := by
 subst hy; unfold srcD; simp only [if_true, hj, if_pos hm]
theorem src_any {u' : Nat} {h2 : List Ob} {d : D} (q : srcD P [] u u' d = some ys) : srcD P h2 u u' d = some ys := by
 unfold srcD at q ⊢
 split at q
 · exact q
 · split at q
   · simp at q
   · cases q
 · split at q
   · simp at q
   · cases q
 · exact q
 · exact q
 · cases q
theorem Ux (hw : Yo ops gd e = some true) (ht : decide (t < n) = true) (hx : ev G e x = .buf i m) (hy : ev G e y = .buf j m') (hi : h[i]? = some (.buf e' k' xs)) (hm : xs.length = m) (ha : apT P u = some (e', k', by')) (hj : h[j]? = some (.buf e2 k2 ys)) (hm' : ys.length = m')
 (hk : Yz k' ys) (hb : (m + ys.length) * (by' + 1) ≤ 140737488355328)
 (k : aeS P G n m0 ops Q (⟨[(i, .buf e' k' xs), (j, .buf e2 k2 ys)], [(i, .buf e' k' (xs ++ ys))], [], fun _ => .buf i (m + ys.length)⟩ :: done) rest (upd e t (.buf i (m + ys.length))) (h.set i (.buf e' k' (xs ++ ys)))) :
 aeS P G n m0 ops Q done (⟨some t, .call ⟨.builtin .append, #[x, y], #[u, u]⟩, ty, pos, aft, gd⟩ :: rest) e h :=
 aS_app (R := [(j, .buf e2 k2 ys)]) hw ht hx hi hm ha (fun h2 q => Yf4 hy (q _ (Z5.2 rfl)) hm') (fun q hq => by rw [Z5.1 hq]; exact hj) hk hb k
theorem aS_appR {u' : Nat} (hw : Yo ops gd e = some true) (ht : decide (t < n) = true) (hx : ev G e x = .buf i m) (hi : h[i]? = some (.buf e' k' xs)) (hm : xs.length = m) (ha : apT P u = some (e', k', by')) (hs : srcD P [] u u' (ev G e y) = some ys)
 (hk : Yz k' ys) (hb : (m + ys.length) * (by' + 1) ≤ 140737488355328)
 (k : aeS P G n m0 ops Q (⟨[(i, .buf e' k' xs)], [(i, .buf e' k' (xs ++ ys))], [], fun _ => .buf i (m + ys.length)⟩ :: done) rest (upd e t (.buf i (m + ys.length))) (h.set i (.buf e' k' (xs ++ ys)))) :
 aeS P G n m0 ops Q done (⟨some t, .call ⟨.builtin .append, #[x, y], #[u, u']⟩, ty, pos, aft, gd⟩ :: rest) e h :=
 aS_app (R := []) hw ht hx hi hm ha (fun h2 q => src_any hs) (by simp) hk hb k
theorem Zt2 (hw : Yo ops gd e = some true) (ht : decide (t < n) = true) (hx : ev G e x = .v (.slice none 0 0)) (hy : ev G e y = .buf j m') (ha : apT P u = some (e', k', by')) (hj : h[j]? = some (.buf e2 k2 ys)) (hm' : ys.length = m')
 (hk : Yz k' ys) (hb : ys.length * (by' + 1) ≤ 140737488355328)
 (k : aeS P G n m0 ops Q (⟨[(j, .buf e2 k2 ys)], [], [.buf e' k' ys], fun m => .buf m ys.length⟩ :: done) rest (upd e t (.buf h.length ys.length)) (h ++ [.buf e' k' ys])) :
 aeS P G n m0 ops Q done (⟨some t, .call ⟨.builtin .append, #[x, y], #[u, u]⟩, ty, pos, aft, gd⟩ :: rest) e h :=
 aS_appN (R := [(j, .buf e2 k2 ys)]) hw ht hx ha (fun h2 q => Yf4 hy (q _ (Z5.2 rfl)) hm') (fun q hq => by rw [Z5.1 hq]; exact hj) hk hb k
end
/-! What a function hands back, its own memory being given away. -/
@[go_sem] theorem byD_len {l : List UInt8} : (byD l).length = l.length := by simp [byD]
theorem Zp3 {l : List UInt8} (a b : Nat) : ((byD l).take b).drop a = byD ((l.take b).drop a) := by simp [byD, List.map_drop, List.map_take]
theorem Zc7 (l : List UInt8) : Yz 1 (byD l) := fun row hr => by
 obtain ⟨b, _, rfl⟩ := List.mem_map.1 hr
 exact ⟨rfl, by simp [D.one, Value.oneCell']⟩
theorem Yb3 (k : Nat) : Yz k [] := by simp [Yz]
theorem Does.weak {f : FuncId} {args : List D} {K : List Ob → D → Prop} (q : Does P G f h args (fun h' r => ∃ r', K h' r' ∧ ∀ hd hh W u, rd hd hh W r u → rd hd hh W r' u)) : Does P G f h args K := fun w hd p vs o ha =>
 (q w hd p vs o ha).mono fun _ _ ⟨v, hd', h', r, p', e, ⟨r', hk, hw⟩, o', q', ev⟩ => ⟨v, hd', h', r', p', e, hk, o', hw _ _ _ _ q', ev⟩
theorem Zw7 {k : Nat} : ∀ hd hh W u, rd hd hh W (.v (.slice none 0 0)) u → rd hd hh W (.sl k []) u := fun hd hh W u q => by
 have q : u = .slice none 0 0 := by rw [rd] at q; exact q
 subst q
 rw [rd]
 exact ⟨none, 0, rfl, ⟨fun _ => rfl, Nat.le_refl _⟩, by decide, by rw [Xx]; trivial⟩
theorem Yj {P : Program} {G : Nat → D} {c : Code} {Q : Exit → S → Prop} {s : S} (q : aw P G c Q s) : aw P G c Q s := q
theorem Y7 {P : Program} {G : Nat → D} {ops : Array Oper} {l : List Oper} {Q : S → Prop} {s : S} (q : ao P G ops l Q s) : ao P G ops l Q s := q
theorem W2 {P : Program} {G : Nat → D} {n : Nat} {ops : Array Oper} {h : List Ob} {Q : (Nat → D) → Prop} {l : List Oper} {e : Nat → D} (q : aq P G n ops h Q l e) : aq P G n ops h Q l e := q
theorem Uc {P : Program} {G : Nat → D} {n m0 : Nat} {ops : Array Oper} {Q : (Nat → D) → List Ob → Prop} {done : List Eff} {l : List Oper} {e : Nat → D} {h : List Ob} (q : aeS P G n m0 ops Q done l e h) : aeS P G n m0 ops Q done l e h := q
@[reducible] def nxA (P : Program) (G : Nat → D) (Q : Exit → S → Prop) (s : S) : Code → Option Prop
 | .seq x y => some (aw P G x (thenS (aw P G y Q) Q) s)
 | .region _ ⟨l⟩ false => some (ao P G l.toArray l (Q .normal) s)
 | .block id c => some (aw P G c (Zm3 id Q) s)
 | .skip => some (Q .normal s)
 | .exit id => some (Q (.exit id) s)
 | .ret => some (Q .ret s)
 | _ => none
theorem sA {P : Program} {G : Nat → D} {c : Code} {Q : Exit → S → Prop} {s : S} {p : Prop} (h : nxA P G Q s c = some p) (k : p) : aw P G c Q s := by
 unfold nxA at h
 split at h
 · cases h; exact aw_seq' k
 · cases h; exact Yd9 k
 · cases h; exact aw_block k
 · cases h; exact aw_skip k
 · cases h; exact aw_exit k
 · cases h; exact aw_ret k
 · cases h
@[reducible] def nxI (P : Program) (G : Nat → D) (Q : Exit → S → Prop) (s : S) (x y : Code) : Bool → Option Prop
 | true => some (aw P G x Q s)
 | false => some (aw P G y Q s)
theorem sI {P : Program} {G : Nat → D} {c : Operand} {x y : Code} {Q : Exit → S → Prop} {s : S} {b : Bool} {p : Prop} (hb : ev G s.env c = .v (.bool b)) (h : nxI P G Q s x y b = some p) (k : p) : aw P G (.cond c x y) Q s := by
 cases b
 · cases h; exact aw_if0 hb k
 · cases h; exact aw_if1 hb k
@[reducible] def nxT (K : S → Prop) (Q : Exit → S → Prop) (s : S) : Exit → Option Prop
 | .normal => some (K s)
 | .exit i => some (Q (.exit i) s)
 | .ret => some (Q .ret s)
 | _ => none
theorem sT {K : S → Prop} {Q : Exit → S → Prop} {s : S} {x : Exit} {p : Prop} (h : nxT K Q s x = some p) (k : p) : thenS K Q x s := by
 cases x <;> first | (cases h; exact k) | cases h
@[reducible] def nxB (i : Nat) (Q : Exit → S → Prop) (s : S) : Exit → Option Prop
 | .normal => some (Q .normal s)
 | .exit j => match Nat.beq j i with
   | true => some (Q .normal s)
   | false => some (Q (.exit j) s)
 | .ret => some (Q .ret s)
 | _ => none
theorem sB {i : Nat} {Q : Exit → S → Prop} {s : S} {x : Exit} {p : Prop} (h : nxB i Q s x = some p) (k : p) : Zm3 i Q x s := by
 cases x with
 | exit j =>
  simp only [nxB] at h
  split at h
  · rename_i e; cases h; have e := Nat.eq_of_beq_eq_true e; subst e; exact inB_x k
  · rename_i e; cases h; exact inB_y (beq_eq_false_iff_ne.2 (Nat.ne_of_beq_eq_false e)) k
 | _ => first | (cases h; exact k) | cases h
theorem endV {P : Program} {res : Array ResultVar} {h0 : List Ob} {K : List Ob → D → Prop} {s : S} {ds : List D} {x : Value} (hl : lowH h0.length h0) (h1 : resD P s res.toList = some ds) (h3 : cvD (fun i => decide (h0.length ≤ i)) s.h (outD ds) = .v x) (hK : K h0 (.v x))
 (h2 : s.h.take h0.length = h0 := by simp) (h4 : h0.length ≤ s.h.length := by simp) : EndD P res h0.length K s := endD hl h1 h2 h4 h3 (by rw [low]; trivial) hK
end
section
variable {P : Program} {G : Nat → D} {n : Nat} {e : Nat → D} {h : List Ob}
theorem killH_one {j : Nat} : Zi0 (fun i => i == j) h = h.set j .dead := by
 apply List.ext_getElem?
 intro i
 unfold Zi0
 rw [List.getElem?_mapIdx, List.getElem?_set]
 by_cases hij : j = i
 · subst hij
   cases hj : h[j]? with
   | none => rw [if_pos rfl, if_neg (by simpa using hj)]; rfl
   | some ob => rw [if_pos rfl, if_pos (Z1.1 hj).1]; simp
 · rw [if_neg hij]
   cases hi : h[i]? with
   | none => rfl
   | some ob => simp [Ne.symm hij]
theorem Sit_give {B : Base} {a : Act} {w : World} (j t : Nat) (r : Sit G B ⟨n, e, h⟩ a w) : Sit G B ⟨n, upd e t (cvD (fun i => i == j) h (e t)), h.set j .dead⟩ a w := by
 obtain ⟨hd, p, r⟩ := r
 obtain ⟨p', o, ev, q⟩ := Ok.give r.ok (fun i => i == j)
 rw [killH_one] at o ev q
 refine ⟨hd, p', o, r.evo.trans ev, fun t' => ?_, r.size, r.defers⟩
 show rd _ _ _ (upd e t _ t') _
 unfold upd
 by_cases ht : t' = t
 · rw [if_pos ht, ht]; exact q _ _ (r.tmp t)
 · rw [if_neg ht]; exact ev.rd r.ok (r.tmp t')
theorem ao_give {ops : Array Oper} {l : List Oper} {Q : S → Prop} (j t : Nat) (k : ao P G ops l Q ⟨n, upd e t (cvD (fun i => i == j) h (e t)), h.set j .dead⟩) : ao P G ops l Q ⟨n, e, h⟩ := fun B a w r R hR => k B a w (Sit_give j t r) R hR
@[go_sem] theorem buildD_all {parts : List (Nat × D)} {t : TypeId} (q : Ya4 P t = true) : Zq5 P t parts = (Ur P t).bind fun z => Yj0 (plT P t) z parts := by unfold Zq5; rw [if_pos q]
@[go_sem] theorem fillD_nil {pl : Nat → Option (Nat × Nat)} {cs : List D} : Yj0 pl cs [] = some cs := rfl
@[go_sem] theorem fillD_cons {pl : Nat → Option (Nat × Nat)} {cs : List D} {i : Nat} {d : D} {rest : List (Nat × D)} : Yj0 pl cs ((i, d) :: rest) = match pl i, d.cells with
 | some (off, sz), some es => if es.length = sz ∧ off + sz ≤ cs.length then Yj0 pl (putL cs off es) rest else none
 | _, _ => none := rfl
@[go_sem] theorem putL_cons {α : Type} {a b : α} {l m : List α} : putL (a :: l) 0 (b :: m) = b :: putL l 0 m := by simp [putL]
@[go_sem] theorem putL_nil {α : Type} {l : List α} {o : Nat} : putL l o [] = l := by simp [putL]
@[go_sem] theorem putL_suc {α : Type} {a : α} {l m : List α} {o : Nat} : putL (a :: l) (o + 1) m = a :: putL l o m := by simp [putL, Nat.add_right_comm]
attribute [go_sem] litD Xf Option.map_some List.length_cons List.length_nil and_self Option.bind_some
end
section
section
variable {P : Program} {G : Nat → D} {n : Nat} {e : Nat → D} {h : List Ob} {ops : Array Oper} {rest : List Oper} {Q : S → Prop} {t : Nat} {ty : TypeId} {pos : String} {aft : Array Edge} {gd : Option (Nat × Bool)} {x y : Operand} {u u' i j m m' e' k' e2 k2 by' : Nat} {xs ys : List (List D)}
theorem ao_app (hw : Yo ops gd e = some true) (ht : decide (t < n) = true) (hx : ev G e x = .buf i m) (hi : h[i]? = some (.buf e' k' xs)) (hm : xs.length = m) (ha : apT P u = some (e', k', by')) (hs : srcD P h u u' (ev G e y) = some ys) (hk : Yz k' ys) (hb : (m + ys.length) * (by' + 1) ≤ 140737488355328)
 (k : ao P G ops rest Q ⟨n, upd e t (.buf i (m + ys.length)), h.set i (.buf e' k' (xs ++ ys))⟩) : ao P G ops (⟨some t, .call ⟨.builtin .append, #[x, y], #[u, u']⟩, ty, pos, aft, gd⟩ :: rest) Q ⟨n, e, h⟩ := by
 refine ao1 hw ht fun K HK => ?_
 rw [aOp_bi]
 show biA P h .append [u, u'] [ev G e x, ev G e y] K
 rw [hx, biA_append]
 exact ⟨e', k', by', ys, ha, hs, hk, xs, hi, hm, hb, HK _ _ k⟩
theorem ao_appN (hw : Yo ops gd e = some true) (ht : decide (t < n) = true) (hx : ev G e x = .v (.slice none 0 0)) (ha : apT P u = some (e', k', by')) (hs : srcD P h u u' (ev G e y) = some ys) (hk : Yz k' ys) (hb : ys.length * (by' + 1) ≤ 140737488355328)
 (k : ao P G ops rest Q ⟨n, upd e t (.buf h.length ys.length), h ++ [.buf e' k' ys]⟩) : ao P G ops (⟨some t, .call ⟨.builtin .append, #[x, y], #[u, u']⟩, ty, pos, aft, gd⟩ :: rest) Q ⟨n, e, h⟩ := by
 refine ao1 hw ht fun K HK => ?_
 rw [aOp_bi]
 show biA P h .append [u, u'] [ev G e x, ev G e y] K
 rw [hx, biA_append]
 exact ⟨e', k', by', ys, ha, hs, hk, hb, HK _ _ k⟩
theorem Wi (hw : Yo ops gd e = some true) (ht : decide (t < n) = true) (hx : ev G e x = .buf i m) (hy : ev G e y = .buf j m') (hi : h[i]? = some (.buf e' k' xs)) (hm : xs.length = m) (ha : apT P u = some (e', k', by')) (hj : h[j]? = some (.buf e2 k2 ys)) (hm' : ys.length = m') (hk : Yz k' ys) (hb : (m + ys.length) * (by' + 1) ≤ 140737488355328)
 (k : ao P G ops rest Q ⟨n, upd e t (.buf i (m + ys.length)), h.set i (.buf e' k' (xs ++ ys))⟩) : ao P G ops (⟨some t, .call ⟨.builtin .append, #[x, y], #[u, u]⟩, ty, pos, aft, gd⟩ :: rest) Q ⟨n, e, h⟩ := ao_app hw ht hx hi hm ha (Yf4 hy hj hm') hk hb k
theorem ao_appR (hw : Yo ops gd e = some true) (ht : decide (t < n) = true) (hx : ev G e x = .buf i m) (hi : h[i]? = some (.buf e' k' xs)) (hm : xs.length = m) (ha : apT P u = some (e', k', by')) (hs : srcD P [] u u' (ev G e y) = some ys) (hk : Yz k' ys) (hb : (m + ys.length) * (by' + 1) ≤ 140737488355328)
 (k : ao P G ops rest Q ⟨n, upd e t (.buf i (m + ys.length)), h.set i (.buf e' k' (xs ++ ys))⟩) : ao P G ops (⟨some t, .call ⟨.builtin .append, #[x, y], #[u, u']⟩, ty, pos, aft, gd⟩ :: rest) Q ⟨n, e, h⟩ := ao_app hw ht hx hi hm ha (src_any hs) hk hb k
theorem ao_appNB (hw : Yo ops gd e = some true) (ht : decide (t < n) = true) (hx : ev G e x = .v (.slice none 0 0)) (hy : ev G e y = .buf j m') (ha : apT P u = some (e', k', by')) (hj : h[j]? = some (.buf e2 k2 ys)) (hm' : ys.length = m') (hk : Yz k' ys) (hb : ys.length * (by' + 1) ≤ 140737488355328)
 (k : ao P G ops rest Q ⟨n, upd e t (.buf h.length ys.length), h ++ [.buf e' k' ys]⟩) : ao P G ops (⟨some t, .call ⟨.builtin .append, #[x, y], #[u, u]⟩, ty, pos, aft, gd⟩ :: rest) Q ⟨n, e, h⟩ := ao_appN hw ht hx ha (Yf4 hy hj hm') hk hb k
end
end
end Go.Proofs.YtmdjnaobllajmaaGreatDoor
