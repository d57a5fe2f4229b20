/-
  What the statements of the chapter share, part 07: D11, D12, F2, F3, F4.
-/
import Derived.Test.YtgkjcmglcnhpaaaGreatDoorR06
set_option linter.unusedVariables false
set_option linter.unusedSimpArgs false
set_option maxRecDepth 100000
set_option maxHeartbeats 8000000
namespace Go.Proofs.YtgkjcmglcnhpaaaGreatDoor
open _root_.Array renaming getD_eq_getD_getElem? → Z4, getElem?_eq_some_iff → Z5, getElem?_eq_none → Z7, getElem?_setIfInBounds → Zd, setIfInBounds_comm → Zg, replicate → Zi
open _root_.Bool renaming and_eq_true → Za
open _root_.List renaming getElem?_eq_some_iff → Z0, getElem?_append_left → Z1, getElem?_eq_getElem → Z3, getElem?_set_ne → Z6, replicate → Z8, map_cons → Zc, getElem?_append_right → Ze
open _root_.Nat renaming beq → Z2, eq_of_beq_eq_true → Z9, le_refl → Zf, lt_or_ge → Zh
open _root_.Option renaming getD_some → Zb
open Go.RowKit
section
variable {P : Program} {G : Nat → D} {n : Nat} {e : Nat → D} {h : List Ob} {ops : Array Oper} {md : Region.Mode}
structure Eff where
 R : List (Nat × Ob)
 W : List (Nat × Ob)
 N : List Ob
 d : Nat → D
def Yz (h : List Ob) : List (Nat × Ob) → List Ob
 | [] => h
 | x :: t => Yz (h.set x.1 x.2) t
theorem V9 : ∀ (W : List (Nat × Ob)) (h : List Ob), (Yz h W).length = h.length
 | [], _ => rfl
 | x :: t, h => by rw [Yz, V9 t]; simp
theorem Zb3 {i : Nat} : ∀ (W : List (Nat × Ob)) (h : List Ob), (∀ x ∈ W, x.1 ≠ i) → (Yz h W)[i]? = h[i]?
 | [], _, _ => rfl
 | x :: t, h, q => by rw [Yz, Zb3 t _ fun y hy => q y (by simp [hy]), Z6 (q x (by simp))]
theorem Zi8 : ∀ (W : List (Nat × Ob)) (h N : List Ob), (∀ x ∈ W, x.1 < h.length) → Yz (h ++ N) W = Yz h W ++ N
 | [], _, _, _ => rfl
 | x :: t, h, N, q => by
  rw [Yz, Yz, List.set_append_left _ _ (q x (by simp))]
  exact Zi8 t _ N fun y hy => by rw [List.length_set]; exact q y (by simp [hy])
theorem Zv0 : ∀ (W : List (Nat × Ob)) (h : List Ob) (i : Nat) (ob : Ob), (∀ x ∈ W, x.1 ≠ i) → Yz (h.set i ob) W = (Yz h W).set i ob
 | [], _, _, _, _ => rfl
 | x :: t, h, i, ob, q => by
  rw [Yz, Yz, List.set_comm _ _ (Ne.symm (q x (by simp)))]
  exact Zv0 t _ i ob fun y hy => q y (by simp [hy])
theorem Zd0 : ∀ (V W : List (Nat × Ob)) (h : List Ob), (∀ x ∈ V, ∀ y ∈ W, x.1 ≠ y.1) → Yz (Yz h V) W = Yz (Yz h W) V
 | [], _, _, _ => rfl
 | x :: t, W, h, q => by
  rw [Yz, Yz, Zd0 t W _ fun y hy => q y (by simp [hy]), Zv0 W h x.1 x.2 fun y hy => Ne.symm (q x (by simp) y hy)]
def Eff.ok (E : Eff) (h : List Ob) : Prop := ∀ x ∈ E.R, h[x.1]? = some x.2
def Eff.heap (E : Eff) (h : List Ob) : List Ob := Yz h E.W ++ E.N
def Eff.fit (E : Eff) : Prop := (∀ x ∈ E.W, ∃ y ∈ E.R, y.1 = x.1) ∧ (E.N = [] → ∀ m m', E.d m = E.d m')
def nop : Eff := ⟨[], [], [], fun _ => .v undef⟩
def Stp (P : Program) (G : Nat → D) (op : Op) (e : Nat → D) (h h' : List Ob) (d : D) : Prop := aOp P G e h (fun h1 d1 => h1 = h' ∧ d1 = d) op ∨
 ∃ x args tys f cap, op = .call ⟨.value x, args, tys⟩ ∧ ev G e x = .fn f cap ∧ entB P f = true ∧ Does P G f h (args.toList.map (ev G e) ++ cap) (fun h1 r => h1 = h' ∧ r = d)
theorem Stp_congr {op : Op} {e' : Nat → D} {h' : List Ob} {d : D} (key : ∀ x ∈ op.operands, ev G e' x = ev G e x) (k : Stp P G op e h h' d) : Stp P G op e' h h' d := by
 rcases k with k | ⟨x, args, tys, f, cap, e1, e2, e3, e4⟩
 · exact .inl (Zh8 key k)
 · rw [e1] at key
   have h1 := key x (by simp [Op.operands, Call.operands])
   have h2 : args.toList.map (ev G e') = args.toList.map (ev G e) := List.map_congr_left fun y hy => key y (by simp [Op.operands, Call.operands]; exact .inr (by simpa using hy))
   exact .inr ⟨x, args, tys, f, cap, e1, h1.trans e2, e3, by rw [h2]; exact e4⟩
def YE (P : Program) (G : Nat → D) (op : Op) (e : Nat → D) (E : Eff) : Prop := E.fit ∧ ∀ h, E.ok h → Stp P G op e h (E.heap h) (E.d h.length)
def YDE (P : Program) (G : Nat → D) (ops : Array Oper) (o : Oper) (E : Eff) (e : Nat → D) : Prop := (Yc ops o.guard e = some true ∧ YE P G o.op e E) ∨ (Yc ops o.guard e = some false ∧ E = nop)
theorem YDE.fit {o : Oper} {E : Eff} (q : YDE P G ops o E e) : E.fit := by
 rcases q with ⟨_, q⟩ | ⟨_, rfl⟩
 · exact q.1
 · exact ⟨by simp [nop], fun _ _ _ => rfl⟩
theorem YDE.congr {o : Oper} {E : Eff} {dst : Option Nat} {v : D} (q : ∀ t, dst = some t → t ∉ o.looksAt ops) : YDE P G ops o E (putE n e dst v) ↔ YDE P G ops o E e := by
 have key : ∀ x ∈ o.op.operands, ev G (putE n e dst v) x = ev G e x := fun x hx => Yb6 fun t ht => Zb9 (q t ht) x hx
 unfold YDE
 rw [J2 q]
 exact or_congr (and_congr Iff.rfl ⟨fun ⟨a, b⟩ => ⟨a, fun h k => Stp_congr (fun x hx => (key x hx).symm) (b h k)⟩, fun ⟨a, b⟩ => ⟨a, fun h k => Stp_congr key (b h k)⟩⟩) Iff.rfl
def compat (m0 : Nat) (E F : Eff) : Prop := (∀ x ∈ E.W, ∀ y ∈ F.R, x.1 ≠ y.1) ∧ (∀ x ∈ F.W, ∀ y ∈ E.R, x.1 ≠ y.1) ∧ (E.N = [] ∨ (F.N = [] ∧ ∀ y ∈ F.R, y.1 < m0)) ∧ (F.N = [] ∨ (E.N = [] ∧ ∀ y ∈ E.R, y.1 < m0))
theorem compat.symm {m0 : Nat} {E F : Eff} (q : compat m0 E F) : compat m0 F E := ⟨q.2.1, q.1, q.2.2.2, q.2.2.1⟩
theorem Eff.heap_len (E : Eff) (h : List Ob) : (E.heap h).length = h.length + E.N.length := by unfold Eff.heap; rw [List.length_append, V9]
theorem Eff.wlt {E : Eff} (f : E.fit) {h : List Ob} (k : E.ok h) : ∀ x ∈ E.W, x.1 < h.length := fun x hx => by
 obtain ⟨y, hy, he⟩ := f.1 x hx
 rw [← he]; exact (Z0.1 (k y hy)).1
theorem Eff.ok_after {m0 : Nat} {E F : Eff} (c : compat m0 E F) (fE : E.fit) (kE : E.ok h) (kF : F.ok h) : F.ok (E.heap h) := fun y hy => by
 have hlt := (Z0.1 (kF y hy)).1
 unfold Eff.heap
 rw [Z1 (by rw [V9]; exact hlt), Zb3 _ _ fun x hx => c.1 x hx y hy]
 exact kF y hy
theorem Eff.ok_before {m0 : Nat} {E F : Eff} (c : compat m0 E F) (hm : m0 ≤ h.length) (kF : F.ok (E.heap h)) : F.ok h := fun y hy => by
 have q := kF y hy
 have hlt : y.1 < h.length := by
  rcases c.2.2.1 with hn | ⟨_, hn⟩
  · have := (Z0.1 q).1
    rw [Eff.heap_len, hn] at this; simpa using this
  · exact Nat.lt_of_lt_of_le (hn y hy) hm
 unfold Eff.heap at q
 rwa [Z1 (by rw [V9]; exact hlt), Zb3 _ _ fun x hx => c.1 x hx y hy] at q
theorem Eff.heap_comm {m0 : Nat} {E F : Eff} (c : compat m0 E F) (fE : E.fit) (fF : F.fit) (kE : E.ok h) (kF : F.ok h) : F.heap (E.heap h) = E.heap (F.heap h) := by
 have dis : ∀ x ∈ E.W, ∀ y ∈ F.W, x.1 ≠ y.1 := fun x hx y hy => by
  obtain ⟨z, hz, he⟩ := fF.1 y hy
  rw [← he]; exact c.1 x hx z hz
 unfold Eff.heap
 rw [Zi8 F.W _ _ fun x hx => by rw [V9]; exact Eff.wlt fF kF x hx, Zi8 E.W _ _ fun x hx => by rw [V9]; exact Eff.wlt fE kE x hx, Zd0 E.W F.W h dis, List.append_assoc, List.append_assoc]
 rcases c.2.2.1 with hn | ⟨hn, _⟩ <;> simp [hn]
theorem Eff.d_after {m0 : Nat} {E F : Eff} (c : compat m0 E F) (fF : F.fit) : F.d (E.heap h).length = F.d h.length := by
 rcases c.2.2.1 with hn | ⟨hn, _⟩
 · rw [Eff.heap_len, hn]; rfl
 · exact fF.2 hn _ _
def aeOp (P : Program) (G : Nat → D) (n : Nat) (ops : Array Oper) (ef : Nat → Eff) (i : Nat) (K : (Nat → D) → List Ob → Prop) (e : Nat → D) (h : List Ob) : Prop := match ops[i]? with
 | none => K e h
 | some o => YDE P G ops o (ef i) e ∧ (ef i).ok h ∧ K (putE n e o.dst ((ef i).d h.length)) ((ef i).heap h)
def aeAny (P : Program) (G : Nat → D) (n : Nat) (md : Region.Mode) (ops : Array Oper) (ef : Nat → Eff) (Q : (Nat → D) → List Ob → Prop) : Nat → Array Bool → (Nat → D) → List Ob → Prop
 | 0, listed, e, h => Region.ready md ops listed = [] ∧ Q e h
 | fuel + 1, listed, e, h => (Region.ready md ops listed = [] → Q e h) ∧ ∀ i ∈ Region.ready md ops listed, aeOp P G n ops ef i (aeAny P G n md ops ef Q fuel (listed.setIfInBounds i true)) e h
def Closed (md : Region.Mode) (ops : Array Oper) (listed : Array Bool) : Prop := ∀ j oj, ops[j]? = some oj → listed.getD j true = true → ∀ e ∈ oj.after, Region.binds md e = true → listed.getD e.on false = true
theorem getD_setT {l : Array Bool} {i j : Nat} {d : Bool} (q : l.getD j d = true) : (l.setIfInBounds i true).getD j d = true := by
 rw [Z4] at q ⊢
 rw [Zd]
 split
 · rename_i hij
   split
   · rfl
   · rename_i hlt
     rw [Z7 (by subst hij; omega)] at q; exact q
 · exact q
theorem Closed.set {listed : Array Bool} {i : Nat} (q : Closed md ops listed) (r : i ∈ Region.ready md ops listed) : Closed md ops (listed.setIfInBounds i true) := fun j oj hj hl e he hb => by
 obtain ⟨hiun, oi, hoi, hall⟩ := mem_ready.1 r
 by_cases hij : i = j
 · subst hij
   rw [hj] at hoi; cases hoi
   exact getD_setT (hall e he hb)
 · rw [getD_set_ne true hij] at hl
   exact getD_setT (q j oj hj hl e he hb)
def twB (md : Region.Mode) (ops : Array Oper) : Nat → Nat → Nat → Bool
 | 0, _, _ => false
 | k + 1, j, i => match ops[j]? with
  | some o => o.after.any fun e => Region.binds md e && (Z2 e.on i || (Nat.blt i e.on && twB md ops k e.on i))
  | none => false
theorem Zy1 {listed : Array Bool} {i : Nat} (q : Closed md ops listed) (hi : i < ops.size) : ∀ (k j : Nat) (oj : Oper), ops[j]? = some oj → (∀ e ∈ oj.after, Region.binds md e = true → listed.getD e.on false = true) → twB md ops k j i = true → listed.getD i false = true
 | 0, _, _, _, _, h => by rw [twB] at h; cases h
 | k + 1, j, oj, hj, hd, h => by
  rw [twB, hj] at h
  simp only [Array.any_eq_true'] at h
  obtain ⟨e, he, h⟩ := h
  simp only [Za, Bool.or_eq_true] at h
  obtain ⟨hb, h⟩ := h
  have hon := hd e he hb
  rcases h with h | ⟨_, h⟩
  · rw [← Z9 h]; exact hon
  · cases hk : ops[e.on]? with
    | none =>
     cases k with
     | zero => rw [twB] at h; cases h
     | succ k => rw [twB, hk] at h; cases h
    | some ok =>
     refine Zy1 q hi k e.on ok hk (q e.on ok hk ?_) h
     rw [Z4] at hon ⊢
     cases hl : listed[e.on]? with
     | none => rfl
     | some b => rw [hl] at hon; exact hon
theorem aeAny_first {ef : Nat → Eff} {m0 : Nat} {Q : (Nat → D) → List Ob → Prop} {i : Nat} {oi : Oper} (hi : ops[i]? = some oi) : ∀ (fuel : Nat) (listed : Array Bool) (e : Nat → D) (h : List Ob), m0 ≤ h.length → Closed md ops listed →
 (∀ j oj, ops[j]? = some oj → j ≠ i → listed.getD j true = false → (∀ e ∈ oj.after, Region.binds md e = true → e.on ≠ i) → (∀ k, twB md ops k j i = false) → oi.apart ops oj = true ∧ compat m0 (ef i) (ef j)) →
 i ∈ Region.ready md ops listed → YDE P G ops oi (ef i) e → (ef i).ok h → aeAny P G n md ops ef Q fuel (listed.setIfInBounds i true) (putE n e oi.dst ((ef i).d h.length)) ((ef i).heap h) → aeAny P G n md ops ef Q (fuel + 1) listed e h := by
  intro fuel
  induction fuel with
  | zero =>
    intro listed a h hm _ _ hr hy hk H
    refine ⟨fun h => (by rw [h] at hr; cases hr), fun j hj => ?_⟩
    by_cases hji : j = i
    · subst hji; unfold aeOp; simp only [hi]; exact ⟨hy, hk, H⟩
    · have := ready_mono hj hji
      rw [H.1] at this
      cases this
  | succ fuel ih =>
    intro listed a h hm hcl hfree hr hy hk H
    refine ⟨fun h => (by rw [h] at hr; cases hr), fun j hj => ?_⟩
    by_cases hji : j = i
    · subst hji; unfold aeOp; simp only [hi]; exact ⟨hy, hk, H⟩
    · have h1 := H.2 j (ready_mono hj hji)
      obtain ⟨hjun, oj, hoj, hall⟩ := mem_ready.1 hj
      have hnot : ∀ e ∈ oj.after, Region.binds md e = true → e.on ≠ i := fun e he hb heq => by
        have h1 := hall e he hb
        have h0 := (mem_ready.1 hr).1
        rw [heq] at h1
        rcases Zh i listed.size with h' | h'
        · simp [h'] at h0 h1; rw [h0] at h1; cases h1
        · simp [Z7 h'] at h1
      have hnt : ∀ k, twB md ops k j i = false := fun k => by
       cases ht : twB md ops k j i with
       | false => rfl
       | true =>
        have h1 := Zy1 hcl (Z5.1 hi).1 k j oj hoj hall ht
        have h0 := (mem_ready.1 hr).1
        rw [Z4] at h0 h1
        cases hl : listed[i]? with
        | none => rw [hl] at h0; cases h0
        | some b => rw [hl] at h0 h1; simp at h0 h1; rw [h0] at h1; cases h1
      obtain ⟨hap, hc⟩ := hfree j oj hoj hji hjun hnot hnt
      obtain ⟨a1, a2, a3⟩ := Oper.apart_spec hap
      unfold aeOp at h1 ⊢
      simp only [hoj] at h1 ⊢
      obtain ⟨y1, y2, y3⟩ := h1
      have yj : YDE P G ops oj (ef j) a := (YDE.congr a1).1 y1
      have kj : (ef j).ok h := Eff.ok_before hc hm y2
      have ki : (ef i).ok ((ef j).heap h) := Eff.ok_after hc.symm yj.fit kj hk
      have hfree' : ∀ k ok, ops[k]? = some ok → k ≠ i → (listed.setIfInBounds j true).getD k true = false →
          (∀ e ∈ ok.after, Region.binds md e = true → e.on ≠ i) → (∀ f, twB md ops f k i = false) → oi.apart ops ok = true ∧ compat m0 (ef i) (ef k) := fun k ok hk hki hun hno hnt => by
        refine hfree k ok hk hki ?_ hno hnt
        by_cases hjk : j = k
        · subst hjk; exact hjun
        · rw [getD_set_ne true hjk] at hun; exact hun
      refine ⟨yj, kj, ih (listed.setIfInBounds j true) _ _ (by rw [Eff.heap_len]; omega) (hcl.set hj) hfree' (ready_mono hr (Ne.symm hji)) ((YDE.congr a3).2 hy) ki ?_⟩
      rw [Zg _ _ hji]
      rw [Eff.d_after hc yj.fit] at y3
      rw [Eff.d_after hc.symm hy.fit, ← Eff.heap_comm hc hy.fit yj.fit hk kj, ← Zr0 a2]
      exact y3
def effOk (md : Region.Mode) (m0 : Nat) (ops : Array Oper) (ef : Nat → Eff) : Prop := ∀ i j oj, i < j → ops[j]? = some oj → (∀ e ∈ oj.after, Region.binds md e = true → e.on ≠ i) → (∀ k, twB md ops k j i = false) → compat m0 (ef i) (ef j)
def ae (P : Program) (G : Nat → D) (n : Nat) (ops : Array Oper) (ef : Nat → Eff) (Q : (Nat → D) → List Ob → Prop) : Nat → List Oper → (Nat → D) → List Ob → Prop
 | _, [], e, h => Q e h
 | k, o :: rest, e, h => YDE P G ops o (ef k) e ∧ (ef k).ok h ∧ ae P G n ops ef Q (k + 1) rest (putE n e o.dst ((ef k).d h.length)) ((ef k).heap h)
theorem aeAny_lex {ef : Nat → Eff} {m0 : Nat} {Q : (Nat → D) → List Ob → Prop} (hE : effOk md m0 ops ef) : ∀ (l : List Oper) (k : Nat) (listed : Array Bool) (e : Nat → D) (h : List Ob), m0 ≤ h.length → Closed md ops listed → (∀ j, j < k → listed.getD j true = true) → (∀ j, l[j]? = ops[k + j]?) → Region.lexFrom md ops l.length k listed = true → ae P G n ops ef Q k l e h → aeAny P G n md ops ef Q l.length listed e h
 | [], _, _, _, _, _, _, _, _, hB, q => ⟨by simpa [Region.lexFrom] using hB, q⟩
 | o :: l, k, listed, e, h, hm, hcl, hdone, hl, hB, q => by
    have h0 : ops[k]? = some o := by simpa using (hl 0).symm
    simp only [List.length_cons, Region.lexFrom, Za] at hB
    obtain ⟨⟨hr, hf⟩, hB'⟩ := hB
    obtain ⟨hy, hk, hK⟩ := q
    have hfr := Region.free_spec h0 hf
    refine aeAny_first h0 l.length listed e h hm hcl (fun j oj hj hjk hun hno hnt => ⟨hfr j oj hj hjk hun hno, ?_⟩) (by simpa using hr) hy hk
      (aeAny_lex hE l (k + 1) _ _ _ (by rw [Eff.heap_len]; omega) (hcl.set (by simpa using hr)) (fun j hj => ?_) (fun j => by have := hl (j + 1); simpa [Nat.add_assoc, Nat.add_comm 1 j] using this) hB' hK)
    · have hlt : k < j := by
       rcases Zh j k with h' | h'
       · rw [hdone j h'] at hun; cases hun
       · omega
      exact hE k j oj hlt hj hno hnt
    · by_cases hjk : k = j
      · subst hjk
        rw [Z4, Zd]
        simp only [if_true]
        split <;> rfl
      · rw [getD_set_ne true hjk]; exact hdone j (by omega)
end
section
variable {P : Program} {G : Nat → D} {n : Nat} {e : Nat → D} {h : List Ob} {ops : Array Oper} {md : Region.Mode}
section
variable {B : Base} {a : Act} {w : World}
theorem Stp_sound {o : Oper} {h' : List Ob} {d : D} {K : Act → World → Prop} {R : Exit → Act → World → Prop} (q : Stp P G o.op e h h' d) (r : Sit G B ⟨n, e, h⟩ a w) (k : ∀ a' w', Sit G B ⟨n, putE n e o.dst d, h'⟩ a' w' → K a' w') : o.wp P a w K R := by
 obtain ⟨hd, p, r⟩ := r
 obtain ⟨dst, op, ty, pos, aft, gd⟩ := o
 have fin : ∀ (s' : S), s' = S.put ⟨n, e, h'⟩ dst d → s' = ⟨n, putE n e dst d, h'⟩ := fun s' hs => by rw [hs, Ua]
 rcases q with q | ⟨x, args, tys, f, cap, rfl, e2, e3, e4⟩
 · obtain ⟨v, w', hd', h'', p', d', hr, ⟨rfl, rfl⟩, o', q', ev'⟩ := Zh7 (dst := dst) (ty := ty) (pos := pos) (aft := aft) (gd := gd) r q
   unfold Oper.wp
   have := r.put o' ev' q' dst
   rw [fin _ rfl] at this
   rcases hr with hr | ⟨hr, rfl⟩
   · rw [hr]; exact k _ _ ⟨hd', p', this⟩
   · rw [hr]; exact k _ _ ⟨hd', p', this⟩
 · have q0 := r.ev x
   rw [e2, rd] at q0
   obtain ⟨cs, e1, q0⟩ := q0
   have hrun : (execOp a.eval ⟨dst, .call ⟨.value x, args, tys⟩, ty, pos, aft, gd⟩).run P w = .ok (.enter f (args.map a.eval ++ cs)) w := by
    simp [execOp, resolve, e1, Deferred.ofValue, invoke, Ze9 e3]
   unfold Oper.wp
   rw [hrun, Oper.upon_enter]
   have hargs : rdL hd h (only p w) (args.toList.map (ev G e) ++ cap) (args.toList.map a.eval ++ cs.toList) := Xf (Zj0 r _) q0
   have := e4 w hd p _ r.ok hargs
   rw [show (args.toList.map a.eval ++ cs.toList).toArray = args.map a.eval ++ cs by apply Array.ext'; simp] at this
   refine this.mono ?_
   rintro e' w' ⟨v, hd', h'', d', p', rfl, ⟨rfl, rfl⟩, o, q2, ev'⟩
   have := r.put o ev' q2 dst
   rw [fin _ rfl] at this
   exact k _ _ ⟨hd', p', this⟩
theorem Ju {ef : Nat → Eff} {Q : (Nat → D) → List Ob → Prop} {R : Exit → Act → World → Prop} (k : ∀ e h a w, Q e h → Sit G B ⟨n, e, h⟩ a w → R .normal a w) : ∀ (fuel : Nat) (listed : Array Bool) (e : Nat → D) (h : List Ob) (a : Act) (w : World), Sit G B ⟨n, e, h⟩ a w → aeAny P G n md ops ef Q fuel listed e h → wpAny P md ops R fuel listed a w
 | 0, _, _, _, _, _, r, q => ⟨q.1, k _ _ _ _ q.2 r⟩
 | fuel + 1, listed, e, h, a, w, r, q => ⟨fun h0 => k _ _ _ _ (q.1 h0) r, fun i hi => by
   have q2 := q.2 i hi
   unfold aeOp at q2
   unfold wpOp
   split
   · rename_i ho; rw [ho] at q2; exact Ju k fuel _ _ _ _ _ r q2
   · rename_i o ho
     rw [ho] at q2
     obtain ⟨hy, hk, hn⟩ := q2
     obtain ⟨hd, p, r'⟩ := id r
     rcases hy with ⟨hw, _, hs⟩ | ⟨hw, hE⟩
     · have hw' := Yu (o := o) r' hw
       rw [if_pos hw']
       exact .inl (Stp_sound (hs h hk) r fun a' w' r2 => Ju k fuel _ _ _ _ _ r2 hn)
     · have hw' := Yu (o := o) r' hw
       rw [if_neg (by rw [hw']; decide)]
       rw [hE] at hn
       have r3 := r'.put0 (d := .v undef) (v := undef) (by rw [rd]) o.dst
       rw [Ua] at r3
       have hh : nop.heap h = h := by simp [nop, Eff.heap, Yz]
       rw [hh] at hn
       exact Ju k fuel _ _ _ _ _ ⟨hd, p, r3⟩ hn⟩
end
def waitsB (ops : Array Oper) (j i : Nat) : Bool := match ops[j]? with
 | some _ => twB .any ops (j + 1) j i
 | none => true
def chk1 (m0 : Nat) (ops : Array Oper) (i : Nat) (E : Eff) : Nat → List Eff → Prop
 | _, [] => True
 | j, F :: t => (waitsB ops j i = true ∨ compat m0 E F) ∧ chk1 m0 ops i E (j + 1) t
def Vh (m0 : Nat) (ops : Array Oper) : Nat → List Eff → Prop
 | _, [] => True
 | i, E :: t => chk1 m0 ops i E (i + 1) t ∧ Vh m0 ops (i + 1) t
theorem chk1_get {m0 i : Nat} {E : Eff} : ∀ (es : List Eff) (k j : Nat) (F : Eff), chk1 m0 ops i E k es → es[j]? = some F → waitsB ops (k + j) i = true ∨ compat m0 E F
 | [], _, _, _, _, q => by simp at q
 | F :: t, k, 0, F', q, r => by simp at r; subst r; exact q.1
 | F :: t, k, j + 1, F', q, r => by rw [show k + (j + 1) = k + 1 + j by omega]; exact chk1_get t (k + 1) j F' q.2 (by simpa using r)
theorem Zx0 {m0 : Nat} : ∀ (es : List Eff) (k i j : Nat) (E F : Eff), Vh m0 ops k es → es[i]? = some E → es[j]? = some F → i < j → waitsB ops (k + j) (k + i) = true ∨ compat m0 E F
 | [], _, _, _, _, _, _, q, _, _ => by simp at q
 | X :: t, k, 0, j, E, F, q, r1, r2, hlt => by
  simp at r1; subst r1
  cases j with
  | zero => omega
  | succ j => rw [show k + (j + 1) = k + 1 + j by omega]; exact chk1_get t (k + 1) j F q.1 (by simpa using r2)
 | X :: t, k, i + 1, j, E, F, q, r1, r2, hlt => by
  cases j with
  | zero => omega
  | succ j =>
   rw [show k + (j + 1) = k + 1 + j by omega, show k + (i + 1) = k + 1 + i by omega]
   exact Zx0 t (k + 1) i j E F q.2 (by simpa using r1) (by simpa using r2) (by omega)
def aeS (P : Program) (G : Nat → D) (n m0 : Nat) (ops : Array Oper) (Q : (Nat → D) → List Ob → Prop) : List Eff → List Oper → (Nat → D) → List Ob → Prop
 | done, [], e, h => Vh m0 ops 0 done.reverse ∧ Q e h
 | done, o :: rest, e, h => ∃ E, YDE P G ops o E e ∧ E.ok h ∧ aeS P G n m0 ops Q (E :: done) rest (putE n e o.dst (E.d h.length)) (E.heap h)
theorem aeS_ae {m0 : Nat} {Q : (Nat → D) → List Ob → Prop} : ∀ (rest : List Oper) (done : List Eff) (e : Nat → D) (h : List Ob), aeS P G n m0 ops Q done rest e h →
 ∃ es, (∀ j, j < done.length → es[j]? = done.reverse[j]?) ∧ es.length = done.length + rest.length ∧ Vh m0 ops 0 es ∧ ae P G n ops (fun k => (es[k]?).getD nop) Q done.length rest e h
 | [], done, e, h, q => ⟨done.reverse, fun _ _ => rfl, by simp, q.1, q.2⟩
 | o :: rest, done, e, h, q => by
  obtain ⟨E, h1, h2, h3⟩ := q
  obtain ⟨es, g1, g2, g3, g4⟩ := aeS_ae rest (E :: done) _ _ h3
  have hE : es[done.length]? = some E := by
   rw [g1 _ (by simp)]; simp
  refine ⟨es, fun j hj => ?_, by simp at g2 ⊢; omega, g3, ?_⟩
  · rw [g1 j (by simp; omega), List.reverse_cons, Z1 (by simpa using hj)]
  · refine ⟨?_, ?_, ?_⟩
    · simp only [hE, Zb]; exact h1
    · simp only [hE, Zb]; exact h2
    · simp only [hE, Zb]
      simpa using g4
theorem Wq {id : Nat} {l : List Oper} {Q : Exit → S → Prop} (hm : P.follows .mixedOrders = true) (hB : Region.lexB .any l.toArray = true) (H : aeS P G n h.length l.toArray (fun e h => Q .normal ⟨n, e, h⟩) [] l e h) : aw P G (.region id l.toArray true) Q ⟨n, e, h⟩ := fun B a w r => by
 obtain ⟨hd, p, r⟩ := r
 have hdr := r.ok.drew
 have r' : Sit G B ⟨n, e, h⟩ a { w with drawn := w.drawn + 1 } := ⟨hd, p, hdr.1, r.evo.trans hdr.2, fun t => hdr.2.rd r.ok (r.tmp t), r.size, r.defers⟩
 simp only [Region.lexB, Za] at hB
 obtain ⟨es, _, g2, g3, g4⟩ := aeS_ae l [] e h H
 have hE : effOk .any h.length l.toArray (fun k => (es[k]?).getD nop) := fun i j oj hij hj hno hnt => by
  have hjl : j < es.length := by
   have := (Z5.1 hj).1
   simp at this g2; omega
  rcases Zx0 es 0 i j _ _ g3 (Z3 (show i < es.length by omega)) (Z3 hjl) hij with hw | hc
  · exfalso
    rw [Nat.zero_add, Nat.zero_add] at hw
    unfold waitsB at hw
    rw [hj] at hw
    have hw : twB .any l.toArray (j + 1) j i = true := hw
    rw [hnt] at hw; cases hw
  · simp only [Z3 (show i < es.length by omega), Z3 hjl, Zb]
    exact hc
 refine wp_region_any hm (Ju (ef := fun k => (es[k]?).getD nop) (Q := fun e h => Q .normal ⟨n, e, h⟩) (fun e h a w q r => ⟨_, q, r⟩) _ _ _ _ _ _ r' ?_)
 have := aeAny_lex (P := P) (G := G) (n := n) (md := .any) (ops := l.toArray) (Q := fun e h => Q .normal ⟨n, e, h⟩) hE l 0 (Zi l.toArray.size false) e h (Zf _) (fun j oj hj hl => by
  have hlt := (Z5.1 hj).1
  rw [Z4, Array.getElem?_replicate, if_pos hlt] at hl
  cases hl) (fun j hj => by omega) (by simp) (by simpa using hB.2) g4
 simpa using this
def Jf (d : D) : Eff := ⟨[], [], [], fun _ => d⟩
def Za2 (i : Nat) (ob : Ob) (d : D) : Eff := ⟨[(i, ob)], [], [], fun _ => d⟩
def J1 (i : Nat) (ob ob' : Ob) (d : D) : Eff := ⟨[(i, ob)], [(i, ob')], [], fun _ => d⟩
theorem Xr {m0 : Nat} {d : D} {F : Eff} : compat m0 (Jf d) F := ⟨by simp [Jf], by simp [Jf], .inl rfl, .inr ⟨rfl, by simp [Jf]⟩⟩
theorem Wn {m0 : Nat} {d : D} {F : Eff} : compat m0 F (Jf d) := Xr.symm
theorem U1 {m0 i j : Nat} {o o' : Ob} {d d' : D} : compat m0 (Za2 i o d) (Za2 j o' d') := ⟨by simp [Za2], by simp [Za2], .inl rfl, .inl rfl⟩
theorem Zh3 {m0 i j : Nat} {o o' o'' : Ob} {d d' : D} (k : i ≠ j) : compat m0 (Za2 i o d) (J1 j o' o'' d') := ⟨by simp [Za2], by simp [Za2, J1]; exact Ne.symm k, .inl rfl, .inl rfl⟩
theorem aOp_any {op : Op} {d : D} (q : aOp P G e [] (fun h' d' => h' = [] ∧ d' = d) op) (h : List Ob) : aOp P G e h (fun h' d' => h' = h ∧ d' = d) op := by
 have one : ∀ {x : Option D}, on x (fun d' => ([] : List Ob) = [] ∧ d' = d) → on x (fun d' => h = h ∧ d' = d) := fun {x} q => by
  obtain ⟨d', h1, _, h2⟩ := X1.1 q
  exact X1.2 ⟨d', h1, rfl, h2⟩
 cases op <;> try exact q.elim
 case move => exact ⟨rfl, q.2⟩
 case assign => exact ⟨rfl, q.2⟩
 case pick => obtain ⟨t, h1, _, h2⟩ := q; exact ⟨t, h1, rfl, h2⟩
 case binOp => exact one q
 case unOp => exact one q
 case extract => exact one q
 case field => exact one q
 case fieldAddr => exact one q
 case nilCheck => exact ⟨q.1, rfl, q.2.2⟩
 case load t x =>
  obtain ⟨d', h1, _, h2⟩ := X1.1 q
  refine X1.2 ⟨d', ?_, rfl, h2⟩
  generalize ev G e x = X at h1 ⊢
  cases X <;> simp only [U4] at h1 ⊢ <;> first | exact h1 | (simp at h1)
 case store t x y =>
  obtain ⟨h', h1, h2⟩ := X1.1 q
  exfalso
  unfold Vk at h1
  split at h1
  · cases h1
  · split at h1
    · split at h1 <;> simp at h1
    · cases h1
 case box => obtain ⟨ds, h1, h2, _⟩ := X1.1 q; simp at h2
 case alloc => obtain ⟨ds, h1, h2, _⟩ := X1.1 q; simp at h2
 case buildSlice => obtain ⟨ds, h1, h2, _⟩ := X1.1 q; simp at h2
 case build => obtain ⟨ds, h1, _, h2⟩ := X1.1 q; exact X1.2 ⟨ds, h1, rfl, h2⟩
 case indexAddr t x i =>
  have q : idxA P [] t (ev G e x) (ev G e i) (fun d' => ([] : List Ob) = [] ∧ d' = d) := q
  show idxA P h t (ev G e x) (ev G e i) (fun d' => h = h ∧ d' = d)
  unfold idxA at q ⊢
  generalize ev G e x = X at q ⊢
  generalize ev G e i = I at q ⊢
  cases I <;> try exact q.elim
  case v I =>
  cases I <;> try exact q.elim
  case int κ m =>
  cases X <;> try exact q.elim
  case sl kk xs => obtain ⟨h1, h2, h3, h4⟩ := q; exact ⟨h1, h2, h3, fun row hr => ⟨rfl, (h4 row hr).2⟩⟩
  case buf i' n' => obtain ⟨a, b, c, h1, _⟩ := q; simp at h1
  case win i' n' a' b' => obtain ⟨a, b, c, h1, _⟩ := q; simp at h1
  case ptr i' n' => obtain ⟨a, b, c, h1, h2, h3, h4, h5⟩ := q; exact ⟨a, b, c, h1, h2, h3, h4, rfl, h5.2⟩
  case rp ds => obtain ⟨a, b, c, h1, h2, h3, h4, h5⟩ := q; exact ⟨a, b, c, h1, h2, h3, h4, rfl, h5.2⟩
 case slice t x lo hi mx =>
  cases mx with
  | some m => exact q.elim
  | none =>
   have q : slcA P t (ev G e x) (lo.map (ev G e)) (hi.map (ev G e)) (fun d' => ([] : List Ob) = [] ∧ d' = d) := q
   show slcA P t (ev G e x) (lo.map (ev G e)) (hi.map (ev G e)) (fun d' => h = h ∧ d' = d)
   unfold slcA at q ⊢
   split at q
   · obtain ⟨l, r, a, b, c, d, e, f, g⟩ := q; exact ⟨l, r, a, b, c, d, e, f, rfl, g.2⟩
   · obtain ⟨l, r, a, b, c, d, e, f, g⟩ := q; exact ⟨l, r, a, b, c, d, e, f, rfl, g.2⟩
   · exact q.elim
 case index t x i =>
  have q : indA P t (ev G e x) (ev G e i) (fun d' => ([] : List Ob) = [] ∧ d' = d) := q
  show indA P t (ev G e x) (ev G e i) (fun d' => h = h ∧ d' = d)
  unfold indA at q ⊢
  split at q
  · obtain ⟨a, b, c, d⟩ := q; exact ⟨a, b, c, fun b hb => ⟨rfl, (d b hb).2⟩⟩
  · obtain ⟨l, e, z, d, h1, h2, h3, h4, h5, h6⟩ := q; exact ⟨l, e, z, d, h1, h2, h3, h4, h5, rfl, h6.2⟩
  · exact q.elim
 case convert t u x =>
  have q : cvA P [] t u (ev G e x) (fun h' d' => h' = [] ∧ d' = d) := q
  show cvA P h t u (ev G e x) (fun h' d' => h' = h ∧ d' = d)
  unfold cvA at q ⊢
  split at q
  · exact one q
  · rcases q with ⟨q1, q2, q3, q4⟩ | ⟨q1, q2, q4⟩
    · exact .inl ⟨q1, q2, q3, rfl, q4.2⟩
    · exact .inr ⟨q1, q2, rfl, q4.2⟩
  · obtain ⟨q1, q2, q3⟩ := q
    unfold bstD
    split at q3
    · obtain ⟨bs, q4, q5⟩ := q3; exact ⟨q1, q2, bs, q4, rfl, q5.2⟩
    · obtain ⟨a, b, c, q4, _⟩ := q3; simp at q4
    · exact ⟨q1, q2, rfl, q3.2⟩
    · exact q3.elim
 case call c =>
  obtain ⟨cal, args, tys⟩ := c
  cases cal with
  | builtin b =>
   have q : biA P [] b tys.toList (args.toList.map (ev G e)) (fun h' d' => h' = [] ∧ d' = d) := q
   show biA P h b tys.toList (args.toList.map (ev G e)) (fun h' d' => h' = h ∧ d' = d)
   unfold biA at q ⊢
   split at q
   · exact one q
   · obtain ⟨a, b, c, ys, h1, h2, h3, h4⟩ := q
     exfalso
     split at h4
     · obtain ⟨xs, g1, _⟩ := h4; simp at g1
     · simp at h4
     · exact h4
   · exact q.elim
  | _ => exact q.elim
section
variable {m0 : Nat} {done : List Eff} {rest : List Oper} {Q : (Nat → D) → List Ob → Prop} {t : Nat} {op : Op} {ty : TypeId} {pos : String} {aft : Array Edge} {gd : Option (Nat × Bool)}
theorem Jw (c : Vh m0 ops 0 done.reverse) (q : Q e h) : aeS P G n m0 ops Q done [] e h := ⟨c, q⟩
theorem Zb8 {d : D} : (Jf d).heap h = h := by simp [Jf, Eff.heap, Yz]
theorem aS1 (hw : Yc ops gd e = some true) (ht : decide (t < n) = true) (H : ∀ K : List Ob → D → Prop, (∀ h' d, h' = [] → aeS P G n m0 ops Q (Jf d :: done) rest (upd e t d) h → K h' d) → aOp P G e [] K op) : aeS P G n m0 ops Q done (⟨some t, op, ty, pos, aft, gd⟩ :: rest) e h := by
 obtain ⟨d, h1, _, h2⟩ := aOp_det (H (fun h' d => h' = [] ∧ aeS P G n m0 ops Q (Jf d :: done) rest (upd e t d) h) fun h' d q1 q2 => ⟨q1, q2⟩) fun h' d q => q.1
 refine ⟨Jf d, .inl ⟨hw, ⟨by simp [Jf], fun _ _ _ => rfl⟩, fun h2 _ => .inl ?_⟩, by simp [Jf, Eff.ok], ?_⟩
 · rw [Zb8]; exact aOp_any h1 h2
 · rw [Zb8]
   unfold putE
   simp only [if_pos (of_decide_eq_true ht)]
   exact h2
theorem Vj {u : TypeId} {x : Operand} {i o : Nat} {ds : List D} {d : D} (hw : Yc ops gd e = some true) (ht : decide (t < n) = true) (hx : ev G e x = .ptr i o) (hi : h[i]? = some (.cells ds)) (hg : getD P u ds o = some d)
 (k : aeS P G n m0 ops Q (Za2 i (.cells ds) d :: done) rest (upd e t d) h) : aeS P G n m0 ops Q done (⟨some t, .load u x, ty, pos, aft, gd⟩ :: rest) e h := by
 have hh : ∀ h, (Za2 i (.cells ds) d).heap h = h := fun h => by simp [Za2, Eff.heap, Yz]
 refine ⟨Za2 i (.cells ds) d, .inl ⟨hw, ⟨by simp [Za2], fun _ _ _ => rfl⟩, fun h2 k2 => .inl ?_⟩, by simpa [Za2, Eff.ok] using hi, ?_⟩
 · rw [hh]
   have hi2 : h2[i]? = some (.cells ds) := k2 (i, .cells ds) (by simp [Za2])
   show on (U4 P h2 u (ev G e x)) _
   rw [hx]
   simp only [U4, hi2, hg, on]
   exact ⟨trivial, rfl⟩
 · rw [hh]; unfold putE; simp only [if_pos (of_decide_eq_true ht)]; exact k
theorem Vs {u : TypeId} {x y : Operand} {i o : Nat} {ds es : List D} (hw : Yc ops gd e = some true) (hx : ev G e x = .ptr i o) (hi : h[i]? = some (.cells ds)) (hy : (ev G e y).cells = some es) (hc : (es.all D.one && szT P u == some es.length) = true) (hle : o + es.length ≤ ds.length)
 (k : aeS P G n m0 ops Q (J1 i (.cells ds) (.cells (putL ds o es)) (.v undef) :: done) rest e (h.set i (.cells (putL ds o es)))) : aeS P G n m0 ops Q done (⟨none, .store u x y, ty, pos, aft, gd⟩ :: rest) e h := by
 have hh : ∀ h, (J1 i (.cells ds) (.cells (putL ds o es)) (.v undef)).heap h = h.set i (.cells (putL ds o es)) := fun h => by simp [J1, Eff.heap, Yz]
 refine ⟨J1 i (.cells ds) (.cells (putL ds o es)) (.v undef), .inl ⟨hw, ⟨by simp [J1], fun _ _ _ => rfl⟩, fun h2 k2 => .inl ?_⟩, by simpa [J1, Eff.ok] using hi, by rw [hh]; exact k⟩
 have hi2 : h2[i]? = some (.cells ds) := k2 (i, .cells ds) (by simp [J1])
 rw [hh]
 show on (Vk P h2 u (ev G e x) (ev G e y)) _
 rw [hx]
 simp only [Vk, hy, hc, if_true, hi2, if_pos hle, on]
 exact ⟨trivial, rfl⟩
theorem aS_lit {u len e' k' : Nat} {parts : Array (Nat × Operand)} {xs : List (List D)} (hw : Yc ops gd e = some true) (ht : decide (t < n) = true) (hl : litD P u len (parts.toList.map fun q => (q.1, ev G e q.2)) = some (e', k', xs))
 (k : aeS P G n m0 ops Q (⟨[], [], [.buf e' k' xs], fun m => .buf m len⟩ :: done) rest (upd e t (.buf h.length len)) (h ++ [.buf e' k' xs])) : aeS P G n m0 ops Q done (⟨some t, .buildSlice u len parts, ty, pos, aft, gd⟩ :: rest) e h := by
 refine ⟨⟨[], [], [.buf e' k' xs], fun m => .buf m len⟩, .inl ⟨hw, ⟨by simp, fun hn => by cases hn⟩, fun h2 _ => .inl ?_⟩, by simp [Eff.ok], ?_⟩
 · show on (litD P u len (parts.toList.map fun q => (q.1, ev G e q.2))) _
   rw [hl]; exact ⟨rfl, rfl⟩
 · unfold putE; simp only [if_pos (of_decide_eq_true ht)]; exact k
theorem aS_app {x y : Operand} {u u' i m e' k' by' : Nat} {xs ys : List (List D)} {R : List (Nat × Ob)} (hw : Yc ops gd e = some true) (ht : decide (t < n) = true) (hx : ev G e x = .buf i m) (hi : h[i]? = some (.buf e' k' xs)) (hm : xs.length = m) (ha : apT P u = some (e', k', by'))
 (hs : ∀ h2 : List Ob, (∀ q ∈ R, h2[q.1]? = some q.2) → srcD P h2 u u' (ev G e y) = some ys) (hR : ∀ q ∈ R, h[q.1]? = some q.2) (hk : X9 k' ys) (hb : (m + ys.length) * (by' + 1) ≤ 140737488355328)
 (k : aeS P G n m0 ops Q (⟨(i, .buf e' k' xs) :: R, [(i, .buf e' k' (xs ++ ys))], [], fun _ => .buf i (m + ys.length)⟩ :: done) rest (upd e t (.buf i (m + ys.length))) (h.set i (.buf e' k' (xs ++ ys)))) :
 aeS P G n m0 ops Q done (⟨some t, .call ⟨.builtin .append, #[x, y], #[u, u']⟩, ty, pos, aft, gd⟩ :: rest) e h := by
 have hh : ∀ h, (⟨(i, .buf e' k' xs) :: R, [(i, .buf e' k' (xs ++ ys))], [], fun _ => .buf i (m + ys.length)⟩ : Eff).heap h = h.set i (.buf e' k' (xs ++ ys)) := fun h => by simp [Eff.heap, Yz]
 refine ⟨⟨(i, .buf e' k' xs) :: R, [(i, .buf e' k' (xs ++ ys))], [], fun _ => .buf i (m + ys.length)⟩, .inl ⟨hw, ⟨by simp, fun _ _ _ => rfl⟩, fun h2 k2 => .inl ?_⟩, ?_, ?_⟩
 · rw [hh]
   have hi2 : h2[i]? = some (.buf e' k' xs) := k2 (i, .buf e' k' xs) (by simp)
   show aOp P G e h2 _ (.call ⟨.builtin .append, #[x, y], #[u, u']⟩)
   rw [aOp_bi]
   show biA P h2 .append [u, u'] [ev G e x, ev G e y] _
   rw [hx, biA_append]
   exact ⟨e', k', by', ys, ha, hs h2 fun q hq => k2 q (by simp [hq]), hk, xs, hi2, hm, hb, rfl, rfl⟩
 · intro q hq
   rcases List.mem_cons.1 hq with rfl | hq
   · exact hi
   · exact hR q hq
 · rw [hh]; unfold putE; simp only [if_pos (of_decide_eq_true ht)]; exact k
theorem aS_call {x : Operand} {args : Array Operand} {tys : Array TypeId} {f : FuncId} {cap : List D} {E : Eff} (hw : Yc ops gd e = some true) (ht : decide (t < n) = true) (hx : ev G e x = .fn f cap) (he : entB P f = true) (hf : E.fit) (hk : E.ok h)
 (hc : ∀ h2, E.ok h2 → Does P G f h2 (args.toList.map (ev G e) ++ cap) (fun h' r => h' = E.heap h2 ∧ r = E.d h2.length))
 (k : aeS P G n m0 ops Q (E :: done) rest (upd e t (E.d h.length)) (E.heap h)) : aeS P G n m0 ops Q done (⟨some t, .call ⟨.value x, args, tys⟩, ty, pos, aft, gd⟩ :: rest) e h :=
 ⟨E, .inl ⟨hw, hf, fun h2 k2 => .inr ⟨x, args, tys, f, cap, rfl, hx, he, hc h2 k2⟩⟩, hk, by unfold putE; simp only [if_pos (of_decide_eq_true ht)]; exact k⟩
theorem Vt {x : Operand} {args : Array Operand} {tys : Array TypeId} {f : FuncId} {cap : List D} {d : D} (hw : Yc ops gd e = some true) (ht : decide (t < n) = true) (hx : ev G e x = .fn f cap) (he : entB P f = true)
 (hc : ∀ h2, Does P G f h2 (args.toList.map (ev G e) ++ cap) (fun h' r => h' = h2 ∧ r = d))
 (k : aeS P G n m0 ops Q (Jf d :: done) rest (upd e t d) h) : aeS P G n m0 ops Q done (⟨some t, .call ⟨.value x, args, tys⟩, ty, pos, aft, gd⟩ :: rest) e h :=
 aS_call (E := Jf d) hw ht hx he ⟨by simp [Jf], fun _ _ _ => rfl⟩ (by simp [Jf, Eff.ok]) (fun h2 _ => by rw [Zb8]; exact hc h2) (by rw [Zb8]; exact k)
theorem aS_call1 {x : Operand} {args : Array Operand} {tys : Array TypeId} {f : FuncId} {cap : List D} {d : D} {i : Nat} {ob ob' : Ob} (hw : Yc ops gd e = some true) (ht : decide (t < n) = true) (hx : ev G e x = .fn f cap) (he : entB P f = true) (hi : h[i]? = some ob)
 (hc : ∀ h2, h2[i]? = some ob → Does P G f h2 (args.toList.map (ev G e) ++ cap) (fun h' r => h' = h2.set i ob' ∧ r = d))
 (k : aeS P G n m0 ops Q (J1 i ob ob' d :: done) rest (upd e t d) (h.set i ob')) : aeS P G n m0 ops Q done (⟨some t, .call ⟨.value x, args, tys⟩, ty, pos, aft, gd⟩ :: rest) e h := by
 have hh : ∀ h, (J1 i ob ob' d).heap h = h.set i ob' := fun h => by simp [J1, Eff.heap, Yz]
 exact aS_call (E := J1 i ob ob' d) hw ht hx he ⟨by simp [J1], fun _ _ _ => rfl⟩ (by simpa [J1, Eff.ok] using hi) (fun h2 k2 => by rw [hh]; exact hc h2 (k2 (i, ob) (by simp [J1]))) (by rw [hh]; exact k)
end
section
variable {m0 : Nat} {done : List Eff} {rest : List Oper} {Q : (Nat → D) → List Ob → Prop} {t : Nat} {ty : TypeId} {pos : String} {aft : Array Edge} {gd : Option (Nat × Bool)} {x y : Operand} {u i j m m' e' k' e2 k2 by' : Nat} {xs ys : List (List D)}
theorem src_buf {h2 : List Ob} {d : D} (hy : d = .buf j m') (hj : h2[j]? = some (.buf e2 k2 ys)) (hm : ys.length = m') : srcD P h2 u u d = some ys := by
 subst hy; unfold srcD; simp only [if_true, hj, if_pos hm]
theorem src_any {u' : Nat} {h2 : List Ob} {d : D} (q : srcD P [] u u' d = some ys) : srcD P h2 u u' d = some ys := by
 unfold srcD at q ⊢
 split at q
 · exact q
 · split at q
   · simp at q
   · cases q
 · split at q
   · simp at q
   · cases q
 · exact q
 · exact q
 · cases q
theorem aS_appR {u' : Nat} (hw : Yc ops gd e = some true) (ht : decide (t < n) = true) (hx : ev G e x = .buf i m) (hi : h[i]? = some (.buf e' k' xs)) (hm : xs.length = m) (ha : apT P u = some (e', k', by')) (hs : srcD P [] u u' (ev G e y) = some ys)
 (hk : X9 k' ys) (hb : (m + ys.length) * (by' + 1) ≤ 140737488355328)
 (k : aeS P G n m0 ops Q (⟨[(i, .buf e' k' xs)], [(i, .buf e' k' (xs ++ ys))], [], fun _ => .buf i (m + ys.length)⟩ :: done) rest (upd e t (.buf i (m + ys.length))) (h.set i (.buf e' k' (xs ++ ys)))) :
 aeS P G n m0 ops Q done (⟨some t, .call ⟨.builtin .append, #[x, y], #[u, u']⟩, ty, pos, aft, gd⟩ :: rest) e h :=
 aS_app (R := []) hw ht hx hi hm ha (fun h2 q => src_any hs) (by simp) hk hb k
end
/-! What a function hands back, its own memory being given away. -/
@[go_sem] theorem byD_len {l : List UInt8} : (byD l).length = l.length := by simp [byD]
theorem Za9 {l : List UInt8} (a b : Nat) : ((byD l).take b).drop a = byD ((l.take b).drop a) := by simp [byD, List.map_drop, List.map_take]
theorem X0 (l : List UInt8) : X9 1 (byD l) := fun row hr => by
 obtain ⟨b, _, rfl⟩ := List.mem_map.1 hr
 exact ⟨rfl, by simp [D.one, Value.oneCell']⟩
theorem rowsOk_nil (k : Nat) : X9 k [] := by simp [X9]
theorem Does.weak {f : FuncId} {args : List D} {K : List Ob → D → Prop} (q : Does P G f h args (fun h' r => ∃ r', K h' r' ∧ ∀ hd hh W u, rd hd hh W r u → rd hd hh W r' u)) : Does P G f h args K := fun w hd p vs o ha =>
 (q w hd p vs o ha).mono fun _ _ ⟨v, hd', h', r, p', e, ⟨r', hk, hw⟩, o', q', ev⟩ => ⟨v, hd', h', r', p', e, hk, o', hw _ _ _ _ q', ev⟩
theorem Zk9 {k : Nat} : ∀ hd hh W u, rd hd hh W (.v (.slice none 0 0)) u → rd hd hh W (.sl k []) u := fun hd hh W u q => by
 have q : u = .slice none 0 0 := by rw [rd] at q; exact q
 subst q
 rw [rd]
 exact ⟨none, 0, rfl, ⟨fun _ => rfl, Zf _⟩, by decide, by rw [X5]; trivial⟩
theorem Xe {P : Program} {G : Nat → D} {c : Code} {Q : Exit → S → Prop} {s : S} (q : aw P G c Q s) : aw P G c Q s := q
theorem Y8 {P : Program} {G : Nat → D} {ops : Array Oper} {l : List Oper} {Q : S → Prop} {s : S} (q : ao P G ops l Q s) : ao P G ops l Q s := q
theorem Ws {P : Program} {G : Nat → D} {n : Nat} {ops : Array Oper} {h : List Ob} {Q : (Nat → D) → Prop} {l : List Oper} {e : Nat → D} (q : aq P G n ops h Q l e) : aq P G n ops h Q l e := q
theorem gd_aS {P : Program} {G : Nat → D} {n m0 : Nat} {ops : Array Oper} {Q : (Nat → D) → List Ob → Prop} {done : List Eff} {l : List Oper} {e : Nat → D} {h : List Ob} (q : aeS P G n m0 ops Q done l e h) : aeS P G n m0 ops Q done l e h := q
theorem Zg8 {K : S → Prop} {Q : Exit → S → Prop} {x : Exit} {s : S} (q : Zo1 K Q x s) : Zo1 K Q x s := q
theorem Yb5 {i : Nat} {Q : Exit → S → Prop} {x : Exit} {s : S} (q : Vq i Q x s) : Vq i Q x s := q
@[reducible] def nxA (P : Program) (G : Nat → D) (Q : Exit → S → Prop) (s : S) : Code → Option Prop
 | .seq x y => some (aw P G x (Zo1 (aw P G y Q) Q) s)
 | .region _ ⟨l⟩ false => some (ao P G l.toArray l (Q .normal) s)
 | .block id c => some (aw P G c (Vq id Q) s)
 | .skip => some (Q .normal s)
 | .exit id => some (Q (.exit id) s)
 | .ret => some (Q .ret s)
 | _ => none
theorem sA {P : Program} {G : Nat → D} {c : Code} {Q : Exit → S → Prop} {s : S} {p : Prop} (h : nxA P G Q s c = some p) (k : p) : aw P G c Q s := by
 unfold nxA at h
 split at h
 · cases h; exact We k
 · cases h; exact Yx k
 · cases h; exact W6 k
 · cases h; exact V1 k
 · cases h; exact U2 k
 · cases h; exact Uz k
 · cases h
@[reducible] def nxI (P : Program) (G : Nat → D) (Q : Exit → S → Prop) (s : S) (x y : Code) : Bool → Option Prop
 | true => some (aw P G x Q s)
 | false => some (aw P G y Q s)
theorem sI {P : Program} {G : Nat → D} {c : Operand} {x y : Code} {Q : Exit → S → Prop} {s : S} {b : Bool} {p : Prop} (hb : ev G s.env c = .v (.bool b)) (h : nxI P G Q s x y b = some p) (k : p) : aw P G (.cond c x y) Q s := by
 cases b
 · cases h; exact Ui hb k
 · cases h; exact Vn hb k
@[reducible] def nxT (K : S → Prop) (Q : Exit → S → Prop) (s : S) : Exit → Option Prop
 | .normal => some (K s)
 | .exit i => some (Q (.exit i) s)
 | .ret => some (Q .ret s)
 | _ => none
theorem sT {K : S → Prop} {Q : Exit → S → Prop} {s : S} {x : Exit} {p : Prop} (h : nxT K Q s x = some p) (k : p) : Zo1 K Q x s := by
 cases x <;> first | (cases h; exact k) | cases h
@[reducible] def nxB (i : Nat) (Q : Exit → S → Prop) (s : S) : Exit → Option Prop
 | .normal => some (Q .normal s)
 | .exit j => match Z2 j i with
   | true => some (Q .normal s)
   | false => some (Q (.exit j) s)
 | .ret => some (Q .ret s)
 | _ => none
theorem sB {i : Nat} {Q : Exit → S → Prop} {s : S} {x : Exit} {p : Prop} (h : nxB i Q s x = some p) (k : p) : Vq i Q x s := by
 cases x with
 | exit j =>
  simp only [nxB] at h
  split at h
  · rename_i e; cases h; have e := Z9 e; subst e; exact Zu4 k
  · rename_i e; cases h; exact inB_y (beq_eq_false_iff_ne.2 (Nat.ne_of_beq_eq_false e)) k
 | _ => first | (cases h; exact k) | cases h
theorem endV {P : Program} {res : Array ResultVar} {h0 : List Ob} {K : List Ob → D → Prop} {s : S} {ds : List D} {x : Value} (hl : lowH h0.length h0) (h1 : resD P s res.toList = some ds) (h3 : cvD (fun i => decide (h0.length ≤ i)) s.h (outD ds) = .v x) (hK : K h0 (.v x))
 (h2 : s.h.take h0.length = h0 := by simp) (h4 : h0.length ≤ s.h.length := by simp) : EndD P res h0.length K s := endD hl h1 h2 h4 h3 (by rw [low]; trivial) hK
end
section
variable {P : Program} {G : Nat → D} {n : Nat} {e : Nat → D} {h h1 : List Ob} {ops : Array Oper} {md : Region.Mode}
def opds (o : Op) : List Operand := o.operands.toList
def OpTri (P : Program) (G : Nat → D) (o : Oper) (args : List D) (h : List Ob) (K : List Ob → D → Prop) : Prop :=
 ∀ (a : Act) w hd p (R : Exit → Act → World → Prop), a.defers = [] → Ok G w hd h p → rdL hd h (only p w) args ((opds o.op).map a.eval) → o.wp P a w (fun a' w' => ∃ v, a' = a.put o.dst v ∧ Post G w hd h p K v w') R
theorem OpTri.mono {o : Oper} {args : List D} {K K' : List Ob → D → Prop} (q : OpTri P G o args h K) (k : ∀ h' r, K h' r → K' h' r) : OpTri P G o args h K' := fun a w hd p R hd0 ok ha =>
 Oper.wp_mono (fun _ _ ⟨v, e, q⟩ => ⟨v, e, q.mono k⟩) (q a w hd p R hd0 ok ha)
theorem opds_env {a : Act} {w : World} {hd : List Value} {W : World} (op : Op) (ha : rdL hd h W ((opds op).map (ev G e)) ((opds op).map a.eval)) : ∀ t, Operand.tmp t ∈ opds op → rd hd h W (e t) (a.tmps.getD t undef) := fun t ht => by
 obtain ⟨j, hj, hx⟩ := List.getElem_of_mem ht
 obtain ⟨u, h1, h2⟩ := ((Yk _ _).1 ha).2 j (e t) (by rw [List.getElem?_map, Z3 hj, hx]; rfl)
 rw [List.getElem?_map, Z3 hj, hx] at h1
 cases h1; exact h2
open Classical in
theorem Vu {K : List Ob → D → Prop} {o : Oper} (q : aOp P G e h K o.op) : OpTri P G o ((opds o.op).map (ev G e)) h K := fun a w hd p R hdf ok ha => by
 obtain ⟨dst, op, ty, pos, aft, gd⟩ := o
 have r : Sat G ⟨w, hd, h, p⟩ ⟨a.tmps.size, fun t => if Operand.tmp t ∈ opds op then e t else .any, h⟩ a w hd p := ⟨ok, .refl _ _ _ _, fun t => by
  show rd _ _ _ (if _ then _ else _) _
  split
  · rename_i ht; exact opds_env (w := w) op ha t ht
  · rw [rd]; trivial, rfl, hdf⟩
 have q2 : aOp P G (fun t => if Operand.tmp t ∈ opds op then e t else .any) h K op := Zh8 (fun x hx => by
  cases x with
  | tmp t => show (if Operand.tmp t ∈ opds op then e t else .any) = e t; rw [if_pos (by unfold opds; simpa using hx)]
  | _ => rfl) q
 obtain ⟨v, w', hd', h', p', d, hr, k, o', q', ev'⟩ := Zh7 (dst := dst) (ty := ty) (pos := pos) (aft := aft) (gd := gd) r q2
 unfold Oper.wp
 rcases hr with hr | ⟨hr, rfl⟩
 · rw [hr]; exact ⟨v, rfl, hd', h', d, p', k, o', q', ev'⟩
 · rw [hr]; exact ⟨undef, rfl, hd', h', d, p', k, o', q', ev'⟩
theorem U0 {f : FuncId} {args : List D} {K : List Ob → D → Prop} : Does P G f h args K ↔ ∀ w hd p vs, Ok G w hd h p → rdL hd h (only p w) args vs → Calls P f vs.toArray w fun e w' => ∃ v, e = .returned v ∧ Post G w hd h p K v w' := by
 constructor
 · exact fun q w hd p vs o ha => (q w hd p vs o ha).mono fun _ _ ⟨v, hd', h', r, p', e, k, o', q', ev⟩ => ⟨v, e, hd', h', r, p', k, o', q', ev⟩
 · exact fun q w hd p vs o ha => (q w hd p vs o ha).mono fun _ _ ⟨v, e, hd', h', r, p', k, o', q', ev⟩ => ⟨v, hd', h', r, p', e, k, o', q', ev⟩
theorem tri_of_call {K : List Ob → D → Prop} {dst : Option Nat} {x : Operand} {args : Array Operand} {tys : Array TypeId} {ty : TypeId} {pos : String} {aft : Array Edge} {gd : Option (Nat × Bool)} {f : FuncId} {cap xs : List D} (he : entB P f = true) (hc : Does P G f h (xs ++ cap) K) :
 OpTri P G ⟨dst, .call ⟨.value x, args, tys⟩, ty, pos, aft, gd⟩ (.fn f cap :: xs) h K := fun a w hd p R hdf ok ha => by
 have ho : opds (.call ⟨.value x, args, tys⟩) = x :: args.toList := by simp [opds, Op.operands, Call.operands]
 rw [ho, Zc, rdL] at ha
 obtain ⟨u, t, e0, q, ha⟩ := ha
 cases e0
 rw [rd] at q
 obtain ⟨cs, e1, q⟩ := q
 have hrun : (execOp a.eval ⟨dst, .call ⟨.value x, args, tys⟩, ty, pos, aft, gd⟩).run P w = .ok (.enter f (args.map a.eval ++ cs)) w := by
  simp [execOp, resolve, e1, Deferred.ofValue, invoke, Ze9 he]
 unfold Oper.wp
 rw [hrun, Oper.upon_enter]
 have := U0.1 hc w hd p _ ok (Xf ha q)
 rw [show (args.toList.map a.eval ++ cs.toList).toArray = args.map a.eval ++ cs by apply Array.ext'; simp] at this
 refine this.mono ?_
 rintro e w' ⟨v, rfl, q⟩
 exact ⟨v, rfl, q⟩
section
variable {π : Nat → Nat} {args : List D} {K1 : List Ob → D → Prop}
def Fits (π : Nat → Nat) (m : Nat) (h : List Ob) (K1 : List Ob → D → Prop) : Prop := ∀ h1' r1, K1 h1' r1 → (∀ i j, i < h1'.length → j < h1'.length → π i = π j → i = j) ∧ ∀ j, m ≤ j → j < h1'.length → h[π j]? = some .hole
def inGreat (π : Nat → Nat) (h : List Ob) (K1 : List Ob → D → Prop) (h' : List Ob) (r : D) : Prop := ∃ h1' r1, K1 h1' r1 ∧ h' = plc π h 0 (h1'.map (Xv π)) ∧ r = ren π r1
theorem OpTri.frame (hG : ∀ g, low 0 (G g)) (L : Lies π h1 h) (la : lowL h1.length args) (fit : Fits π h1.length h K1) {o : Oper} (q : OpTri P G o args h1 K1) : OpTri P G o (renL π args) h (inGreat π h K1) := fun a w hd p R hdf ok ha =>
 Oper.wp_mono (fun _ _ ⟨v, e, q⟩ => ⟨v, e, q.frame ok hG L fit⟩) (q a w _ p R hdf (L.ok ok hG) (Jb (L.une ok) ok.len (fun _ _ h => h) _ _ la ha))
theorem Does.frame (hG : ∀ g, low 0 (G g)) (L : Lies π h1 h) (la : lowL h1.length args) (fit : Fits π h1.length h K1) {f : FuncId} (q : Does P G f h1 args K1) : Does P G f h (renL π args) (inGreat π h K1) := U0.2 fun w hd p vs ok ha =>
 (U0.1 q w _ p vs (L.ok ok hG) (Jb (L.une ok) ok.len (fun _ _ h => h) _ _ la ha)).mono fun _ _ ⟨v, e, q⟩ => ⟨v, e, q.frame ok hG L fit⟩
end
def holes (c : Nat) : List Ob := Z8 c .hole
theorem Ok.holes {w : World} {hd : List Value} {p : Nat → Bool} (o : Ok G w hd h p) (c : Nat) : Ok G w (hd ++ Z8 c .nilFunc) (h ++ Go.Proofs.YtgkjcmglcnhpaaaGreatDoor.holes c) p ∧ Evo w hd h p w (hd ++ Z8 c .nilFunc) (h ++ Go.Proofs.YtgkjcmglcnhpaaaGreatDoor.holes c) p := by
 have hol : ∀ {i : Nat} {ob : Ob}, (h ++ Go.Proofs.YtgkjcmglcnhpaaaGreatDoor.holes c)[i]? = some ob → h[i]? = some ob ∨ (h.length ≤ i ∧ ob = .hole) := fun {i ob} q => by
  rcases Zh i h.length with hi | hi
  · rw [Z1 hi] at q; exact .inl q
  · rw [Ze hi] at q
    exact .inr ⟨hi, (List.mem_replicate.1 (List.mem_of_getElem? q)).2⟩
 have old : ∀ {i : Nat} {ob : Ob} {u : Value}, (h ++ Go.Proofs.YtgkjcmglcnhpaaaGreatDoor.holes c)[i]? = some ob → ob.live = true → (hd ++ Z8 c Value.nilFunc)[i]? = some u → h[i]? = some ob ∧ hd[i]? = some u := fun {i ob u} q l r => by
  rcases hol q with h' | ⟨_, rfl⟩
  · exact ⟨h', by rwa [Z1 (by rw [o.len]; exact (Z0.1 h').1)] at r⟩
  · cases l
 have e : Evo w hd h p w (hd ++ Z8 c .nilFunc) (h ++ Go.Proofs.YtgkjcmglcnhpaaaGreatDoor.holes c) p := by
  refine ⟨⟨rfl, Zf _⟩, rfl, rfl, Zf _, fun _ _ _ => rfl, fun _ _ q => q, fun _ _ q => .inl q, fun b _ ⟨i, ob, u, q1, q2, q3, q4⟩ => ?_, by simp, fun i B q => ?_, fun i B q => ?_, fun _ q => q.app, fun i E k xs hu q => ?_⟩
  · obtain ⟨h1, h2⟩ := old q1 q2 q3
    exact ⟨i, ob, u, h1, q2, h2, q4⟩
  · rw [Z1 (Z0.1 q).1]; exact q
  · rw [Z1 (Z0.1 q).1]; exact q
  · rw [Z1 hu.lt] at q
    exact ⟨E, xs, q, Zf _, fun _ => by rw [Z1 (by rw [o.len]; exact hu.lt)]⟩
 refine ⟨⟨by simp [o.len, Go.Proofs.YtgkjcmglcnhpaaaGreatDoor.holes], fun i ob u q1 q2 => ?_, fun i j oi oj ui uj b q1 q2 l1 l2 r1 r2 => ?_, Jj e o, Jm e o⟩, e⟩
 · rcases hol q1 with h' | ⟨hi, rfl⟩
   · rw [Z1 (by rw [o.len]; exact (Z0.1 h').1)] at q2
     exact (o.ob i ob u h' q2).move e o (fun _ _ _ => rfl) fun _ _ _ q => q
   · rw [Ze (by rw [o.len]; exact hi)] at q2
     exact (List.mem_replicate.1 (List.mem_of_getElem? q2)).2
 · obtain ⟨a1, a2⟩ := old q1 l1 r1
   obtain ⟨c1, c2⟩ := old q2 l2 r2
   exact o.inj i j oi oj ui uj b a1 c1 l1 l2 a2 c2
theorem Post.before {w w' : World} {hd hd' : List Value} {h h' : List Ob} {p p' : Nat → Bool} (e : Evo w hd h p w hd' h' p') {K : List Ob → D → Prop} {v : Value} (q : Post G w hd' h' p' K v w') : Post G w hd h p K v w' := by
 obtain ⟨hd2, h2, r, p2, k, o, q, e2⟩ := q
 exact ⟨hd2, h2, r, p2, k, o, q, e.trans e2⟩
theorem Does.holes {f : FuncId} {args : List D} {K : List Ob → D → Prop} (c : Nat) (q : Does P G f (h ++ Go.Proofs.YtgkjcmglcnhpaaaGreatDoor.holes c) args K) : Does P G f h args K := U0.2 fun w hd p vs ok ha => by
 obtain ⟨ok2, e⟩ := ok.holes c
 exact (U0.1 q w _ p vs ok2 (e.rdL ok ha)).mono fun _ _ ⟨v, e1, q⟩ => ⟨v, e1, q.before e⟩
theorem Sit_holes {B : Base} {a : Act} {w : World} (c : Nat) (r : Sit G B ⟨n, e, h⟩ a w) : Sit G B ⟨n, e, h ++ holes c⟩ a w := by
 obtain ⟨hd, p, r⟩ := r
 obtain ⟨o, ev⟩ := r.ok.holes c
 exact ⟨_, p, o, r.evo.trans ev, fun t => ev.rd r.ok (r.tmp t), r.size, r.defers⟩
structure Ef where
 R : List (Nat × Ob)
 W : List (Nat × Ob)
 d : D
def Ef.ok (E : Ef) (h : List Ob) : Prop := ∀ x ∈ E.R, h[x.1]? = some x.2
def Ef.heap (E : Ef) (h : List Ob) : List Ob := Yz h E.W
def Ef.fit (E : Ef) : Prop := ∀ x ∈ E.W, ∃ y ∈ E.R, y.1 = x.1
def nopF : Ef := ⟨[], [], .v undef⟩
def YT (P : Program) (G : Nat → D) (o : Oper) (args : List D) (E : Ef) : Prop := E.fit ∧ ∀ h, E.ok h → OpTri P G o args h (fun h' r => h' = E.heap h ∧ r = E.d)
def YDT (P : Program) (G : Nat → D) (ops : Array Oper) (o : Oper) (E : Ef) (e : Nat → D) : Prop := (Yc ops o.guard e = some true ∧ YT P G o ((opds o.op).map (ev G e)) E) ∨ (Yc ops o.guard e = some false ∧ E = nopF)
theorem YDT.fit {o : Oper} {E : Ef} (q : YDT P G ops o E e) : E.fit := by
 rcases q with ⟨_, q⟩ | ⟨_, rfl⟩
 · exact q.1
 · simp [nopF, Ef.fit]
theorem YDT.congr {o : Oper} {E : Ef} {dst : Option Nat} {v : D} (q : ∀ t, dst = some t → t ∉ o.looksAt ops) : YDT P G ops o E (putE n e dst v) ↔ YDT P G ops o E e := by
 have key : (opds o.op).map (ev G (putE n e dst v)) = (opds o.op).map (ev G e) := List.map_congr_left fun x hx => Yb6 fun t ht => Zb9 (q t ht) x (by unfold opds at hx; simpa using hx)
 unfold YDT
 rw [J2 q, key]
def compF (E F : Ef) : Prop := (∀ x ∈ E.W, ∀ y ∈ F.R, x.1 ≠ y.1) ∧ (∀ x ∈ F.W, ∀ y ∈ E.R, x.1 ≠ y.1)
theorem compF.symm {E F : Ef} (q : compF E F) : compF F E := ⟨q.2, q.1⟩
theorem Ef.heap_len (E : Ef) (h : List Ob) : (E.heap h).length = h.length := V9 _ _
theorem Ef.ok_after {E F : Ef} (c : compF E F) : F.ok (E.heap h) ↔ F.ok h := by
 constructor <;> intro q y hy <;> have := q y hy <;> unfold Ef.heap at * <;> rw [Zb3 _ _ fun x hx => c.1 x hx y hy] at * <;> exact this
theorem Ef.heap_comm {E F : Ef} (c : compF E F) (fF : F.fit) : F.heap (E.heap h) = E.heap (F.heap h) := Zd0 E.W F.W h fun x hx y hy => by
 obtain ⟨z, hz, he⟩ := fF y hy
 rw [← he]; exact c.1 x hx z hz
def afOp (P : Program) (G : Nat → D) (n : Nat) (ops : Array Oper) (ef : Nat → Ef) (i : Nat) (K : (Nat → D) → List Ob → Prop) (e : Nat → D) (h : List Ob) : Prop := match ops[i]? with
 | none => K e h
 | some o => YDT P G ops o (ef i) e ∧ (ef i).ok h ∧ K (putE n e o.dst (ef i).d) ((ef i).heap h)
def afAny (P : Program) (G : Nat → D) (n : Nat) (md : Region.Mode) (ops : Array Oper) (ef : Nat → Ef) (Q : (Nat → D) → List Ob → Prop) : Nat → Array Bool → (Nat → D) → List Ob → Prop
 | 0, listed, e, h => Region.ready md ops listed = [] ∧ Q e h
 | fuel + 1, listed, e, h => (Region.ready md ops listed = [] → Q e h) ∧ ∀ i ∈ Region.ready md ops listed, afOp P G n ops ef i (afAny P G n md ops ef Q fuel (listed.setIfInBounds i true)) e h
theorem afAny_first {ef : Nat → Ef} {Q : (Nat → D) → List Ob → Prop} {i : Nat} {oi : Oper} (hi : ops[i]? = some oi) : ∀ (fuel : Nat) (listed : Array Bool) (e : Nat → D) (h : List Ob), Closed md ops listed →
 (∀ j oj, ops[j]? = some oj → j ≠ i → listed.getD j true = false → (∀ e ∈ oj.after, Region.binds md e = true → e.on ≠ i) → (∀ k, twB md ops k j i = false) → oi.apart ops oj = true ∧ compF (ef i) (ef j)) →
 i ∈ Region.ready md ops listed → YDT P G ops oi (ef i) e → (ef i).ok h → afAny P G n md ops ef Q fuel (listed.setIfInBounds i true) (putE n e oi.dst (ef i).d) ((ef i).heap h) → afAny P G n md ops ef Q (fuel + 1) listed e h := by
  intro fuel
  induction fuel with
  | zero =>
    intro listed a h _ _ hr hy hk H
    refine ⟨fun h => (by rw [h] at hr; cases hr), fun j hj => ?_⟩
    by_cases hji : j = i
    · subst hji; unfold afOp; simp only [hi]; exact ⟨hy, hk, H⟩
    · have := ready_mono hj hji
      rw [H.1] at this
      cases this
  | succ fuel ih =>
    intro listed a h hcl hfree hr hy hk H
    refine ⟨fun h => (by rw [h] at hr; cases hr), fun j hj => ?_⟩
    by_cases hji : j = i
    · subst hji; unfold afOp; simp only [hi]; exact ⟨hy, hk, H⟩
    · have h1 := H.2 j (ready_mono hj hji)
      obtain ⟨hjun, oj, hoj, hall⟩ := mem_ready.1 hj
      have hnot : ∀ e ∈ oj.after, Region.binds md e = true → e.on ≠ i := fun e he hb heq => by
        have h1 := hall e he hb
        have h0 := (mem_ready.1 hr).1
        rw [heq] at h1
        rcases Zh i listed.size with h' | h'
        · simp [h'] at h0 h1; rw [h0] at h1; cases h1
        · simp [Z7 h'] at h1
      have hnt : ∀ k, twB md ops k j i = false := fun k => by
       cases ht : twB md ops k j i with
       | false => rfl
       | true =>
        have h1 := Zy1 hcl (Z5.1 hi).1 k j oj hoj hall ht
        have h0 := (mem_ready.1 hr).1
        rw [Z4] at h0 h1
        cases hl : listed[i]? with
        | none => rw [hl] at h0; cases h0
        | some b => rw [hl] at h0 h1; simp at h0 h1; rw [h0] at h1; cases h1
      obtain ⟨hap, hc⟩ := hfree j oj hoj hji hjun hnot hnt
      obtain ⟨a1, a2, a3⟩ := Oper.apart_spec hap
      unfold afOp at h1 ⊢
      simp only [hoj] at h1 ⊢
      obtain ⟨y1, y2, y3⟩ := h1
      have yj : YDT P G ops oj (ef j) a := (YDT.congr a1).1 y1
      have kj : (ef j).ok h := (Ef.ok_after hc).1 y2
      have ki : (ef i).ok ((ef j).heap h) := (Ef.ok_after hc.symm).2 hk
      have hfree' : ∀ k ok, ops[k]? = some ok → k ≠ i → (listed.setIfInBounds j true).getD k true = false →
          (∀ e ∈ ok.after, Region.binds md e = true → e.on ≠ i) → (∀ f, twB md ops f k i = false) → oi.apart ops ok = true ∧ compF (ef i) (ef k) := fun k ok hk hki hun hno hnt => by
        refine hfree k ok hk hki ?_ hno hnt
        by_cases hjk : j = k
        · subst hjk; exact hjun
        · rw [getD_set_ne true hjk] at hun; exact hun
      refine ⟨yj, kj, ih (listed.setIfInBounds j true) _ _ (hcl.set hj) hfree' (ready_mono hr (Ne.symm hji)) ((YDT.congr a3).2 hy) ki ?_⟩
      rw [Zg _ _ hji]
      rw [← Ef.heap_comm hc yj.fit, ← Zr0 a2]
      exact y3
def efOk (md : Region.Mode) (ops : Array Oper) (ef : Nat → Ef) : Prop := ∀ i j oj, i < j → ops[j]? = some oj → (∀ e ∈ oj.after, Region.binds md e = true → e.on ≠ i) → (∀ k, twB md ops k j i = false) → compF (ef i) (ef j)
def af (P : Program) (G : Nat → D) (n : Nat) (ops : Array Oper) (ef : Nat → Ef) (Q : (Nat → D) → List Ob → Prop) : Nat → List Oper → (Nat → D) → List Ob → Prop
 | _, [], e, h => Q e h
 | k, o :: rest, e, h => YDT P G ops o (ef k) e ∧ (ef k).ok h ∧ af P G n ops ef Q (k + 1) rest (putE n e o.dst (ef k).d) ((ef k).heap h)
section
variable {B : Base} {a : Act} {w : World}
theorem tri_sound {o : Oper} {h' : List Ob} {d : D} {K : Act → World → Prop} {R : Exit → Act → World → Prop} (q : OpTri P G o ((opds o.op).map (ev G e)) h (fun h1 d1 => h1 = h' ∧ d1 = d)) (r : Sit G B ⟨n, e, h⟩ a w) (k : ∀ a' w', Sit G B ⟨n, putE n e o.dst d, h'⟩ a' w' → K a' w') : o.wp P a w K R := by
 obtain ⟨hd, p, r⟩ := r
 refine Oper.wp_mono ?_ (q a w hd p R r.defers r.ok (Zj0 r _))
 rintro a' w' ⟨v, rfl, hd', h'', d', p', ⟨rfl, rfl⟩, o', q', ev'⟩
 have := r.put o' ev' q' o.dst
 rw [Ua] at this
 exact k _ _ ⟨hd', p', this⟩
theorem Jt {ef : Nat → Ef} {Q : (Nat → D) → List Ob → Prop} {R : Exit → Act → World → Prop} (k : ∀ e h a w, Q e h → Sit G B ⟨n, e, h⟩ a w → R .normal a w) : ∀ (fuel : Nat) (listed : Array Bool) (e : Nat → D) (h : List Ob) (a : Act) (w : World), Sit G B ⟨n, e, h⟩ a w → afAny P G n md ops ef Q fuel listed e h → wpAny P md ops R fuel listed a w
 | 0, _, _, _, _, _, r, q => ⟨q.1, k _ _ _ _ q.2 r⟩
 | fuel + 1, listed, e, h, a, w, r, q => ⟨fun h0 => k _ _ _ _ (q.1 h0) r, fun i hi => by
   have q2 := q.2 i hi
   unfold afOp at q2
   unfold wpOp
   split
   · rename_i ho; rw [ho] at q2; exact Jt k fuel _ _ _ _ _ r q2
   · rename_i o ho
     rw [ho] at q2
     obtain ⟨hy, hk, hn⟩ := q2
     obtain ⟨hd, p, r'⟩ := id r
     rcases hy with ⟨hw, _, hs⟩ | ⟨hw, hE⟩
     · have hw' := Yu (o := o) r' hw
       rw [if_pos hw']
       exact .inl (tri_sound (hs h hk) r fun a' w' r2 => Jt k fuel _ _ _ _ _ r2 hn)
     · have hw' := Yu (o := o) r' hw
       rw [if_neg (by rw [hw']; decide)]
       rw [hE] at hn
       have r3 := r'.put0 (d := .v undef) (v := undef) (by rw [rd]) o.dst
       rw [Ua] at r3
       exact Jt k fuel _ _ _ _ _ ⟨hd, p, r3⟩ hn⟩
end
theorem aw_holes {c : Code} {Q : Exit → S → Prop} (k : Nat) (q : aw P G c Q ⟨n, e, h ++ holes k⟩) : aw P G c Q ⟨n, e, h⟩ := fun B a w r => q B a w (Sit_holes k r)
theorem Zx3 {o : Oper} {rest : List Oper} {Q : S → Prop} {h' : List Ob} {d : D} (hw : Yc ops o.guard e = some true) (q : OpTri P G o ((opds o.op).map (ev G e)) h (fun h1 d1 => h1 = h' ∧ d1 = d)) (k : ao P G ops rest Q ⟨n, putE n e o.dst d, h'⟩) : ao P G ops (o :: rest) Q ⟨n, e, h⟩ := by
 rintro B a w r R hR
 obtain ⟨hd, p, r'⟩ := id r
 unfold wpList
 rw [if_pos (Yu (o := o) r' hw)]
 exact .inl (tri_sound q r fun a' w' r2 => k B a' w' r2 R hR)
theorem ao_triN {o : Oper} {rest : List Oper} {Q : S → Prop} (hw : Yc ops o.guard e = some false) (k : ao P G ops rest Q ⟨n, putE n e o.dst (.v undef), h⟩) : ao P G ops (o :: rest) Q ⟨n, e, h⟩ := by
 obtain ⟨dst, op, ty, pos, aft, gd⟩ := o
 exact ao_skip hw (by rw [Ua]; exact k)
end
section
set_option linter.unusedSectionVars false
theorem bqT {a b : Nat} (q : Z2 a b = true) : a = b := Z9 q
theorem bqF {a b : Nat} (q : Z2 a b = false) : a ≠ b := Nat.ne_of_beq_eq_false q
theorem bqE (a b : Nat) : Z2 a b = decide (a = b) := by
 cases h : Z2 a b
 · rw [decide_eq_false (bqF h)]
 · rw [decide_eq_true (bqT h)]
inductive Tr where
 | leaf
 | node (d : D) (l r : Tr)
def Tr.get : Tr → Nat → D
 | .leaf, _ => .any
 | .node d l r, i => bif Z2 i 0 then d else bif Z2 (i % 2) 1 then l.get (i / 2) else r.get (i / 2 - 1)
def Tr.set : Nat → Tr → Nat → D → Tr
 | 0, t, _, _ => t
 | k + 1, .leaf, i, d => bif Z2 i 0 then .node d .leaf .leaf else bif Z2 (i % 2) 1 then .node .any (Tr.set k .leaf (i / 2) d) .leaf else .node .any .leaf (Tr.set k .leaf (i / 2 - 1) d)
 | k + 1, .node d0 l r, i, d => bif Z2 i 0 then .node d l r else bif Z2 (i % 2) 1 then .node d0 (Tr.set k l (i / 2) d) r else .node d0 l (Tr.set k r (i / 2 - 1) d)
theorem Tr.get_set : ∀ (k : Nat) (t : Tr) (i : Nat) (d : D) (j : Nat), i + 1 < 2 ^ k → (Tr.set k t i d).get j = if j = i then d else t.get j := by
 have bq := bqE
 intro k
 induction k with
 | zero => intro t i d j h; simp at h
 | succ k ih =>
  intro t i d j h
  have h2 : i + 1 < 2 * 2 ^ k := by rw [Nat.pow_succ] at h; omega
  have key : ∀ (d0 : D) (l r : Tr), (bif Z2 i 0 then Tr.node d l r else bif Z2 (i % 2) 1 then .node d0 (Tr.set k l (i / 2) d) r else .node d0 l (Tr.set k r (i / 2 - 1) d)).get j = if j = i then d else (Tr.node d0 l r).get j := fun d0 l r => by
   simp only [bq]
   by_cases h0 : i = 0
   · subst h0
     by_cases hj : j = 0 <;> simp [hj, Tr.get, bq]
   · by_cases h1 : i % 2 = 1
     · simp only [h0, h1, decide_false, decide_true, cond_false, cond_true, Tr.get, bq]
       rw [ih l (i / 2) d (j / 2) (by omega)]
       by_cases hj0 : j = 0
       · subst hj0; simp [Ne.symm h0]
       · by_cases hj1 : j % 2 = 1
         · simp only [hj0, hj1, decide_false, decide_true, cond_false, cond_true]
           by_cases hji : j = i
           · subst hji; simp
           · rw [if_neg (by omega), if_neg hji]
         · simp only [hj0, hj1, decide_false, cond_false]
           rw [if_neg (by omega)]
     · simp only [h0, h1, decide_false, cond_false, Tr.get, bq]
       rw [ih r (i / 2 - 1) d (j / 2 - 1) (by omega)]
       by_cases hj0 : j = 0
       · subst hj0; simp [Ne.symm h0]
       · by_cases hj1 : j % 2 = 1
         · simp only [hj0, hj1, decide_false, decide_true, cond_false, cond_true]
           rw [if_neg (by omega)]
         · simp only [hj0, hj1, decide_false, cond_false]
           by_cases hji : j = i
           · subst hji; simp
           · rw [if_neg (by omega), if_neg hji]
  cases t with
  | leaf =>
   rw [Tr.set]
   have := key .any .leaf .leaf
   have e1 : ∀ x, Tr.get .leaf x = .any := fun _ => rfl
   have e2 : (Tr.node .any .leaf .leaf).get j = Tr.get .leaf j := by simp only [Tr.get]; cases Z2 j 0 <;> cases Z2 (j % 2) 1 <;> rfl
   rw [e2] at this; exact this
  | node d0 l r => rw [Tr.set]; exact key d0 l r
/-! The names that a datum bears. -/
mutual
def refs : D → List Nat
 | .any | .v _ | .e0 => []
 | .sl _ xs => refsR xs
 | .agg ds | .tup ds | .rp ds | .fn _ ds => refsL ds
 | .ptr i _ | .buf i _ | .bp i _ _ _ | .win i _ _ _ | .arr i _ _ _ _ | .mp i => [i]
def refsL : List D → List Nat
 | [] => []
 | d :: t => match refs d with
  | [] => refsL t
  | a :: l => a :: l ++ refsL t
def refsR : List (List D) → List Nat
 | [] => []
 | d :: t => match refsL d with
  | [] => refsR t
  | a :: l => a :: l ++ refsR t
end
def refsOb : Ob → List Nat
 | .cells ds => refsL ds
 | .buf _ _ xs => refsR xs
 | .map es _ => refsL (es.map (·.2.2))
 | .iter m _ _ _ => [m]
 | .hole | .dead => []
def memN (i : Nat) : List Nat → Bool
 | [] => false
 | a :: t => bif Z2 a i then true else memN i t
def addR (R : List Nat) : List Nat → List Nat
 | [] => R
 | i :: t => bif memN i R then addR R t else addR (R ++ [i]) t
def closeR (h : List Ob) : Nat → Nat → List Nat → List Nat
 | 0, _, R => R
 | k + 1, j, R => match R[j]? with
  | none => R
  | some i => match h[i]? with
   | some ob => closeR h k (j + 1) (addR R (refsOb ob))
   | none => closeR h k (j + 1) R
def pos (i : Nat) : List Nat → Option Nat
 | [] => none
 | a :: t => bif Z2 a i then some 0 else match pos i t with
  | some j => some (j + 1)
  | none => none
theorem Ub {i : Nat} : ∀ (R : List Nat) (j : Nat), pos i R = some j → R[j]? = some i
 | [], _, q => by simp [pos] at q
 | a :: t, j, q => by
  rw [pos] at q
  cases hb : Z2 a i
  · rw [hb] at q
    simp only [cond_false] at q
    split at q
    · rename_i j' hj; cases q; simpa using Ub t j' hj
    · cases q
  · rw [hb] at q
    simp only [cond_true, Option.some.injEq] at q
    subst q
    simpa using bqT hb
mutual
def rnO (R : List Nat) : D → Option D
 | .any => some .any
 | .v x => some (.v x)
 | .e0 => some .e0
 | .sl k xs => match rnR R xs with
  | some ys => some (.sl k ys)
  | none => none
 | .agg ds => match rnL R ds with
  | some ys => some (.agg ys)
  | none => none
 | .tup ds => match rnL R ds with
  | some ys => some (.tup ys)
  | none => none
 | .rp ds => match rnL R ds with
  | some ys => some (.rp ys)
  | none => none
 | .fn f ds => match rnL R ds with
  | some ys => some (.fn f ys)
  | none => none
 | .ptr i o => match pos i R with
  | some j => some (.ptr j o)
  | none => none
 | .buf i n => match pos i R with
  | some j => some (.buf j n)
  | none => none
 | .bp i n r c => match pos i R with
  | some j => some (.bp j n r c)
  | none => none
 | .win i n a b => match pos i R with
  | some j => some (.win j n a b)
  | none => none
 | .arr i o n c k => match pos i R with
  | some j => some (.arr j o n c k)
  | none => none
 | .mp i => match pos i R with
  | some j => some (.mp j)
  | none => none
def rnL (R : List Nat) : List D → Option (List D)
 | [] => some []
 | d :: t => match rnO R d with
  | some d' => match rnL R t with
   | some t' => some (d' :: t')
   | none => none
  | none => none
def rnR (R : List Nat) : List (List D) → Option (List (List D))
 | [] => some []
 | d :: t => match rnL R d with
  | some d' => match rnR R t with
   | some t' => some (d' :: t')
   | none => none
  | none => none
end
section
variable {R : List Nat} {π : Nat → Nat} (hπ : ∀ k i, R[k]? = some i → π k = i)
include hπ
mutual
theorem Zm1 : ∀ d d', rnO R d = some d' → ren π d' = d ∧ low R.length d'
 | .any, d', q => by rw [rnO] at q; cases q; exact ⟨by rw [ren], by rw [low]; trivial⟩
 | .v x, d', q => by rw [rnO] at q; cases q; exact ⟨by rw [ren], by rw [low]; trivial⟩
 | .e0, d', q => by rw [rnO] at q; cases q; exact ⟨by rw [ren], by rw [low]; trivial⟩
 | .sl k xs, d', q => by
  rw [rnO] at q; split at q
  · rename_i ys hy; cases q; obtain ⟨h1, h2⟩ := Zy7 xs ys hy; exact ⟨by rw [ren, h1], by rw [low]; exact h2⟩
  · cases q
 | .agg xs, d', q => by
  rw [rnO] at q; split at q
  · rename_i ys hy; cases q; obtain ⟨h1, h2⟩ := U6 xs ys hy; exact ⟨by rw [ren, h1], by rw [low]; exact h2⟩
  · cases q
 | .tup xs, d', q => by
  rw [rnO] at q; split at q
  · rename_i ys hy; cases q; obtain ⟨h1, h2⟩ := U6 xs ys hy; exact ⟨by rw [ren, h1], by rw [low]; exact h2⟩
  · cases q
 | .rp xs, d', q => by
  rw [rnO] at q; split at q
  · rename_i ys hy; cases q; obtain ⟨h1, h2⟩ := U6 xs ys hy; exact ⟨by rw [ren, h1], by rw [low]; exact h2⟩
  · cases q
 | .fn f xs, d', q => by
  rw [rnO] at q; split at q
  · rename_i ys hy; cases q; obtain ⟨h1, h2⟩ := U6 xs ys hy; exact ⟨by rw [ren, h1], by rw [low]; exact h2⟩
  · cases q
 | .ptr i o, d', q => by
  rw [rnO] at q; split at q
  · rename_i j hj; cases q; have := Ub _ _ hj; exact ⟨by rw [ren, hπ _ _ this], by rw [low]; exact (Z0.1 this).1⟩
  · cases q
 | .buf i o, d', q => by
  rw [rnO] at q; split at q
  · rename_i j hj; cases q; have := Ub _ _ hj; exact ⟨by rw [ren, hπ _ _ this], by rw [low]; exact (Z0.1 this).1⟩
  · cases q
 | .bp i n r c, d', q => by
  rw [rnO] at q; split at q
  · rename_i j hj; cases q; have := Ub _ _ hj; exact ⟨by rw [ren, hπ _ _ this], by rw [low]; exact (Z0.1 this).1⟩
  · cases q
 | .win i n r c, d', q => by
  rw [rnO] at q; split at q
  · rename_i j hj; cases q; have := Ub _ _ hj; exact ⟨by rw [ren, hπ _ _ this], by rw [low]; exact (Z0.1 this).1⟩
  · cases q
 | .arr i n r c k, d', q => by
  rw [rnO] at q; split at q
  · rename_i j hj; cases q; have := Ub _ _ hj; exact ⟨by rw [ren, hπ _ _ this], by rw [low]; exact (Z0.1 this).1⟩
  · cases q
 | .mp i, d', q => by
  rw [rnO] at q; split at q
  · rename_i j hj; cases q; have := Ub _ _ hj; exact ⟨by rw [ren, hπ _ _ this], by rw [low]; exact (Z0.1 this).1⟩
  · cases q
theorem U6 : ∀ d d', rnL R d = some d' → renL π d' = d ∧ lowL R.length d'
 | [], d', q => by rw [rnL] at q; cases q; exact ⟨by rw [renL], by rw [lowL]; trivial⟩
 | d :: t, d', q => by
  rw [rnL] at q; split at q
  · rename_i d1 h1
    split at q
    · rename_i t1 h2
      cases q
      obtain ⟨a1, a2⟩ := Zm1 d d1 h1
      obtain ⟨b1, b2⟩ := U6 t t1 h2
      exact ⟨by rw [renL, a1, b1], by rw [lowL]; exact ⟨a2, b2⟩⟩
    · cases q
  · cases q
theorem Zy7 : ∀ d d', rnR R d = some d' → renR π d' = d ∧ lowR R.length d'
 | [], d', q => by rw [rnR] at q; cases q; exact ⟨by rw [renR], by rw [lowR]; trivial⟩
 | d :: t, d', q => by
  rw [rnR] at q; split at q
  · rename_i d1 h1
    split at q
    · rename_i t1 h2
      cases q
      obtain ⟨a1, a2⟩ := U6 d d1 h1
      obtain ⟨b1, b2⟩ := Zy7 t t1 h2
      exact ⟨by rw [renR, a1, b1], by rw [lowR]; exact ⟨a2, b2⟩⟩
    · cases q
  · cases q
end
end
def rnE (R : List Nat) : List (Value × Nat × D) → Option (List (Value × Nat × D))
 | [] => some []
 | (x, b, d) :: t => match rnO R d with
  | some d' => match rnE R t with
   | some t' => some ((x, b, d') :: t')
   | none => none
  | none => none
def rnOb (R : List Nat) : Ob → Option Ob
 | .cells ds => match rnL R ds with
  | some ys => some (.cells ys)
  | none => none
 | .buf e k xs => match rnR R xs with
  | some ys => some (.buf e k ys)
  | none => none
 | .map es c => match rnE R es with
  | some ys => some (.map ys c)
  | none => none
 | .iter m s l a => match pos m R with
  | some j => some (.iter j s l a)
  | none => none
 | .hole => some .hole
 | .dead => some .dead
def rnH (R : List Nat) (h : List Ob) : List Nat → Option (List Ob)
 | [] => some []
 | i :: t => match h[i]? with
  | some ob => match rnOb R ob with
   | some ob' => match rnH R h t with
    | some l => some (ob' :: l)
    | none => none
   | none => none
  | none => none
def Us : List Nat → Bool
 | [] => true
 | a :: t => bif memN a t then false else Us t
theorem Zm7 {i : Nat} : ∀ l, memN i l = true ↔ i ∈ l
 | [] => by simp [memN]
 | a :: t => by
  rw [memN]
  cases hb : Z2 a i
  · have h2 : a ≠ i := bqF hb
    simp [Zm7 t, Ne.symm h2]
  · have h2 : a = i := bqT hb
    simp [h2]
theorem Zd6 : ∀ l, Us l = true → l.Nodup
 | [], _ => List.nodup_nil
 | a :: t, q => by
  rw [Us] at q
  cases hm : memN a t
  · rw [hm] at q
    exact List.nodup_cons.2 ⟨fun h => (by rw [(Zm7 t).2 h] at hm; cases hm), Zd6 t q⟩
  · rw [hm] at q; cases q
section
variable {R : List Nat} {π : Nat → Nat} (hπ : ∀ k i, R[k]? = some i → π k = i)
include hπ
theorem rnE_spec : ∀ d d', rnE R d = some d' → (d'.map fun e => (e.1, e.2.1, ren π e.2.2)) = d ∧ lowL R.length (d'.map (·.2.2))
 | [], d', q => by rw [rnE] at q; cases q; exact ⟨rfl, by rw [List.map_nil, lowL]; trivial⟩
 | (x, b, d) :: t, d', q => by
  rw [rnE] at q; split at q
  · rename_i d1 h1
    split at q
    · rename_i t1 h2
      cases q
      obtain ⟨a1, a2⟩ := Zm1 hπ d d1 h1
      obtain ⟨b1, b2⟩ := rnE_spec t t1 h2
      exact ⟨by rw [Zc, b1, a1], by rw [Zc, lowL]; exact ⟨a2, b2⟩⟩
    · cases q
  · cases q
theorem rnOb_spec {ob ob' : Ob} (q : rnOb R ob = some ob') : Xv π ob' = ob ∧ Zl8 R.length ob' := by
 cases ob <;> rw [rnOb] at q
 case cells ds => split at q
                  · rename_i hy; cases q; obtain ⟨h1, h2⟩ := U6 hπ _ _ hy; exact ⟨by rw [Xv, h1], h2⟩
                  · cases q
 case buf e k xs => split at q
                    · rename_i hy; cases q; obtain ⟨h1, h2⟩ := Zy7 hπ _ _ hy; exact ⟨by rw [Xv, h1], h2⟩
                    · cases q
 case map es c => split at q
                  · rename_i hy; cases q; obtain ⟨h1, h2⟩ := rnE_spec hπ _ _ hy; exact ⟨by rw [Xv, h1], h2⟩
                  · cases q
 case iter m s l a => split at q
                      · rename_i j hj; cases q; have := Ub _ _ hj; exact ⟨by rw [Xv, hπ _ _ this], (Z0.1 this).1⟩
                      · cases q
 case hole => cases q; exact ⟨rfl, trivial⟩
 case dead => cases q; exact ⟨rfl, trivial⟩
theorem Zm2 {h : List Ob} : ∀ (l : List Nat) (h1 : List Ob), rnH R h l = some h1 → h1.length = l.length ∧ ∀ (k : Nat) (ob : Ob), h1[k]? = some ob → ∃ i : Nat, l[k]? = some i ∧ h[i]? = some (Xv π ob) ∧ Zl8 R.length ob
 | [], h1, q => by rw [rnH] at q; cases q; exact ⟨rfl, fun k ob hk => by simp at hk⟩
 | i :: t, h1, q => by
  rw [rnH] at q
  split at q
  rotate_left
  · cases q
  rename_i ob hob
  split at q
  rotate_left
  · cases q
  rename_i ob' hob'
  split at q
  rotate_left
  · cases q
  rename_i l hl
  cases q
  obtain ⟨e1, e2⟩ := Zm2 t l hl
  obtain ⟨f1, f2⟩ := rnOb_spec hπ hob'
  refine ⟨by simp [e1], fun k o hk => ?_⟩
  cases k with
  | zero => simp at hk; subst hk; exact ⟨i, rfl, by rw [f1]; exact hob, f2⟩
  | succ k => simpa using e2 k o (by simpa using hk)
theorem lies_of_rn {h h1 : List Ob} (q : rnH R h R = some h1) (nd : Us R = true) : h1.length = R.length ∧ Lies π h1 h := by
 obtain ⟨e1, e2⟩ := Zm2 hπ R h1 q
 refine ⟨e1, fun i ob hi => ?_, fun i j hi hj he => ?_, fun ob hob => ?_⟩
 · obtain ⟨x, h2, h3, _⟩ := e2 i ob hi
   rw [hπ _ _ h2]; exact h3
 · have hi' : i < R.length := by omega
   have hj' : j < R.length := by omega
   have h2 := hπ i _ (Z3 hi')
   have h3 := hπ j _ (Z3 hj')
   have : R[i] = R[j] := by rw [← h2, ← h3, he]
   exact (List.getElem_inj (Zd6 R nd)).1 this
 · obtain ⟨i, hi, rfl⟩ := List.getElem_of_mem hob
   obtain ⟨_, _, _, h4⟩ := e2 i _ (Z3 hi)
   rw [e1]; exact h4
end
def plcN (R : List Nat) (L j : Nat) : Nat := match R[j]? with
 | some i => i
 | none => L + (j - R.length)
theorem Vd {R : List Nat} {L : Nat} : ∀ k i, R[k]? = some i → plcN R L k = i := fun k i q => by unfold plcN; rw [q]
theorem Jg {R : List Nat} {L k : Nat} (q : R.length ≤ k) : plcN R L k = L + (k - R.length) := by unfold plcN; rw [List.getElem?_eq_none q]
end
section
variable {P : Program} {G : Nat → D} {n : Nat} {e : Nat → D} {h h1 : List Ob}
theorem does_keep {f : FuncId} {fn : Func} {c : Code} {args : List D} {K : List Ob → D → Prop} (hf : P.funcs[f]? = some fn) (hb : fn.body = some c) (hn : args.length ≤ fn.ntmps)
 (H : aw P G c (fun e s => (e = .normal ∨ e = .ret) ∧ ∃ ds, resD P s fn.results.toList = some ds ∧ K s.h (outD ds)) ⟨fn.ntmps, Zl7 args, h⟩) : Does P G f h args K := by
 intro w hd p vs o ha
 have hlen := Xz ha
 refine calls_of_wp hf hb (Code.wp_mono ?_ (H ⟨w, hd, h, p⟩ { tmps := vs.toArray ++ Zi (fn.ntmps - vs.toArray.size) undef, defers := [] } w ⟨hd, p, o, .refl _ _ _ _, fun t => ?_, by simp; omega, rfl⟩))
 · rintro e a' w' ⟨s', ⟨he, ds, h1, h6⟩, hd', p', r⟩
   have fin : ∃ v, (results fn a'.tmps).run P w' = .ok v w' ∧ rd hd' s'.h (only p' w') (outD ds) v := by
    obtain ⟨vs', e1, q1⟩ := Zy4 r _ _ h1
    have hl := Xz q1
    have e2 : (results fn a'.tmps).run P w' = .ok (if h : vs'.toArray.size = 1 then vs'.toArray[0] else .tuple vs'.toArray) w' := by
     rw [Zv2, Array.mapM_eq_mapM_toList]
     simp only [Sem.run_bind, Sem.run_map, e1, Result.andThen_ok]
     rfl
    refine ⟨_, e2, ?_⟩
    match ds, vs', q1, hl with
    | [], vs', q1, hl =>
     have : vs' = [] := List.eq_nil_of_length_eq_zero hl.symm
     subst this
     simp only [outD]; rw [rd]; exact ⟨#[], rfl, q1⟩
    | [d], vs', q1, hl =>
     rw [rdL] at q1; obtain ⟨u, t, rfl, q2, q3⟩ := q1
     rw [rdL] at q3; subst q3
     exact q2
    | d :: d2 :: ds, vs', q1, hl =>
     simp only [outD]
     have : ¬ vs'.toArray.size = 1 := by simp at hl ⊢; omega
     rw [dif_neg this, rd]; exact ⟨_, rfl, q1⟩
   obtain ⟨v, e2, q2⟩ := fin
   rcases he with rfl | rfl
   · exact ⟨r.defers, v, e2, v, _, _, _, _, rfl, h6, r.ok, q2, r.evo⟩
   · exact ⟨r.defers, v, e2, v, _, _, _, _, rfl, h6, r.ok, q2, r.evo⟩
 · show rd hd h (only p w) ((args[t]?).getD .any) _
   obtain ⟨_, q⟩ := (Yk _ _).1 ha
   cases hd' : args[t]? with
   | none => show rd hd h (only p w) .any _; rw [rd]; trivial
   | some d =>
    show rd hd h (only p w) d _
    obtain ⟨u, h1, h2⟩ := q t d hd'
    have : (vs.toArray ++ Zi (fn.ntmps - vs.toArray.size) undef).getD t undef = u := by
     rw [Z4, Array.getElem?_append_left (by simpa using (Z0.1 h1).1)]
     simp [h1]
    rw [this]
    exact h2
def firstN : Nat → List Nat → Bool
 | _, [] => true
 | j, a :: t => bif Z2 a j then firstN (j + 1) t else false
def idxR (R : List Nat) (k : Nat) : Nat := (R[k]?).getD 0
theorem Yb3 {R : List Nat} : ∀ k i, R[k]? = some i → idxR R k = i := fun k i q => by unfold idxR; rw [q]; rfl
def Shr (m : Nat) (h' : List Ob) (r : D) (h2 : List Ob) (r2 : D) : Prop := ∃ R, rnH R h' R = some h2 ∧ Us R = true ∧ rnO R r = some r2 ∧ m ≤ R.length ∧ ∀ k, k < m → R[k]? = some k
theorem Post.shrink {w w' : World} {hd : List Value} {p : Nat → Bool} {K K' : List Ob → D → Prop} {v : Value} (o : Ok G w hd h p) (hG : ∀ g, low 0 (G g)) (q : Post G w hd h p K v w') (k : ∀ h' r, K h' r → ∃ h2 r2, Shr h.length h' r h2 r2 ∧ K' h2 r2) : Post G w hd h p K' v w' := by
 obtain ⟨hd', h', r, p', hk, o', qr, e⟩ := q
 obtain ⟨h2, r2, ⟨R, e1, e2, e3, e4, e5⟩, hk'⟩ := k _ _ hk
 obtain ⟨len2, L⟩ := lies_of_rn (π := idxR R) Yb3 e1 e2
 obtain ⟨f1, f2⟩ := Zm1 (π := idxR R) Yb3 _ _ e3
 have hid : ∀ i, i < h.length → idxR R i = i := fun i hi => Yb3 _ _ (e5 i hi)
 have at' : ∀ {i : Nat} {u : Value}, i < h.length → hd'[i]? = some u → (pull (idxR R) hd' h2.length)[i]? = some u := fun {i u} hi q => by
  rw [Za4 o' L (by omega), hid i hi]; exact q
 refine ⟨_, h2, r2, p', hk', L.ok o' hG, rd_une (L.une o') o'.len (fun _ _ h => h) _ _ (by rw [len2]; exact f2) (by rw [f1]; exact qr),
  ⟨e.os, e.tape, e.output, e.size, e.keep, e.vis, e.seen, fun b hb ho => ?_, by omega, fun i B q => ?_, fun i B q => ?_, fun i q => ?_, fun i E k xs hu q => ?_⟩⟩
 · obtain ⟨i, _, ob, u, q1, q2, q3, q4⟩ := L.own o' ho
   exact e.own b hb ⟨_, ob, u, q1, q2, q3, q4⟩
 · exact at' (by rw [← o.len]; exact (Z0.1 q).1) (e.carry.ptr i B q)
 · exact at' (by rw [← o.len]; exact (Z0.1 q).1) (e.carry.mp i B q)
 · exact (L.une o').usd i (by have := q.lt; omega) (by rw [hid i q.lt]; exact e.carry.usd i q)
 · have h3 := L.at_ i _ q
   rw [hid i hu.lt] at h3
   obtain ⟨E0, ys, g1, g2, g3⟩ := e.carry.buf i E k (renR (idxR R) xs) hu h3
   rw [W4, List.length_map] at g2 g3
   refine ⟨E0, ys, g1, g2, fun he => ?_⟩
   rw [Za4 o' L (by have := hu.lt; omega), hid i hu.lt]; exact g3 he
theorem Does.shrink {f : FuncId} {args : List D} {K K' : List Ob → D → Prop} (hG : ∀ g, low 0 (G g)) (q : Does P G f h args K) (k : ∀ h' r, K h' r → ∃ h2 r2, Shr h.length h' r h2 r2 ∧ K' h2 r2) : Does P G f h args K' := U0.2 fun w hd p vs ok ha =>
 (U0.1 q w hd p vs ok ha).mono fun _ _ ⟨v, e, q⟩ => ⟨v, e, q.shrink ok hG k⟩
/-! Equality of data, as far as it is easily seen. -/
def vq : Value → Value → Bool
 | .int a x, .int b y => decide (a = b) && decide (x = y)
 | .bool a, .bool b => decide (a = b)
 | .string a, .string b => decide (a.data.toList = b.data.toList)
 | .slice none 0 0, .slice none 0 0 => true
 | .pointer none, .pointer none => true
 | .map none, .map none => true
 | .nilFunc, .nilFunc => true
 | .nilIface, .nilIface => true
 | _, _ => false
theorem vq_spec (a b : Value) (q : vq a b = true) : a = b := by
 unfold vq at q
 split at q
 · simp only [Za, decide_eq_true_eq] at q; rw [q.1, q.2]
 · simp only [decide_eq_true_eq] at q; rw [q]
 · simp only [decide_eq_true_eq] at q; congr 1; exact ByteArray.ext (Array.ext' q)
 all_goals first | rfl | cases q
mutual
def dq : D → D → Bool
 | .any, .any => true
 | .v x, .v y => vq x y
 | .e0, .e0 => true
 | .sl k xs, .sl l ys => Z2 k l && dqR xs ys
 | .agg xs, .agg ys => dqL xs ys
 | .tup xs, .tup ys => dqL xs ys
 | .rp xs, .rp ys => dqL xs ys
 | .fn f xs, .fn g ys => Z2 f g && dqL xs ys
 | .ptr i o, .ptr j q => Z2 i j && Z2 o q
 | .buf i o, .buf j q => Z2 i j && Z2 o q
 | .bp i a b c, .bp j x y z => Z2 i j && (Z2 a x && (Z2 b y && Z2 c z))
 | .win i a b c, .win j x y z => Z2 i j && (Z2 a x && (Z2 b y && Z2 c z))
 | .arr i a b c d, .arr j x y z u => Z2 i j && (Z2 a x && (Z2 b y && (Z2 c z && Z2 d u)))
 | .mp i, .mp j => Z2 i j
 | _, _ => false
def dqL : List D → List D → Bool
 | [], [] => true
 | a :: s, b :: t => dq a b && dqL s t
 | _, _ => false
def dqR : List (List D) → List (List D) → Bool
 | [], [] => true
 | a :: s, b :: t => dqL a b && dqR s t
 | _, _ => false
end
mutual
theorem dq_spec : ∀ a b, dq a b = true → a = b
 | .any, b, q => by cases b <;> first | rfl | (simp [dq] at q)
 | .v x, b, q => by cases b <;> simp [dq] at q; rw [vq_spec _ _ q]
 | .e0, b, q => by cases b <;> first | rfl | (simp [dq] at q)
 | .sl k xs, b, q => by cases b <;> simp [dq] at q; rw [q.1, Yc2 _ _ q.2]
 | .agg xs, b, q => by cases b <;> simp [dq] at q; rw [Jo _ _ q]
 | .tup xs, b, q => by cases b <;> simp [dq] at q; rw [Jo _ _ q]
 | .rp xs, b, q => by cases b <;> simp [dq] at q; rw [Jo _ _ q]
 | .fn f xs, b, q => by cases b <;> simp [dq] at q; rw [q.1, Jo _ _ q.2]
 | .ptr i o, b, q => by cases b <;> simp [dq] at q; rw [q.1, q.2]
 | .buf i o, b, q => by cases b <;> simp [dq] at q; rw [q.1, q.2]
 | .bp i x y z, b, q => by cases b <;> simp [dq] at q; rw [q.1, q.2.1, q.2.2.1, q.2.2.2]
 | .win i x y z, b, q => by cases b <;> simp [dq] at q; rw [q.1, q.2.1, q.2.2.1, q.2.2.2]
 | .arr i x y z u, b, q => by cases b <;> simp [dq] at q; rw [q.1, q.2.1, q.2.2.1, q.2.2.2.1, q.2.2.2.2]
 | .mp i, b, q => by cases b <;> simp [dq] at q; rw [q]
theorem Jo : ∀ a b, dqL a b = true → a = b
 | [], b, q => by cases b <;> first | rfl | (simp [dqL] at q)
 | a :: s, b, q => by cases b <;> simp [dqL] at q; rw [dq_spec _ _ q.1, Jo _ _ q.2]
theorem Yc2 : ∀ a b, dqR a b = true → a = b
 | [], b, q => by cases b <;> first | rfl | (simp [dqR] at q)
 | a :: s, b, q => by cases b <;> simp [dqR] at q; rw [Jo _ _ q.1, Yc2 _ _ q.2]
end
def oq : Ob → Ob → Bool
 | .cells a, .cells b => dqL a b
 | .buf e k a, .buf f l b => Z2 e f && (Z2 k l && dqR a b)
 | .dead, .dead => true
 | .hole, .hole => true
 | _, _ => false
theorem oq_spec (a b : Ob) (q : oq a b = true) : a = b := by
 cases a <;> cases b <;> simp [oq] at q
 · rw [Jo _ _ q]
 · rw [q.1, q.2.1, Yc2 _ _ q.2.2]
 · rfl
 · rfl
def wrs (π : Nat → Nat) : Nat → List Ob → List Ob → List (Nat × Ob)
 | _, _, [] => []
 | j, [], o :: t => (π j, Xv π o) :: wrs π (j + 1) [] t
 | j, a :: s, o :: t => bif oq a o then wrs π (j + 1) s t else (π j, Xv π o) :: wrs π (j + 1) s t
theorem set_self' {h : List Ob} {i : Nat} {ob : Ob} (q : h[i]? = some ob) : h.set i ob = h := by
 apply List.ext_getElem?
 intro j
 by_cases hij : i = j
 · subst hij; rw [List.getElem?_set_self (Z0.1 q).1, q]
 · rw [Z6 hij]
theorem Zn6 {π : Nat → Nat} : ∀ (l' l h : List Ob) (j : Nat), (∀ a b, a < l'.length → b < l'.length → π (j + a) = π (j + b) → a = b) → (∀ i ob, l[i]? = some ob → h[π (j + i)]? = some (Xv π ob)) → plc π h j (l'.map (Xv π)) = Yz h (wrs π j l l')
 | [], l, h, j, _, _ => by cases l <;> rfl
 | o :: t, [], h, j, inj, _ => by
  rw [Zc, plc, wrs, Yz]
  exact Zn6 t [] _ (j + 1) (fun a b ha hb he => by
   have := inj (a + 1) (b + 1) (by simp; omega) (by simp; omega) (by rw [show j + (a + 1) = j + 1 + a by omega, show j + (b + 1) = j + 1 + b by omega]; exact he)
   omega) (fun i ob q => by simp at q)
 | o :: t, a :: s, h, j, inj, q => by
  have inj' : ∀ a b, a < t.length → b < t.length → π (j + 1 + a) = π (j + 1 + b) → a = b := fun a b ha hb he => by
   have := inj (a + 1) (b + 1) (by simp; omega) (by simp; omega) (by rw [show j + (a + 1) = j + 1 + a by omega, show j + (b + 1) = j + 1 + b by omega]; exact he)
   omega
  have q0 : h[π j]? = some (Xv π a) := by simpa using q 0 a rfl
  rw [Zc, plc, wrs]
  cases hq : oq a o
  · simp only [cond_false]
    rw [Yz]
    by_cases hst : s.length ≤ t.length
    · refine Zn6 t s _ (j + 1) inj' fun i ob hi => ?_
      have hi' := (Z0.1 hi).1
      rw [Z6 (fun he => ?_)]
      · rw [show j + 1 + i = j + (i + 1) by omega]; exact q (i + 1) ob (by simpa using hi)
      · have := inj 0 (i + 1) (by simp) (by simp; omega) (by rw [Nat.add_zero, he]; congr 1; omega)
        omega
    · have key : ∀ (t s : List Ob) (j : Nat), wrs π j s t = wrs π j (s.take t.length) t := by
       intro t
       induction t with
       | nil => intro s j; cases s <;> rfl
       | cons o t ih =>
        intro s j
        cases s with
        | nil => rfl
        | cons a s => simp only [List.length_cons, List.take_succ_cons, wrs]; rw [ih s (j + 1)]
      rw [key]
      refine Zn6 t _ _ (j + 1) inj' fun i ob hi => ?_
      rw [List.getElem?_take] at hi
      split at hi
      · rename_i hi'
        rw [Z6 (fun he => ?_)]
        · rw [show j + 1 + i = j + (i + 1) by omega]; exact q (i + 1) ob (by simpa using hi)
        · have := inj 0 (i + 1) (by simp) (by simp; omega) (by rw [Nat.add_zero, he]; congr 1; omega)
          omega
      · cases hi
  · simp only [cond_true]
    have := oq_spec _ _ hq
    subst this
    rw [set_self' q0]
    exact Zn6 t s h (j + 1) inj' fun i ob hi => by rw [show j + 1 + i = j + (i + 1) by omega]; exact q (i + 1) ob (by simpa using hi)
end
end Go.Proofs.YtgkjcmglcnhpaaaGreatDoor
