/-
  What the statements of the chapter share, part 07: D11, D12, F2, F3.
-/
import Derived.Test.YtbhkcbidcfofiaaGreatY06
set_option linter.unusedVariables false
set_option linter.unusedSimpArgs false
set_option maxRecDepth 100000
set_option maxHeartbeats 8000000
namespace Go.Proofs.YtbhkcbidcfofiaaGreat
open _root_.Array renaming getD_eq_getD_getElem? → Z2, getElem?_eq_some_iff → Z4, getElem?_setIfInBounds → Z6, getElem?_eq_none → Z8, setIfInBounds_comm → Zf, getElem?_replicate → Zg
open _root_.Bool renaming and_eq_true → Z7
open _root_.List renaming getElem?_eq_some_iff → Z0, getElem?_append_left → Z1, getElem?_eq_getElem → Z3, replicate → Z9, getElem?_append_right → Zd, map_cons → Zh
open _root_.Nat renaming beq → Z5, eq_of_beq_eq_true → Za, lt_or_ge → Zc, le_refl → Ze
open _root_.Option renaming getD_some → Zb
open Go.RowKit
section
variable {P : Program} {G : Nat → D} {n : Nat} {e : Nat → D} {h : List Ob} {ops : Array Oper} {md : Region.Mode}
structure Eff where
 R : List (Nat × Ob)
 W : List (Nat × Ob)
 N : List Ob
 d : Nat → D
def Yv (h : List Ob) : List (Nat × Ob) → List Ob
 | [] => h
 | x :: t => Yv (h.set x.1 x.2) t
theorem Vs : ∀ (W : List (Nat × Ob)) (h : List Ob), (Yv h W).length = h.length
 | [], _ => rfl
 | x :: t, h => by rw [Yv, Vs t]; simp
theorem Zg2 {i : Nat} : ∀ (W : List (Nat × Ob)) (h : List Ob), (∀ x ∈ W, x.1 ≠ i) → (Yv h W)[i]? = h[i]?
 | [], _, _ => rfl
 | x :: t, h, q => by rw [Yv, Zg2 t _ fun y hy => q y (by simp [hy]), List.getElem?_set_ne (q x (by simp))]
theorem Zp3 : ∀ (W : List (Nat × Ob)) (h N : List Ob), (∀ x ∈ W, x.1 < h.length) → Yv (h ++ N) W = Yv h W ++ N
 | [], _, _, _ => rfl
 | x :: t, h, N, q => by
  rw [Yv, Yv, List.set_append_left _ _ (q x (by simp))]
  exact Zp3 t _ N fun y hy => by rw [List.length_set]; exact q y (by simp [hy])
theorem Yd0 : ∀ (W : List (Nat × Ob)) (h : List Ob) (i : Nat) (ob : Ob), (∀ x ∈ W, x.1 ≠ i) → Yv (h.set i ob) W = (Yv h W).set i ob
 | [], _, _, _, _ => rfl
 | x :: t, h, i, ob, q => by
  rw [Yv, Yv, List.set_comm _ _ (Ne.symm (q x (by simp)))]
  exact Yd0 t _ i ob fun y hy => q y (by simp [hy])
theorem Zi3 : ∀ (V W : List (Nat × Ob)) (h : List Ob), (∀ x ∈ V, ∀ y ∈ W, x.1 ≠ y.1) → Yv (Yv h V) W = Yv (Yv h W) V
 | [], _, _, _ => rfl
 | x :: t, W, h, q => by
  rw [Yv, Yv, Zi3 t W _ fun y hy => q y (by simp [hy]), Yd0 W h x.1 x.2 fun y hy => Ne.symm (q x (by simp) y hy)]
def Eff.ok (E : Eff) (h : List Ob) : Prop := ∀ x ∈ E.R, h[x.1]? = some x.2
def Eff.heap (E : Eff) (h : List Ob) : List Ob := Yv h E.W ++ E.N
def Eff.fit (E : Eff) : Prop := (∀ x ∈ E.W, ∃ y ∈ E.R, y.1 = x.1) ∧ (E.N = [] → ∀ m m', E.d m = E.d m')
def nop : Eff := ⟨[], [], [], fun _ => .v undef⟩
def Stp (P : Program) (G : Nat → D) (op : Op) (e : Nat → D) (h h' : List Ob) (d : D) : Prop := aOp P G e h (fun h1 d1 => h1 = h' ∧ d1 = d) op ∨
 ∃ x args tys f cap, op = .call ⟨.value x, args, tys⟩ ∧ ev G e x = .fn f cap ∧ entB P f = true ∧ Does P G f h (args.toList.map (ev G e) ++ cap) (fun h1 r => h1 = h' ∧ r = d)
theorem Stp_congr {op : Op} {e' : Nat → D} {h' : List Ob} {d : D} (key : ∀ x ∈ op.operands, ev G e' x = ev G e x) (k : Stp P G op e h h' d) : Stp P G op e' h h' d := by
 rcases k with k | ⟨x, args, tys, f, cap, e1, e2, e3, e4⟩
 · exact .inl (Zp1 key k)
 · rw [e1] at key
   have h1 := key x (by simp [Op.operands, Call.operands])
   have h2 : args.toList.map (ev G e') = args.toList.map (ev G e) := List.map_congr_left fun y hy => key y (by simp [Op.operands, Call.operands]; exact .inr (by simpa using hy))
   exact .inr ⟨x, args, tys, f, cap, e1, h1.trans e2, e3, by rw [h2]; exact e4⟩
def YE (P : Program) (G : Nat → D) (op : Op) (e : Nat → D) (E : Eff) : Prop := E.fit ∧ ∀ h, E.ok h → Stp P G op e h (E.heap h) (E.d h.length)
def YDE (P : Program) (G : Nat → D) (ops : Array Oper) (o : Oper) (E : Eff) (e : Nat → D) : Prop := (Yc ops o.guard e = some true ∧ YE P G o.op e E) ∨ (Yc ops o.guard e = some false ∧ E = nop)
theorem YDE.fit {o : Oper} {E : Eff} (q : YDE P G ops o E e) : E.fit := by
 rcases q with ⟨_, q⟩ | ⟨_, rfl⟩
 · exact q.1
 · exact ⟨by simp [nop], fun _ _ _ => rfl⟩
theorem YDE.congr {o : Oper} {E : Eff} {dst : Option Nat} {v : D} (q : ∀ t, dst = some t → t ∉ o.looksAt ops) : YDE P G ops o E (putE n e dst v) ↔ YDE P G ops o E e := by
 have key : ∀ x ∈ o.op.operands, ev G (putE n e dst v) x = ev G e x := fun x hx => Yk8 fun t ht => Zg9 (q t ht) x hx
 unfold YDE
 rw [Za2 q]
 exact or_congr (and_congr Iff.rfl ⟨fun ⟨a, b⟩ => ⟨a, fun h k => Stp_congr (fun x hx => (key x hx).symm) (b h k)⟩, fun ⟨a, b⟩ => ⟨a, fun h k => Stp_congr key (b h k)⟩⟩) Iff.rfl
def compat (m0 : Nat) (E F : Eff) : Prop := (∀ x ∈ E.W, ∀ y ∈ F.R, x.1 ≠ y.1) ∧ (∀ x ∈ F.W, ∀ y ∈ E.R, x.1 ≠ y.1) ∧ (E.N = [] ∨ (F.N = [] ∧ ∀ y ∈ F.R, y.1 < m0)) ∧ (F.N = [] ∨ (E.N = [] ∧ ∀ y ∈ E.R, y.1 < m0))
theorem compat.symm {m0 : Nat} {E F : Eff} (q : compat m0 E F) : compat m0 F E := ⟨q.2.1, q.1, q.2.2.2, q.2.2.1⟩
theorem Eff.heap_len (E : Eff) (h : List Ob) : (E.heap h).length = h.length + E.N.length := by unfold Eff.heap; rw [List.length_append, Vs]
theorem Eff.wlt {E : Eff} (f : E.fit) {h : List Ob} (k : E.ok h) : ∀ x ∈ E.W, x.1 < h.length := fun x hx => by
 obtain ⟨y, hy, he⟩ := f.1 x hx
 rw [← he]; exact (Z0.1 (k y hy)).1
theorem Eff.ok_after {m0 : Nat} {E F : Eff} (c : compat m0 E F) (fE : E.fit) (kE : E.ok h) (kF : F.ok h) : F.ok (E.heap h) := fun y hy => by
 have hlt := (Z0.1 (kF y hy)).1
 unfold Eff.heap
 rw [Z1 (by rw [Vs]; exact hlt), Zg2 _ _ fun x hx => c.1 x hx y hy]
 exact kF y hy
theorem Eff.ok_before {m0 : Nat} {E F : Eff} (c : compat m0 E F) (hm : m0 ≤ h.length) (kF : F.ok (E.heap h)) : F.ok h := fun y hy => by
 have q := kF y hy
 have hlt : y.1 < h.length := by
  rcases c.2.2.1 with hn | ⟨_, hn⟩
  · have := (Z0.1 q).1
    rw [Eff.heap_len, hn] at this; simpa using this
  · exact Nat.lt_of_lt_of_le (hn y hy) hm
 unfold Eff.heap at q
 rwa [Z1 (by rw [Vs]; exact hlt), Zg2 _ _ fun x hx => c.1 x hx y hy] at q
theorem Eff.heap_comm {m0 : Nat} {E F : Eff} (c : compat m0 E F) (fE : E.fit) (fF : F.fit) (kE : E.ok h) (kF : F.ok h) : F.heap (E.heap h) = E.heap (F.heap h) := by
 have dis : ∀ x ∈ E.W, ∀ y ∈ F.W, x.1 ≠ y.1 := fun x hx y hy => by
  obtain ⟨z, hz, he⟩ := fF.1 y hy
  rw [← he]; exact c.1 x hx z hz
 unfold Eff.heap
 rw [Zp3 F.W _ _ fun x hx => by rw [Vs]; exact Eff.wlt fF kF x hx, Zp3 E.W _ _ fun x hx => by rw [Vs]; exact Eff.wlt fE kE x hx, Zi3 E.W F.W h dis, List.append_assoc, List.append_assoc]
 rcases c.2.2.1 with hn | ⟨hn, _⟩ <;> simp [hn]
theorem Eff.d_after {m0 : Nat} {E F : Eff} (c : compat m0 E F) (fF : F.fit) : F.d (E.heap h).length = F.d h.length := by
 rcases c.2.2.1 with hn | ⟨hn, _⟩
 · rw [Eff.heap_len, hn]; rfl
 · exact fF.2 hn _ _
def aeOp (P : Program) (G : Nat → D) (n : Nat) (ops : Array Oper) (ef : Nat → Eff) (i : Nat) (K : (Nat → D) → List Ob → Prop) (e : Nat → D) (h : List Ob) : Prop := match ops[i]? with
 | none => K e h
 | some o => YDE P G ops o (ef i) e ∧ (ef i).ok h ∧ K (putE n e o.dst ((ef i).d h.length)) ((ef i).heap h)
def aeAny (P : Program) (G : Nat → D) (n : Nat) (md : Region.Mode) (ops : Array Oper) (ef : Nat → Eff) (Q : (Nat → D) → List Ob → Prop) : Nat → Array Bool → (Nat → D) → List Ob → Prop
 | 0, listed, e, h => Region.ready md ops listed = [] ∧ Q e h
 | fuel + 1, listed, e, h => (Region.ready md ops listed = [] → Q e h) ∧ ∀ i ∈ Region.ready md ops listed, aeOp P G n ops ef i (aeAny P G n md ops ef Q fuel (listed.setIfInBounds i true)) e h
def Closed (md : Region.Mode) (ops : Array Oper) (listed : Array Bool) : Prop := ∀ j oj, ops[j]? = some oj → listed.getD j true = true → ∀ e ∈ oj.after, Region.binds md e = true → listed.getD e.on false = true
theorem getD_setT {l : Array Bool} {i j : Nat} {d : Bool} (q : l.getD j d = true) : (l.setIfInBounds i true).getD j d = true := by
 rw [Z2] at q ⊢
 rw [Z6]
 split
 · rename_i hij
   split
   · rfl
   · rename_i hlt
     rw [Z8 (by subst hij; omega)] at q; exact q
 · exact q
theorem Closed.set {listed : Array Bool} {i : Nat} (q : Closed md ops listed) (r : i ∈ Region.ready md ops listed) : Closed md ops (listed.setIfInBounds i true) := fun j oj hj hl e he hb => by
 obtain ⟨hiun, oi, hoi, hall⟩ := mem_ready.1 r
 by_cases hij : i = j
 · subst hij
   rw [hj] at hoi; cases hoi
   exact getD_setT (hall e he hb)
 · rw [getD_set_ne true hij] at hl
   exact getD_setT (q j oj hj hl e he hb)
def twB (md : Region.Mode) (ops : Array Oper) : Nat → Nat → Nat → Bool
 | 0, _, _ => false
 | k + 1, j, i => match ops[j]? with
  | some o => o.after.any fun e => Region.binds md e && (Z5 e.on i || (Nat.blt i e.on && twB md ops k e.on i))
  | none => false
theorem Yg4 {listed : Array Bool} {i : Nat} (q : Closed md ops listed) (hi : i < ops.size) : ∀ (k j : Nat) (oj : Oper), ops[j]? = some oj → (∀ e ∈ oj.after, Region.binds md e = true → listed.getD e.on false = true) → twB md ops k j i = true → listed.getD i false = true
 | 0, _, _, _, _, h => by rw [twB] at h; cases h
 | k + 1, j, oj, hj, hd, h => by
  rw [twB, hj] at h
  simp only [Array.any_eq_true'] at h
  obtain ⟨e, he, h⟩ := h
  simp only [Z7, Bool.or_eq_true] at h
  obtain ⟨hb, h⟩ := h
  have hon := hd e he hb
  rcases h with h | ⟨_, h⟩
  · rw [← Za h]; exact hon
  · cases hk : ops[e.on]? with
    | none =>
     cases k with
     | zero => rw [twB] at h; cases h
     | succ k => rw [twB, hk] at h; cases h
    | some ok =>
     refine Yg4 q hi k e.on ok hk (q e.on ok hk ?_) h
     rw [Z2] at hon ⊢
     cases hl : listed[e.on]? with
     | none => rfl
     | some b => rw [hl] at hon; exact hon
theorem aeAny_first {ef : Nat → Eff} {m0 : Nat} {Q : (Nat → D) → List Ob → Prop} {i : Nat} {oi : Oper} (hi : ops[i]? = some oi) : ∀ (fuel : Nat) (listed : Array Bool) (e : Nat → D) (h : List Ob), m0 ≤ h.length → Closed md ops listed →
 (∀ j oj, ops[j]? = some oj → j ≠ i → listed.getD j true = false → (∀ e ∈ oj.after, Region.binds md e = true → e.on ≠ i) → (∀ k, twB md ops k j i = false) → oi.apart ops oj = true ∧ compat m0 (ef i) (ef j)) →
 i ∈ Region.ready md ops listed → YDE P G ops oi (ef i) e → (ef i).ok h → aeAny P G n md ops ef Q fuel (listed.setIfInBounds i true) (putE n e oi.dst ((ef i).d h.length)) ((ef i).heap h) → aeAny P G n md ops ef Q (fuel + 1) listed e h := by
  intro fuel
  induction fuel with
  | zero =>
    intro listed a h hm _ _ hr hy hk H
    refine ⟨fun h => (by rw [h] at hr; cases hr), fun j hj => ?_⟩
    by_cases hji : j = i
    · subst hji; unfold aeOp; simp only [hi]; exact ⟨hy, hk, H⟩
    · have := ready_mono hj hji
      rw [H.1] at this
      cases this
  | succ fuel ih =>
    intro listed a h hm hcl hfree hr hy hk H
    refine ⟨fun h => (by rw [h] at hr; cases hr), fun j hj => ?_⟩
    by_cases hji : j = i
    · subst hji; unfold aeOp; simp only [hi]; exact ⟨hy, hk, H⟩
    · have h1 := H.2 j (ready_mono hj hji)
      obtain ⟨hjun, oj, hoj, hall⟩ := mem_ready.1 hj
      have hnot : ∀ e ∈ oj.after, Region.binds md e = true → e.on ≠ i := fun e he hb heq => by
        have h1 := hall e he hb
        have h0 := (mem_ready.1 hr).1
        rw [heq] at h1
        rcases Zc i listed.size with h' | h'
        · simp [h'] at h0 h1; rw [h0] at h1; cases h1
        · simp [Z8 h'] at h1
      have hnt : ∀ k, twB md ops k j i = false := fun k => by
       cases ht : twB md ops k j i with
       | false => rfl
       | true =>
        have h1 := Yg4 hcl (Z4.1 hi).1 k j oj hoj hall ht
        have h0 := (mem_ready.1 hr).1
        rw [Z2] at h0 h1
        cases hl : listed[i]? with
        | none => rw [hl] at h0; cases h0
        | some b => rw [hl] at h0 h1; simp at h0 h1; rw [h0] at h1; cases h1
      obtain ⟨hap, hc⟩ := hfree j oj hoj hji hjun hnot hnt
      obtain ⟨a1, a2, a3⟩ := Oper.apart_spec hap
      unfold aeOp at h1 ⊢
      simp only [hoj] at h1 ⊢
      obtain ⟨y1, y2, y3⟩ := h1
      have yj : YDE P G ops oj (ef j) a := (YDE.congr a1).1 y1
      have kj : (ef j).ok h := Eff.ok_before hc hm y2
      have ki : (ef i).ok ((ef j).heap h) := Eff.ok_after hc.symm yj.fit kj hk
      have hfree' : ∀ k ok, ops[k]? = some ok → k ≠ i → (listed.setIfInBounds j true).getD k true = false →
          (∀ e ∈ ok.after, Region.binds md e = true → e.on ≠ i) → (∀ f, twB md ops f k i = false) → oi.apart ops ok = true ∧ compat m0 (ef i) (ef k) := fun k ok hk hki hun hno hnt => by
        refine hfree k ok hk hki ?_ hno hnt
        by_cases hjk : j = k
        · subst hjk; exact hjun
        · rw [getD_set_ne true hjk] at hun; exact hun
      refine ⟨yj, kj, ih (listed.setIfInBounds j true) _ _ (by rw [Eff.heap_len]; omega) (hcl.set hj) hfree' (ready_mono hr (Ne.symm hji)) ((YDE.congr a3).2 hy) ki ?_⟩
      rw [Zf _ _ hji]
      rw [Eff.d_after hc yj.fit] at y3
      rw [Eff.d_after hc.symm hy.fit, ← Eff.heap_comm hc hy.fit yj.fit hk kj, ← Zw8 a2]
      exact y3
def effOk (md : Region.Mode) (m0 : Nat) (ops : Array Oper) (ef : Nat → Eff) : Prop := ∀ i j oj, i < j → ops[j]? = some oj → (∀ e ∈ oj.after, Region.binds md e = true → e.on ≠ i) → (∀ k, twB md ops k j i = false) → compat m0 (ef i) (ef j)
def ae (P : Program) (G : Nat → D) (n : Nat) (ops : Array Oper) (ef : Nat → Eff) (Q : (Nat → D) → List Ob → Prop) : Nat → List Oper → (Nat → D) → List Ob → Prop
 | _, [], e, h => Q e h
 | k, o :: rest, e, h => YDE P G ops o (ef k) e ∧ (ef k).ok h ∧ ae P G n ops ef Q (k + 1) rest (putE n e o.dst ((ef k).d h.length)) ((ef k).heap h)
theorem aeAny_lex {ef : Nat → Eff} {m0 : Nat} {Q : (Nat → D) → List Ob → Prop} (hE : effOk md m0 ops ef) : ∀ (l : List Oper) (k : Nat) (listed : Array Bool) (e : Nat → D) (h : List Ob), m0 ≤ h.length → Closed md ops listed → (∀ j, j < k → listed.getD j true = true) → (∀ j, l[j]? = ops[k + j]?) → Region.lexFrom md ops l.length k listed = true → ae P G n ops ef Q k l e h → aeAny P G n md ops ef Q l.length listed e h
 | [], _, _, _, _, _, _, _, _, hB, q => ⟨by simpa [Region.lexFrom] using hB, q⟩
 | o :: l, k, listed, e, h, hm, hcl, hdone, hl, hB, q => by
    have h0 : ops[k]? = some o := by simpa using (hl 0).symm
    simp only [List.length_cons, Region.lexFrom, Z7] at hB
    obtain ⟨⟨hr, hf⟩, hB'⟩ := hB
    obtain ⟨hy, hk, hK⟩ := q
    have hfr := Region.free_spec h0 hf
    refine aeAny_first h0 l.length listed e h hm hcl (fun j oj hj hjk hun hno hnt => ⟨hfr j oj hj hjk hun hno, ?_⟩) (by simpa using hr) hy hk
      (aeAny_lex hE l (k + 1) _ _ _ (by rw [Eff.heap_len]; omega) (hcl.set (by simpa using hr)) (fun j hj => ?_) (fun j => by have := hl (j + 1); simpa [Nat.add_assoc, Nat.add_comm 1 j] using this) hB' hK)
    · have hlt : k < j := by
       rcases Zc j k with h' | h'
       · rw [hdone j h'] at hun; cases hun
       · omega
      exact hE k j oj hlt hj hno hnt
    · by_cases hjk : k = j
      · subst hjk
        rw [Z2, Z6]
        simp only [if_true]
        split <;> rfl
      · rw [getD_set_ne true hjk]; exact hdone j (by omega)
end
section
variable {P : Program} {G : Nat → D} {n : Nat} {e : Nat → D} {h : List Ob} {ops : Array Oper} {md : Region.Mode}
section
variable {B : Base} {a : Act} {w : World}
theorem Stp_sound {o : Oper} {h' : List Ob} {d : D} {K : Act → World → Prop} {R : Exit → Act → World → Prop} (q : Stp P G o.op e h h' d) (r : Sit G B ⟨n, e, h⟩ a w) (k : ∀ a' w', Sit G B ⟨n, putE n e o.dst d, h'⟩ a' w' → K a' w') : o.wp P a w K R := by
 obtain ⟨hd, p, r⟩ := r
 obtain ⟨dst, op, ty, pos, aft, gd⟩ := o
 have fin : ∀ (s' : S), s' = S.put ⟨n, e, h'⟩ dst d → s' = ⟨n, putE n e dst d, h'⟩ := fun s' hs => by rw [hs, J9]
 rcases q with q | ⟨x, args, tys, f, cap, rfl, e2, e3, e4⟩
 · obtain ⟨v, w', hd', h'', p', d', hr, ⟨rfl, rfl⟩, o', q', ev'⟩ := Zp0 (dst := dst) (ty := ty) (pos := pos) (aft := aft) (gd := gd) r q
   unfold Oper.wp
   have := r.put o' ev' q' dst
   rw [fin _ rfl] at this
   rcases hr with hr | ⟨hr, rfl⟩
   · rw [hr]; exact k _ _ ⟨hd', p', this⟩
   · rw [hr]; exact k _ _ ⟨hd', p', this⟩
 · have q0 := r.ev x
   rw [e2, rd] at q0
   obtain ⟨cs, e1, q0⟩ := q0
   have hrun : (execOp a.eval ⟨dst, .call ⟨.value x, args, tys⟩, ty, pos, aft, gd⟩).run P w = .ok (.enter f (args.map a.eval ++ cs)) w := by
    simp [execOp, resolve, e1, Deferred.ofValue, invoke, Zl8 e3]
   unfold Oper.wp
   rw [hrun, Oper.upon_enter]
   have hargs : rdL hd h (only p w) (args.toList.map (ev G e) ++ cap) (args.toList.map a.eval ++ cs.toList) := W7 (Zp6 r _) q0
   have := e4 w hd p _ r.ok hargs
   rw [show (args.toList.map a.eval ++ cs.toList).toArray = args.map a.eval ++ cs by apply Array.ext'; simp] at this
   refine this.mono ?_
   rintro e' w' ⟨v, hd', h'', d', p', rfl, ⟨rfl, rfl⟩, o, q2, ev'⟩
   have := r.put o ev' q2 dst
   rw [fin _ rfl] at this
   exact k _ _ ⟨hd', p', this⟩
theorem Zc5 {ef : Nat → Eff} {Q : (Nat → D) → List Ob → Prop} {R : Exit → Act → World → Prop} (k : ∀ e h a w, Q e h → Sit G B ⟨n, e, h⟩ a w → R .normal a w) : ∀ (fuel : Nat) (listed : Array Bool) (e : Nat → D) (h : List Ob) (a : Act) (w : World), Sit G B ⟨n, e, h⟩ a w → aeAny P G n md ops ef Q fuel listed e h → wpAny P md ops R fuel listed a w
 | 0, _, _, _, _, _, r, q => ⟨q.1, k _ _ _ _ q.2 r⟩
 | fuel + 1, listed, e, h, a, w, r, q => ⟨fun h0 => k _ _ _ _ (q.1 h0) r, fun i hi => by
   have q2 := q.2 i hi
   unfold aeOp at q2
   unfold wpOp
   split
   · rename_i ho; rw [ho] at q2; exact Zc5 k fuel _ _ _ _ _ r q2
   · rename_i o ho
     rw [ho] at q2
     obtain ⟨hy, hk, hn⟩ := q2
     obtain ⟨hd, p, r'⟩ := id r
     rcases hy with ⟨hw, _, hs⟩ | ⟨hw, hE⟩
     · have hw' := X4 (o := o) r' hw
       rw [if_pos hw']
       exact .inl (Stp_sound (hs h hk) r fun a' w' r2 => Zc5 k fuel _ _ _ _ _ r2 hn)
     · have hw' := X4 (o := o) r' hw
       rw [if_neg (by rw [hw']; decide)]
       rw [hE] at hn
       have r3 := r'.put0 (d := .v undef) (v := undef) (by rw [rd]) o.dst
       rw [J9] at r3
       have hh : nop.heap h = h := by simp [nop, Eff.heap, Yv]
       rw [hh] at hn
       exact Zc5 k fuel _ _ _ _ _ ⟨hd, p, r3⟩ hn⟩
end
def Zr0 (ops : Array Oper) (j i : Nat) : Bool := match ops[j]? with
 | some _ => twB .any ops (j + 1) j i
 | none => true
def chk1 (m0 : Nat) (ops : Array Oper) (i : Nat) (E : Eff) : Nat → List Eff → Prop
 | _, [] => True
 | j, F :: t => (Zr0 ops j i = true ∨ compat m0 E F) ∧ chk1 m0 ops i E (j + 1) t
def Ww (m0 : Nat) (ops : Array Oper) : Nat → List Eff → Prop
 | _, [] => True
 | i, E :: t => chk1 m0 ops i E (i + 1) t ∧ Ww m0 ops (i + 1) t
theorem chk1_get {m0 i : Nat} {E : Eff} : ∀ (es : List Eff) (k j : Nat) (F : Eff), chk1 m0 ops i E k es → es[j]? = some F → Zr0 ops (k + j) i = true ∨ compat m0 E F
 | [], _, _, _, _, q => by simp at q
 | F :: t, k, 0, F', q, r => by simp at r; subst r; exact q.1
 | F :: t, k, j + 1, F', q, r => by rw [show k + (j + 1) = k + 1 + j by omega]; exact chk1_get t (k + 1) j F' q.2 (by simpa using r)
theorem Yg0 {m0 : Nat} : ∀ (es : List Eff) (k i j : Nat) (E F : Eff), Ww m0 ops k es → es[i]? = some E → es[j]? = some F → i < j → Zr0 ops (k + j) (k + i) = true ∨ compat m0 E F
 | [], _, _, _, _, _, _, q, _, _ => by simp at q
 | X :: t, k, 0, j, E, F, q, r1, r2, hlt => by
  simp at r1; subst r1
  cases j with
  | zero => omega
  | succ j => rw [show k + (j + 1) = k + 1 + j by omega]; exact chk1_get t (k + 1) j F q.1 (by simpa using r2)
 | X :: t, k, i + 1, j, E, F, q, r1, r2, hlt => by
  cases j with
  | zero => omega
  | succ j =>
   rw [show k + (j + 1) = k + 1 + j by omega, show k + (i + 1) = k + 1 + i by omega]
   exact Yg0 t (k + 1) i j E F q.2 (by simpa using r1) (by simpa using r2) (by omega)
def aeS (P : Program) (G : Nat → D) (n m0 : Nat) (ops : Array Oper) (Q : (Nat → D) → List Ob → Prop) : List Eff → List Oper → (Nat → D) → List Ob → Prop
 | done, [], e, h => Ww m0 ops 0 done.reverse ∧ Q e h
 | done, o :: rest, e, h => ∃ E, YDE P G ops o E e ∧ E.ok h ∧ aeS P G n m0 ops Q (E :: done) rest (putE n e o.dst (E.d h.length)) (E.heap h)
theorem aeS_ae {m0 : Nat} {Q : (Nat → D) → List Ob → Prop} : ∀ (rest : List Oper) (done : List Eff) (e : Nat → D) (h : List Ob), aeS P G n m0 ops Q done rest e h →
 ∃ es, (∀ j, j < done.length → es[j]? = done.reverse[j]?) ∧ es.length = done.length + rest.length ∧ Ww m0 ops 0 es ∧ ae P G n ops (fun k => (es[k]?).getD nop) Q done.length rest e h
 | [], done, e, h, q => ⟨done.reverse, fun _ _ => rfl, by simp, q.1, q.2⟩
 | o :: rest, done, e, h, q => by
  obtain ⟨E, h1, h2, h3⟩ := q
  obtain ⟨es, g1, g2, g3, g4⟩ := aeS_ae rest (E :: done) _ _ h3
  have hE : es[done.length]? = some E := by
   rw [g1 _ (by simp)]; simp
  refine ⟨es, fun j hj => ?_, by simp at g2 ⊢; omega, g3, ?_⟩
  · rw [g1 j (by simp; omega), List.reverse_cons, Z1 (by simpa using hj)]
  · refine ⟨?_, ?_, ?_⟩
    · simp only [hE, Zb]; exact h1
    · simp only [hE, Zb]; exact h2
    · simp only [hE, Zb]
      simpa using g4
theorem Xu {id : Nat} {l : List Oper} {Q : Exit → S → Prop} (hm : P.follows .mixedOrders = true) (hB : Region.lexB .any l.toArray = true) (H : aeS P G n h.length l.toArray (fun e h => Q .normal ⟨n, e, h⟩) [] l e h) : aw P G (.region id l.toArray true) Q ⟨n, e, h⟩ := fun B a w r => by
 obtain ⟨hd, p, r⟩ := r
 have hdr := r.ok.drew
 have r' : Sit G B ⟨n, e, h⟩ a { w with drawn := w.drawn + 1 } := ⟨hd, p, hdr.1, r.evo.trans hdr.2, fun t => hdr.2.rd r.ok (r.tmp t), r.size, r.defers⟩
 simp only [Region.lexB, Z7] at hB
 obtain ⟨es, _, g2, g3, g4⟩ := aeS_ae l [] e h H
 have hE : effOk .any h.length l.toArray (fun k => (es[k]?).getD nop) := fun i j oj hij hj hno hnt => by
  have hjl : j < es.length := by
   have := (Z4.1 hj).1
   simp at this g2; omega
  rcases Yg0 es 0 i j _ _ g3 (Z3 (show i < es.length by omega)) (Z3 hjl) hij with hw | hc
  · exfalso
    rw [Nat.zero_add, Nat.zero_add] at hw
    unfold Zr0 at hw
    rw [hj] at hw
    have hw : twB .any l.toArray (j + 1) j i = true := hw
    rw [hnt] at hw; cases hw
  · simp only [Z3 (show i < es.length by omega), Z3 hjl, Zb]
    exact hc
 refine wp_region_any hm (Zc5 (ef := fun k => (es[k]?).getD nop) (Q := fun e h => Q .normal ⟨n, e, h⟩) (fun e h a w q r => ⟨_, q, r⟩) _ _ _ _ _ _ r' ?_)
 have := aeAny_lex (P := P) (G := G) (n := n) (md := .any) (ops := l.toArray) (Q := fun e h => Q .normal ⟨n, e, h⟩) hE l 0 (Array.replicate l.toArray.size false) e h (Ze _) (fun j oj hj hl => by
  have hlt := (Z4.1 hj).1
  rw [Z2, Zg, if_pos hlt] at hl
  cases hl) (fun j hj => by omega) (by simp) (by simpa using hB.2) g4
 simpa using this
def J0 (d : D) : Eff := ⟨[], [], [], fun _ => d⟩
def Wq (i : Nat) (ob : Ob) (d : D) : Eff := ⟨[(i, ob)], [], [], fun _ => d⟩
def Uz (i : Nat) (ob ob' : Ob) (d : D) : Eff := ⟨[(i, ob)], [(i, ob')], [], fun _ => d⟩
theorem X7 {m0 : Nat} {d : D} {F : Eff} : compat m0 (J0 d) F := ⟨by simp [J0], by simp [J0], .inl rfl, .inr ⟨rfl, by simp [J0]⟩⟩
theorem Xe {m0 : Nat} {d : D} {F : Eff} : compat m0 F (J0 d) := X7.symm
theorem Xd {m0 i j : Nat} {o o' : Ob} {d d' : D} : compat m0 (Wq i o d) (Wq j o' d') := ⟨by simp [Wq], by simp [Wq], .inl rfl, .inl rfl⟩
theorem W6 {m0 i j : Nat} {o o' o'' : Ob} {d d' : D} (k : i ≠ j) : compat m0 (Wq i o d) (Uz j o' o'' d') := ⟨by simp [Wq], by simp [Wq, Uz]; exact Ne.symm k, .inl rfl, .inl rfl⟩
theorem Ym6 {op : Op} {d : D} (q : aOp P G e [] (fun h' d' => h' = [] ∧ d' = d) op) (h : List Ob) : aOp P G e h (fun h' d' => h' = h ∧ d' = d) op := by
 have one : ∀ {x : Option D}, on x (fun d' => ([] : List Ob) = [] ∧ d' = d) → on x (fun d' => h = h ∧ d' = d) := fun {x} q => by
  obtain ⟨d', h1, _, h2⟩ := X6.1 q
  exact X6.2 ⟨d', h1, rfl, h2⟩
 cases op <;> try exact q.elim
 case move => exact ⟨rfl, q.2⟩
 case assign => exact ⟨rfl, q.2⟩
 case pick => obtain ⟨t, h1, _, h2⟩ := q; exact ⟨t, h1, rfl, h2⟩
 case binOp => exact one q
 case unOp => exact one q
 case extract => exact one q
 case field => exact one q
 case fieldAddr => exact one q
 case nilCheck => exact ⟨q.1, rfl, q.2.2⟩
 case load t x =>
  obtain ⟨d', h1, _, h2⟩ := X6.1 q
  refine X6.2 ⟨d', ?_, rfl, h2⟩
  generalize ev G e x = X at h1 ⊢
  cases X <;> simp only [Ug] at h1 ⊢ <;> first | exact h1 | (simp at h1)
 case store t x y =>
  obtain ⟨h', h1, h2⟩ := X6.1 q
  exfalso
  unfold J5 at h1
  split at h1
  · cases h1
  · split at h1
    · split at h1 <;> simp at h1
    · cases h1
 case box => obtain ⟨ds, h1, h2, _⟩ := X6.1 q; simp at h2
 case alloc => obtain ⟨ds, h1, h2, _⟩ := X6.1 q; simp at h2
 case buildSlice => obtain ⟨ds, h1, h2, _⟩ := X6.1 q; simp at h2
 case build => obtain ⟨ds, h1, _, h2⟩ := X6.1 q; exact X6.2 ⟨ds, h1, rfl, h2⟩
 case indexAddr t x i =>
  have q : idxA P [] t (ev G e x) (ev G e i) (fun d' => ([] : List Ob) = [] ∧ d' = d) := q
  show idxA P h t (ev G e x) (ev G e i) (fun d' => h = h ∧ d' = d)
  unfold idxA at q ⊢
  generalize ev G e x = X at q ⊢
  generalize ev G e i = I at q ⊢
  cases I <;> try exact q.elim
  case v I =>
  cases I <;> try exact q.elim
  case int κ m =>
  cases X <;> try exact q.elim
  case sl kk xs => obtain ⟨h1, h2, h3, h4⟩ := q; exact ⟨h1, h2, h3, fun row hr => ⟨rfl, (h4 row hr).2⟩⟩
  case buf i' n' => obtain ⟨a, b, c, h1, _⟩ := q; simp at h1
  case win i' n' a' b' => obtain ⟨a, b, c, h1, _⟩ := q; simp at h1
  case ptr i' n' => obtain ⟨a, b, c, h1, h2, h3, h4, h5⟩ := q; exact ⟨a, b, c, h1, h2, h3, h4, rfl, h5.2⟩
  case rp ds => obtain ⟨a, b, c, h1, h2, h3, h4, h5⟩ := q; exact ⟨a, b, c, h1, h2, h3, h4, rfl, h5.2⟩
 case slice t x lo hi mx =>
  cases mx with
  | some m => exact q.elim
  | none =>
   have q : slcA P t (ev G e x) (lo.map (ev G e)) (hi.map (ev G e)) (fun d' => ([] : List Ob) = [] ∧ d' = d) := q
   show slcA P t (ev G e x) (lo.map (ev G e)) (hi.map (ev G e)) (fun d' => h = h ∧ d' = d)
   unfold slcA at q ⊢
   split at q
   · obtain ⟨l, r, a, b, c, d, e, f, g⟩ := q; exact ⟨l, r, a, b, c, d, e, f, rfl, g.2⟩
   · obtain ⟨l, r, a, b, c, d, e, f, g⟩ := q; exact ⟨l, r, a, b, c, d, e, f, rfl, g.2⟩
   · exact q.elim
 case index t x i =>
  have q : indA P t (ev G e x) (ev G e i) (fun d' => ([] : List Ob) = [] ∧ d' = d) := q
  show indA P t (ev G e x) (ev G e i) (fun d' => h = h ∧ d' = d)
  unfold indA at q ⊢
  split at q
  · obtain ⟨a, b, c, d⟩ := q; exact ⟨a, b, c, fun b hb => ⟨rfl, (d b hb).2⟩⟩
  · obtain ⟨l, e, z, d, h1, h2, h3, h4, h5, h6⟩ := q; exact ⟨l, e, z, d, h1, h2, h3, h4, h5, rfl, h6.2⟩
  · exact q.elim
 case convert t u x =>
  have q : cvA P [] t u (ev G e x) (fun h' d' => h' = [] ∧ d' = d) := q
  show cvA P h t u (ev G e x) (fun h' d' => h' = h ∧ d' = d)
  unfold cvA at q ⊢
  split at q
  · exact one q
  · rcases q with ⟨q1, q2, q3, q4⟩ | ⟨q1, q2, q4⟩
    · exact .inl ⟨q1, q2, q3, rfl, q4.2⟩
    · exact .inr ⟨q1, q2, rfl, q4.2⟩
  · obtain ⟨q1, q2, q3⟩ := q
    unfold bstD
    split at q3
    · obtain ⟨bs, q4, q5⟩ := q3; exact ⟨q1, q2, bs, q4, rfl, q5.2⟩
    · obtain ⟨a, b, c, q4, _⟩ := q3; simp at q4
    · exact ⟨q1, q2, rfl, q3.2⟩
    · exact q3.elim
 case call c =>
  obtain ⟨cal, args, tys⟩ := c
  cases cal with
  | builtin b =>
   have q : biA P [] b tys.toList (args.toList.map (ev G e)) (fun h' d' => h' = [] ∧ d' = d) := q
   show biA P h b tys.toList (args.toList.map (ev G e)) (fun h' d' => h' = h ∧ d' = d)
   unfold biA at q ⊢
   split at q
   · exact one q
   · obtain ⟨a, b, c, ys, h1, h2, h3, h4⟩ := q
     exfalso
     split at h4
     · obtain ⟨xs, g1, _⟩ := h4; simp at g1
     · simp at h4
     · exact h4
   · exact q.elim
  | _ => exact q.elim
section
variable {m0 : Nat} {done : List Eff} {rest : List Oper} {Q : (Nat → D) → List Ob → Prop} {t : Nat} {op : Op} {ty : TypeId} {pos : String} {aft : Array Edge} {gd : Option (Nat × Bool)}
theorem U7 (c : Ww m0 ops 0 done.reverse) (q : Q e h) : aeS P G n m0 ops Q done [] e h := ⟨c, q⟩
theorem Zg7 {d : D} : (J0 d).heap h = h := by simp [J0, Eff.heap, Yv]
theorem aS1 (hw : Yc ops gd e = some true) (ht : decide (t < n) = true) (H : ∀ K : List Ob → D → Prop, (∀ h' d, h' = [] → aeS P G n m0 ops Q (J0 d :: done) rest (upd e t d) h → K h' d) → aOp P G e [] K op) : aeS P G n m0 ops Q done (⟨some t, op, ty, pos, aft, gd⟩ :: rest) e h := by
 obtain ⟨d, h1, _, h2⟩ := aOp_det (H (fun h' d => h' = [] ∧ aeS P G n m0 ops Q (J0 d :: done) rest (upd e t d) h) fun h' d q1 q2 => ⟨q1, q2⟩) fun h' d q => q.1
 refine ⟨J0 d, .inl ⟨hw, ⟨by simp [J0], fun _ _ _ => rfl⟩, fun h2 _ => .inl ?_⟩, by simp [J0, Eff.ok], ?_⟩
 · rw [Zg7]; exact Ym6 h1 h2
 · rw [Zg7]
   unfold putE
   simp only [if_pos (of_decide_eq_true ht)]
   exact h2
theorem Xl {u : TypeId} {x : Operand} {i o : Nat} {ds : List D} {d : D} (hw : Yc ops gd e = some true) (ht : decide (t < n) = true) (hx : ev G e x = .ptr i o) (hi : h[i]? = some (.cells ds)) (hg : getD P u ds o = some d)
 (k : aeS P G n m0 ops Q (Wq i (.cells ds) d :: done) rest (upd e t d) h) : aeS P G n m0 ops Q done (⟨some t, .load u x, ty, pos, aft, gd⟩ :: rest) e h := by
 have hh : ∀ h, (Wq i (.cells ds) d).heap h = h := fun h => by simp [Wq, Eff.heap, Yv]
 refine ⟨Wq i (.cells ds) d, .inl ⟨hw, ⟨by simp [Wq], fun _ _ _ => rfl⟩, fun h2 k2 => .inl ?_⟩, by simpa [Wq, Eff.ok] using hi, ?_⟩
 · rw [hh]
   have hi2 : h2[i]? = some (.cells ds) := k2 (i, .cells ds) (by simp [Wq])
   show on (Ug P h2 u (ev G e x)) _
   rw [hx]
   simp only [Ug, hi2, hg, on]
   exact ⟨trivial, rfl⟩
 · rw [hh]; unfold putE; simp only [if_pos (of_decide_eq_true ht)]; exact k
theorem Zu4 {u : TypeId} {x y : Operand} {i o : Nat} {ds es : List D} (hw : Yc ops gd e = some true) (hx : ev G e x = .ptr i o) (hi : h[i]? = some (.cells ds)) (hy : (ev G e y).cells = some es) (hc : (es.all D.one && szT P u == some es.length) = true) (hle : o + es.length ≤ ds.length)
 (k : aeS P G n m0 ops Q (Uz i (.cells ds) (.cells (putL ds o es)) (.v undef) :: done) rest e (h.set i (.cells (putL ds o es)))) : aeS P G n m0 ops Q done (⟨none, .store u x y, ty, pos, aft, gd⟩ :: rest) e h := by
 have hh : ∀ h, (Uz i (.cells ds) (.cells (putL ds o es)) (.v undef)).heap h = h.set i (.cells (putL ds o es)) := fun h => by simp [Uz, Eff.heap, Yv]
 refine ⟨Uz i (.cells ds) (.cells (putL ds o es)) (.v undef), .inl ⟨hw, ⟨by simp [Uz], fun _ _ _ => rfl⟩, fun h2 k2 => .inl ?_⟩, by simpa [Uz, Eff.ok] using hi, by rw [hh]; exact k⟩
 have hi2 : h2[i]? = some (.cells ds) := k2 (i, .cells ds) (by simp [Uz])
 rw [hh]
 show on (J5 P h2 u (ev G e x) (ev G e y)) _
 rw [hx]
 simp only [J5, hy, hc, if_true, hi2, if_pos hle, on]
 exact ⟨trivial, rfl⟩
theorem Yb2 {u len e' k' : Nat} {parts : Array (Nat × Operand)} {xs : List (List D)} (hw : Yc ops gd e = some true) (ht : decide (t < n) = true) (hl : litD P u len (parts.toList.map fun q => (q.1, ev G e q.2)) = some (e', k', xs))
 (k : aeS P G n m0 ops Q (⟨[], [], [.buf e' k' xs], fun m => .buf m len⟩ :: done) rest (upd e t (.buf h.length len)) (h ++ [.buf e' k' xs])) : aeS P G n m0 ops Q done (⟨some t, .buildSlice u len parts, ty, pos, aft, gd⟩ :: rest) e h := by
 refine ⟨⟨[], [], [.buf e' k' xs], fun m => .buf m len⟩, .inl ⟨hw, ⟨by simp, fun hn => by cases hn⟩, fun h2 _ => .inl ?_⟩, by simp [Eff.ok], ?_⟩
 · show on (litD P u len (parts.toList.map fun q => (q.1, ev G e q.2))) _
   rw [hl]; exact ⟨rfl, rfl⟩
 · unfold putE; simp only [if_pos (of_decide_eq_true ht)]; exact k
theorem aS_app {x y : Operand} {u u' i m e' k' by' : Nat} {xs ys : List (List D)} {R : List (Nat × Ob)} (hw : Yc ops gd e = some true) (ht : decide (t < n) = true) (hx : ev G e x = .buf i m) (hi : h[i]? = some (.buf e' k' xs)) (hm : xs.length = m) (ha : apT P u = some (e', k', by'))
 (hs : ∀ h2 : List Ob, (∀ q ∈ R, h2[q.1]? = some q.2) → srcD P h2 u u' (ev G e y) = some ys) (hR : ∀ q ∈ R, h[q.1]? = some q.2) (hk : Yr k' ys) (hb : (m + ys.length) * (by' + 1) ≤ 140737488355328)
 (k : aeS P G n m0 ops Q (⟨(i, .buf e' k' xs) :: R, [(i, .buf e' k' (xs ++ ys))], [], fun _ => .buf i (m + ys.length)⟩ :: done) rest (upd e t (.buf i (m + ys.length))) (h.set i (.buf e' k' (xs ++ ys)))) :
 aeS P G n m0 ops Q done (⟨some t, .call ⟨.builtin .append, #[x, y], #[u, u']⟩, ty, pos, aft, gd⟩ :: rest) e h := by
 have hh : ∀ h, (⟨(i, .buf e' k' xs) :: R, [(i, .buf e' k' (xs ++ ys))], [], fun _ => .buf i (m + ys.length)⟩ : Eff).heap h = h.set i (.buf e' k' (xs ++ ys)) := fun h => by simp [Eff.heap, Yv]
 refine ⟨⟨(i, .buf e' k' xs) :: R, [(i, .buf e' k' (xs ++ ys))], [], fun _ => .buf i (m + ys.length)⟩, .inl ⟨hw, ⟨by simp, fun _ _ _ => rfl⟩, fun h2 k2 => .inl ?_⟩, ?_, ?_⟩
 · rw [hh]
   have hi2 : h2[i]? = some (.buf e' k' xs) := k2 (i, .buf e' k' xs) (by simp)
   show aOp P G e h2 _ (.call ⟨.builtin .append, #[x, y], #[u, u']⟩)
   rw [aOp_bi]
   show biA P h2 .append [u, u'] [ev G e x, ev G e y] _
   rw [hx, biA_append]
   exact ⟨e', k', by', ys, ha, hs h2 fun q hq => k2 q (by simp [hq]), hk, xs, hi2, hm, hb, rfl, rfl⟩
 · intro q hq
   rcases List.mem_cons.1 hq with rfl | hq
   · exact hi
   · exact hR q hq
 · rw [hh]; unfold putE; simp only [if_pos (of_decide_eq_true ht)]; exact k
theorem aS_call {x : Operand} {args : Array Operand} {tys : Array TypeId} {f : FuncId} {cap : List D} {E : Eff} (hw : Yc ops gd e = some true) (ht : decide (t < n) = true) (hx : ev G e x = .fn f cap) (he : entB P f = true) (hf : E.fit) (hk : E.ok h)
 (hc : ∀ h2, E.ok h2 → Does P G f h2 (args.toList.map (ev G e) ++ cap) (fun h' r => h' = E.heap h2 ∧ r = E.d h2.length))
 (k : aeS P G n m0 ops Q (E :: done) rest (upd e t (E.d h.length)) (E.heap h)) : aeS P G n m0 ops Q done (⟨some t, .call ⟨.value x, args, tys⟩, ty, pos, aft, gd⟩ :: rest) e h :=
 ⟨E, .inl ⟨hw, hf, fun h2 k2 => .inr ⟨x, args, tys, f, cap, rfl, hx, he, hc h2 k2⟩⟩, hk, by unfold putE; simp only [if_pos (of_decide_eq_true ht)]; exact k⟩
theorem Yj {x : Operand} {args : Array Operand} {tys : Array TypeId} {f : FuncId} {cap : List D} {d : D} (hw : Yc ops gd e = some true) (ht : decide (t < n) = true) (hx : ev G e x = .fn f cap) (he : entB P f = true)
 (hc : ∀ h2, Does P G f h2 (args.toList.map (ev G e) ++ cap) (fun h' r => h' = h2 ∧ r = d))
 (k : aeS P G n m0 ops Q (J0 d :: done) rest (upd e t d) h) : aeS P G n m0 ops Q done (⟨some t, .call ⟨.value x, args, tys⟩, ty, pos, aft, gd⟩ :: rest) e h :=
 aS_call (E := J0 d) hw ht hx he ⟨by simp [J0], fun _ _ _ => rfl⟩ (by simp [J0, Eff.ok]) (fun h2 _ => by rw [Zg7]; exact hc h2) (by rw [Zg7]; exact k)
theorem Uj {x : Operand} {args : Array Operand} {tys : Array TypeId} {f : FuncId} {cap : List D} {d : D} {i : Nat} {ob ob' : Ob} (hw : Yc ops gd e = some true) (ht : decide (t < n) = true) (hx : ev G e x = .fn f cap) (he : entB P f = true) (hi : h[i]? = some ob)
 (hc : ∀ h2, h2[i]? = some ob → Does P G f h2 (args.toList.map (ev G e) ++ cap) (fun h' r => h' = h2.set i ob' ∧ r = d))
 (k : aeS P G n m0 ops Q (Uz i ob ob' d :: done) rest (upd e t d) (h.set i ob')) : aeS P G n m0 ops Q done (⟨some t, .call ⟨.value x, args, tys⟩, ty, pos, aft, gd⟩ :: rest) e h := by
 have hh : ∀ h, (Uz i ob ob' d).heap h = h.set i ob' := fun h => by simp [Uz, Eff.heap, Yv]
 exact aS_call (E := Uz i ob ob' d) hw ht hx he ⟨by simp [Uz], fun _ _ _ => rfl⟩ (by simpa [Uz, Eff.ok] using hi) (fun h2 k2 => by rw [hh]; exact hc h2 (k2 (i, ob) (by simp [Uz]))) (by rw [hh]; exact k)
end
section
variable {m0 : Nat} {done : List Eff} {rest : List Oper} {Q : (Nat → D) → List Ob → Prop} {t : Nat} {ty : TypeId} {pos : String} {aft : Array Edge} {gd : Option (Nat × Bool)} {x y : Operand} {u i j m m' e' k' e2 k2 by' : Nat} {xs ys : List (List D)}
theorem Yg8 {h2 : List Ob} {d : D} (hy : d = .buf j m') (hj : h2[j]? = some (.buf e2 k2 ys)) (hm : ys.length = m') : srcD P h2 u u d = some ys := by
 subst hy; unfold srcD; simp only [if_true, hj, if_pos hm]
theorem src_any {u' : Nat} {h2 : List Ob} {d : D} (q : srcD P [] u u' d = some ys) : srcD P h2 u u' d = some ys := by
 unfold srcD at q ⊢
 split at q
 · exact q
 · split at q
   · simp at q
   · cases q
 · split at q
   · simp at q
   · cases q
 · exact q
 · exact q
 · cases q
theorem aS_appB (hw : Yc ops gd e = some true) (ht : decide (t < n) = true) (hx : ev G e x = .buf i m) (hy : ev G e y = .buf j m') (hi : h[i]? = some (.buf e' k' xs)) (hm : xs.length = m) (ha : apT P u = some (e', k', by')) (hj : h[j]? = some (.buf e2 k2 ys)) (hm' : ys.length = m')
 (hk : Yr k' ys) (hb : (m + ys.length) * (by' + 1) ≤ 140737488355328)
 (k : aeS P G n m0 ops Q (⟨[(i, .buf e' k' xs), (j, .buf e2 k2 ys)], [(i, .buf e' k' (xs ++ ys))], [], fun _ => .buf i (m + ys.length)⟩ :: done) rest (upd e t (.buf i (m + ys.length))) (h.set i (.buf e' k' (xs ++ ys)))) :
 aeS P G n m0 ops Q done (⟨some t, .call ⟨.builtin .append, #[x, y], #[u, u]⟩, ty, pos, aft, gd⟩ :: rest) e h :=
 aS_app (R := [(j, .buf e2 k2 ys)]) hw ht hx hi hm ha (fun h2 q => Yg8 hy (q _ (List.mem_singleton.2 rfl)) hm') (fun q hq => by rw [List.mem_singleton.1 hq]; exact hj) hk hb k
end
/-! What a function hands back, its own memory being given away. -/
@[go_sem] theorem byD_len {l : List UInt8} : (byD l).length = l.length := by simp [byD]
theorem Zf6 {l : List UInt8} (a b : Nat) : ((byD l).take b).drop a = byD ((l.take b).drop a) := by simp [byD, List.map_drop, List.map_take]
theorem Xn (l : List UInt8) : Yr 1 (byD l) := fun row hr => by
 obtain ⟨b, _, rfl⟩ := List.mem_map.1 hr
 exact ⟨rfl, by simp [D.one, Value.oneCell']⟩
theorem Vb (k : Nat) : Yr k [] := by simp [Yr]
theorem Does.weak {f : FuncId} {args : List D} {K : List Ob → D → Prop} (q : Does P G f h args (fun h' r => ∃ r', K h' r' ∧ ∀ hd hh W u, rd hd hh W r u → rd hd hh W r' u)) : Does P G f h args K := fun w hd p vs o ha =>
 (q w hd p vs o ha).mono fun _ _ ⟨v, hd', h', r, p', e, ⟨r', hk, hw⟩, o', q', ev⟩ => ⟨v, hd', h', r', p', e, hk, o', hw _ _ _ _ q', ev⟩
theorem nil_sl {k : Nat} : ∀ hd hh W u, rd hd hh W (.v (.slice none 0 0)) u → rd hd hh W (.sl k []) u := fun hd hh W u q => by
 have q : u = .slice none 0 0 := by rw [rd] at q; exact q
 subst q
 rw [rd]
 exact ⟨none, 0, rfl, ⟨fun _ => rfl, Ze _⟩, by decide, by rw [Xo]; trivial⟩
theorem Yf {P : Program} {G : Nat → D} {c : Code} {Q : Exit → S → Prop} {s : S} (q : aw P G c Q s) : aw P G c Q s := q
theorem Y7 {P : Program} {G : Nat → D} {ops : Array Oper} {l : List Oper} {Q : S → Prop} {s : S} (q : ao P G ops l Q s) : ao P G ops l Q s := q
theorem Xf {P : Program} {G : Nat → D} {n : Nat} {ops : Array Oper} {h : List Ob} {Q : (Nat → D) → Prop} {l : List Oper} {e : Nat → D} (q : aq P G n ops h Q l e) : aq P G n ops h Q l e := q
theorem Ze7 {P : Program} {G : Nat → D} {n m0 : Nat} {ops : Array Oper} {Q : (Nat → D) → List Ob → Prop} {done : List Eff} {l : List Oper} {e : Nat → D} {h : List Ob} (q : aeS P G n m0 ops Q done l e h) : aeS P G n m0 ops Q done l e h := q
theorem Yb9 {K : S → Prop} {Q : Exit → S → Prop} {x : Exit} {s : S} (q : Zv2 K Q x s) : Zv2 K Q x s := q
theorem gd_iB {i : Nat} {Q : Exit → S → Prop} {x : Exit} {s : S} (q : Uh i Q x s) : Uh i Q x s := q
@[reducible] def nxA (P : Program) (G : Nat → D) (Q : Exit → S → Prop) (s : S) : Code → Option Prop
 | .seq x y => some (aw P G x (Zv2 (aw P G y Q) Q) s)
 | .region _ ⟨l⟩ false => some (ao P G l.toArray l (Q .normal) s)
 | .block id c => some (aw P G c (Uh id Q) s)
 | .skip => some (Q .normal s)
 | .exit id => some (Q (.exit id) s)
 | .ret => some (Q .ret s)
 | _ => none
theorem sA {P : Program} {G : Nat → D} {c : Code} {Q : Exit → S → Prop} {s : S} {p : Prop} (h : nxA P G Q s c = some p) (k : p) : aw P G c Q s := by
 unfold nxA at h
 split at h
 · cases h; exact Vp k
 · cases h; exact Xs k
 · cases h; exact V9 k
 · cases h; exact Ux k
 · cases h; exact Zk6 k
 · cases h; exact Zh8 k
 · cases h
@[reducible] def nxI (P : Program) (G : Nat → D) (Q : Exit → S → Prop) (s : S) (x y : Code) : Bool → Option Prop
 | true => some (aw P G x Q s)
 | false => some (aw P G y Q s)
theorem sI {P : Program} {G : Nat → D} {c : Operand} {x y : Code} {Q : Exit → S → Prop} {s : S} {b : Bool} {p : Prop} (hb : ev G s.env c = .v (.bool b)) (h : nxI P G Q s x y b = some p) (k : p) : aw P G (.cond c x y) Q s := by
 cases b
 · cases h; exact Za1 hb k
 · cases h; exact Zd1 hb k
@[reducible] def nxT (K : S → Prop) (Q : Exit → S → Prop) (s : S) : Exit → Option Prop
 | .normal => some (K s)
 | .exit i => some (Q (.exit i) s)
 | .ret => some (Q .ret s)
 | _ => none
theorem sT {K : S → Prop} {Q : Exit → S → Prop} {s : S} {x : Exit} {p : Prop} (h : nxT K Q s x = some p) (k : p) : Zv2 K Q x s := by
 cases x <;> first | (cases h; exact k) | cases h
@[reducible] def nxB (i : Nat) (Q : Exit → S → Prop) (s : S) : Exit → Option Prop
 | .normal => some (Q .normal s)
 | .exit j => match Z5 j i with
   | true => some (Q .normal s)
   | false => some (Q (.exit j) s)
 | .ret => some (Q .ret s)
 | _ => none
theorem sB {i : Nat} {Q : Exit → S → Prop} {s : S} {x : Exit} {p : Prop} (h : nxB i Q s x = some p) (k : p) : Uh i Q x s := by
 cases x with
 | exit j =>
  simp only [nxB] at h
  split at h
  · rename_i e; cases h; have e := Za e; subst e; exact inB_x k
  · rename_i e; cases h; exact inB_y (beq_eq_false_iff_ne.2 (Nat.ne_of_beq_eq_false e)) k
 | _ => first | (cases h; exact k) | cases h
theorem endV {P : Program} {res : Array ResultVar} {h0 : List Ob} {K : List Ob → D → Prop} {s : S} {ds : List D} {x : Value} (hl : lowH h0.length h0) (h1 : resD P s res.toList = some ds) (h3 : cvD (fun i => decide (h0.length ≤ i)) s.h (outD ds) = .v x) (hK : K h0 (.v x))
 (h2 : s.h.take h0.length = h0 := by simp) (h4 : h0.length ≤ s.h.length := by simp) : EndD P res h0.length K s := endD hl h1 h2 h4 h3 (by rw [low]; trivial) hK
end
section
variable {P : Program} {G : Nat → D} {n : Nat} {e : Nat → D} {h h1 : List Ob} {ops : Array Oper} {md : Region.Mode}
def opds (o : Op) : List Operand := o.operands.toList
def OpTri (P : Program) (G : Nat → D) (o : Oper) (args : List D) (h : List Ob) (K : List Ob → D → Prop) : Prop :=
 ∀ (a : Act) w hd p (R : Exit → Act → World → Prop), a.defers = [] → Ok G w hd h p → rdL hd h (only p w) args ((opds o.op).map a.eval) → o.wp P a w (fun a' w' => ∃ v, a' = a.put o.dst v ∧ Post G w hd h p K v w') R
theorem OpTri.mono {o : Oper} {args : List D} {K K' : List Ob → D → Prop} (q : OpTri P G o args h K) (k : ∀ h' r, K h' r → K' h' r) : OpTri P G o args h K' := fun a w hd p R hd0 ok ha =>
 Oper.wp_mono (fun _ _ ⟨v, e, q⟩ => ⟨v, e, q.mono k⟩) (q a w hd p R hd0 ok ha)
theorem opds_env {a : Act} {w : World} {hd : List Value} {W : World} (op : Op) (ha : rdL hd h W ((opds op).map (ev G e)) ((opds op).map a.eval)) : ∀ t, Operand.tmp t ∈ opds op → rd hd h W (e t) (a.tmps.getD t undef) := fun t ht => by
 obtain ⟨j, hj, hx⟩ := List.getElem_of_mem ht
 obtain ⟨u, h1, h2⟩ := ((Yx _ _).1 ha).2 j (e t) (by rw [List.getElem?_map, Z3 hj, hx]; rfl)
 rw [List.getElem?_map, Z3 hj, hx] at h1
 cases h1; exact h2
open Classical in
theorem Xx {K : List Ob → D → Prop} {o : Oper} (q : aOp P G e h K o.op) : OpTri P G o ((opds o.op).map (ev G e)) h K := fun a w hd p R hdf ok ha => by
 obtain ⟨dst, op, ty, pos, aft, gd⟩ := o
 have r : Sat G ⟨w, hd, h, p⟩ ⟨a.tmps.size, fun t => if Operand.tmp t ∈ opds op then e t else .any, h⟩ a w hd p := ⟨ok, .refl _ _ _ _, fun t => by
  show rd _ _ _ (if _ then _ else _) _
  split
  · rename_i ht; exact opds_env (w := w) op ha t ht
  · rw [rd]; trivial, rfl, hdf⟩
 have q2 : aOp P G (fun t => if Operand.tmp t ∈ opds op then e t else .any) h K op := Zp1 (fun x hx => by
  cases x with
  | tmp t => show (if Operand.tmp t ∈ opds op then e t else .any) = e t; rw [if_pos (by unfold opds; simpa using hx)]
  | _ => rfl) q
 obtain ⟨v, w', hd', h', p', d, hr, k, o', q', ev'⟩ := Zp0 (dst := dst) (ty := ty) (pos := pos) (aft := aft) (gd := gd) r q2
 unfold Oper.wp
 rcases hr with hr | ⟨hr, rfl⟩
 · rw [hr]; exact ⟨v, rfl, hd', h', d, p', k, o', q', ev'⟩
 · rw [hr]; exact ⟨undef, rfl, hd', h', d, p', k, o', q', ev'⟩
theorem Uw {f : FuncId} {args : List D} {K : List Ob → D → Prop} : Does P G f h args K ↔ ∀ w hd p vs, Ok G w hd h p → rdL hd h (only p w) args vs → Calls P f vs.toArray w fun e w' => ∃ v, e = .returned v ∧ Post G w hd h p K v w' := by
 constructor
 · exact fun q w hd p vs o ha => (q w hd p vs o ha).mono fun _ _ ⟨v, hd', h', r, p', e, k, o', q', ev⟩ => ⟨v, e, hd', h', r, p', k, o', q', ev⟩
 · exact fun q w hd p vs o ha => (q w hd p vs o ha).mono fun _ _ ⟨v, e, hd', h', r, p', k, o', q', ev⟩ => ⟨v, hd', h', r, p', e, k, o', q', ev⟩
theorem Zu9 {K : List Ob → D → Prop} {dst : Option Nat} {x : Operand} {args : Array Operand} {tys : Array TypeId} {ty : TypeId} {pos : String} {aft : Array Edge} {gd : Option (Nat × Bool)} {f : FuncId} {cap xs : List D} (he : entB P f = true) (hc : Does P G f h (xs ++ cap) K) :
 OpTri P G ⟨dst, .call ⟨.value x, args, tys⟩, ty, pos, aft, gd⟩ (.fn f cap :: xs) h K := fun a w hd p R hdf ok ha => by
 have ho : opds (.call ⟨.value x, args, tys⟩) = x :: args.toList := by simp [opds, Op.operands, Call.operands]
 rw [ho, Zh, rdL] at ha
 obtain ⟨u, t, e0, q, ha⟩ := ha
 cases e0
 rw [rd] at q
 obtain ⟨cs, e1, q⟩ := q
 have hrun : (execOp a.eval ⟨dst, .call ⟨.value x, args, tys⟩, ty, pos, aft, gd⟩).run P w = .ok (.enter f (args.map a.eval ++ cs)) w := by
  simp [execOp, resolve, e1, Deferred.ofValue, invoke, Zl8 he]
 unfold Oper.wp
 rw [hrun, Oper.upon_enter]
 have := Uw.1 hc w hd p _ ok (W7 ha q)
 rw [show (args.toList.map a.eval ++ cs.toList).toArray = args.map a.eval ++ cs by apply Array.ext'; simp] at this
 refine this.mono ?_
 rintro e w' ⟨v, rfl, q⟩
 exact ⟨v, rfl, q⟩
section
variable {π : Nat → Nat} {args : List D} {K1 : List Ob → D → Prop}
def Fits (π : Nat → Nat) (m : Nat) (h : List Ob) (K1 : List Ob → D → Prop) : Prop := ∀ h1' r1, K1 h1' r1 → (∀ i j, i < h1'.length → j < h1'.length → π i = π j → i = j) ∧ ∀ j, m ≤ j → j < h1'.length → h[π j]? = some .hole
def inGreat (π : Nat → Nat) (h : List Ob) (K1 : List Ob → D → Prop) (h' : List Ob) (r : D) : Prop := ∃ h1' r1, K1 h1' r1 ∧ h' = plc π h 0 (h1'.map (Va π)) ∧ r = ren π r1
theorem OpTri.frame (hG : ∀ g, low 0 (G g)) (L : Lies π h1 h) (la : lowL h1.length args) (fit : Fits π h1.length h K1) {o : Oper} (q : OpTri P G o args h1 K1) : OpTri P G o (renL π args) h (inGreat π h K1) := fun a w hd p R hdf ok ha =>
 Oper.wp_mono (fun _ _ ⟨v, e, q⟩ => ⟨v, e, q.frame ok hG L fit⟩) (q a w _ p R hdf (L.ok ok hG) (Zb0 (L.une ok) ok.len (fun _ _ h => h) _ _ la ha))
theorem Does.frame (hG : ∀ g, low 0 (G g)) (L : Lies π h1 h) (la : lowL h1.length args) (fit : Fits π h1.length h K1) {f : FuncId} (q : Does P G f h1 args K1) : Does P G f h (renL π args) (inGreat π h K1) := Uw.2 fun w hd p vs ok ha =>
 (Uw.1 q w _ p vs (L.ok ok hG) (Zb0 (L.une ok) ok.len (fun _ _ h => h) _ _ la ha)).mono fun _ _ ⟨v, e, q⟩ => ⟨v, e, q.frame ok hG L fit⟩
end
def holes (c : Nat) : List Ob := Z9 c .hole
theorem Ok.holes {w : World} {hd : List Value} {p : Nat → Bool} (o : Ok G w hd h p) (c : Nat) : Ok G w (hd ++ Z9 c .nilFunc) (h ++ Go.Proofs.YtbhkcbidcfofiaaGreat.holes c) p ∧ Evo w hd h p w (hd ++ Z9 c .nilFunc) (h ++ Go.Proofs.YtbhkcbidcfofiaaGreat.holes c) p := by
 have hol : ∀ {i : Nat} {ob : Ob}, (h ++ Go.Proofs.YtbhkcbidcfofiaaGreat.holes c)[i]? = some ob → h[i]? = some ob ∨ (h.length ≤ i ∧ ob = .hole) := fun {i ob} q => by
  rcases Zc i h.length with hi | hi
  · rw [Z1 hi] at q; exact .inl q
  · rw [Zd hi] at q
    exact .inr ⟨hi, (List.mem_replicate.1 (List.mem_of_getElem? q)).2⟩
 have old : ∀ {i : Nat} {ob : Ob} {u : Value}, (h ++ Go.Proofs.YtbhkcbidcfofiaaGreat.holes c)[i]? = some ob → ob.live = true → (hd ++ Z9 c Value.nilFunc)[i]? = some u → h[i]? = some ob ∧ hd[i]? = some u := fun {i ob u} q l r => by
  rcases hol q with h' | ⟨_, rfl⟩
  · exact ⟨h', by rwa [Z1 (by rw [o.len]; exact (Z0.1 h').1)] at r⟩
  · cases l
 have e : Evo w hd h p w (hd ++ Z9 c .nilFunc) (h ++ Go.Proofs.YtbhkcbidcfofiaaGreat.holes c) p := by
  refine ⟨⟨rfl, Ze _⟩, rfl, rfl, Ze _, fun _ _ _ => rfl, fun _ _ q => q, fun _ _ q => .inl q, fun b _ ⟨i, ob, u, q1, q2, q3, q4⟩ => ?_, by simp, fun i B q => ?_, fun i B q => ?_, fun _ q => q.app, fun i E k xs hu q => ?_⟩
  · obtain ⟨h1, h2⟩ := old q1 q2 q3
    exact ⟨i, ob, u, h1, q2, h2, q4⟩
  · rw [Z1 (Z0.1 q).1]; exact q
  · rw [Z1 (Z0.1 q).1]; exact q
  · rw [Z1 hu.lt] at q
    exact ⟨E, xs, q, Ze _, fun _ => by rw [Z1 (by rw [o.len]; exact hu.lt)]⟩
 refine ⟨⟨by simp [o.len, Go.Proofs.YtbhkcbidcfofiaaGreat.holes], fun i ob u q1 q2 => ?_, fun i j oi oj ui uj b q1 q2 l1 l2 r1 r2 => ?_, Zb5 e o, Zb7 e o⟩, e⟩
 · rcases hol q1 with h' | ⟨hi, rfl⟩
   · rw [Z1 (by rw [o.len]; exact (Z0.1 h').1)] at q2
     exact (o.ob i ob u h' q2).move e o (fun _ _ _ => rfl) fun _ _ _ q => q
   · rw [Zd (by rw [o.len]; exact hi)] at q2
     exact (List.mem_replicate.1 (List.mem_of_getElem? q2)).2
 · obtain ⟨a1, a2⟩ := old q1 l1 r1
   obtain ⟨c1, c2⟩ := old q2 l2 r2
   exact o.inj i j oi oj ui uj b a1 c1 l1 l2 a2 c2
theorem Post.before {w w' : World} {hd hd' : List Value} {h h' : List Ob} {p p' : Nat → Bool} (e : Evo w hd h p w hd' h' p') {K : List Ob → D → Prop} {v : Value} (q : Post G w hd' h' p' K v w') : Post G w hd h p K v w' := by
 obtain ⟨hd2, h2, r, p2, k, o, q, e2⟩ := q
 exact ⟨hd2, h2, r, p2, k, o, q, e.trans e2⟩
theorem Does.holes {f : FuncId} {args : List D} {K : List Ob → D → Prop} (c : Nat) (q : Does P G f (h ++ Go.Proofs.YtbhkcbidcfofiaaGreat.holes c) args K) : Does P G f h args K := Uw.2 fun w hd p vs ok ha => by
 obtain ⟨ok2, e⟩ := ok.holes c
 exact (Uw.1 q w _ p vs ok2 (e.rdL ok ha)).mono fun _ _ ⟨v, e1, q⟩ => ⟨v, e1, q.before e⟩
theorem Sit_holes {B : Base} {a : Act} {w : World} (c : Nat) (r : Sit G B ⟨n, e, h⟩ a w) : Sit G B ⟨n, e, h ++ holes c⟩ a w := by
 obtain ⟨hd, p, r⟩ := r
 obtain ⟨o, ev⟩ := r.ok.holes c
 exact ⟨_, p, o, r.evo.trans ev, fun t => ev.rd r.ok (r.tmp t), r.size, r.defers⟩
structure Ef where
 R : List (Nat × Ob)
 W : List (Nat × Ob)
 d : D
def Ef.ok (E : Ef) (h : List Ob) : Prop := ∀ x ∈ E.R, h[x.1]? = some x.2
def Ef.heap (E : Ef) (h : List Ob) : List Ob := Yv h E.W
def Ef.fit (E : Ef) : Prop := ∀ x ∈ E.W, ∃ y ∈ E.R, y.1 = x.1
def nopF : Ef := ⟨[], [], .v undef⟩
def YT (P : Program) (G : Nat → D) (o : Oper) (args : List D) (E : Ef) : Prop := E.fit ∧ ∀ h, E.ok h → OpTri P G o args h (fun h' r => h' = E.heap h ∧ r = E.d)
def YDT (P : Program) (G : Nat → D) (ops : Array Oper) (o : Oper) (E : Ef) (e : Nat → D) : Prop := (Yc ops o.guard e = some true ∧ YT P G o ((opds o.op).map (ev G e)) E) ∨ (Yc ops o.guard e = some false ∧ E = nopF)
theorem YDT.fit {o : Oper} {E : Ef} (q : YDT P G ops o E e) : E.fit := by
 rcases q with ⟨_, q⟩ | ⟨_, rfl⟩
 · exact q.1
 · simp [nopF, Ef.fit]
theorem YDT.congr {o : Oper} {E : Ef} {dst : Option Nat} {v : D} (q : ∀ t, dst = some t → t ∉ o.looksAt ops) : YDT P G ops o E (putE n e dst v) ↔ YDT P G ops o E e := by
 have key : (opds o.op).map (ev G (putE n e dst v)) = (opds o.op).map (ev G e) := List.map_congr_left fun x hx => Yk8 fun t ht => Zg9 (q t ht) x (by unfold opds at hx; simpa using hx)
 unfold YDT
 rw [Za2 q, key]
def compF (E F : Ef) : Prop := (∀ x ∈ E.W, ∀ y ∈ F.R, x.1 ≠ y.1) ∧ (∀ x ∈ F.W, ∀ y ∈ E.R, x.1 ≠ y.1)
theorem compF.symm {E F : Ef} (q : compF E F) : compF F E := ⟨q.2, q.1⟩
theorem Ef.heap_len (E : Ef) (h : List Ob) : (E.heap h).length = h.length := Vs _ _
theorem Ef.ok_after {E F : Ef} (c : compF E F) : F.ok (E.heap h) ↔ F.ok h := by
 constructor <;> intro q y hy <;> have := q y hy <;> unfold Ef.heap at * <;> rw [Zg2 _ _ fun x hx => c.1 x hx y hy] at * <;> exact this
theorem Ef.heap_comm {E F : Ef} (c : compF E F) (fF : F.fit) : F.heap (E.heap h) = E.heap (F.heap h) := Zi3 E.W F.W h fun x hx y hy => by
 obtain ⟨z, hz, he⟩ := fF y hy
 rw [← he]; exact c.1 x hx z hz
def afOp (P : Program) (G : Nat → D) (n : Nat) (ops : Array Oper) (ef : Nat → Ef) (i : Nat) (K : (Nat → D) → List Ob → Prop) (e : Nat → D) (h : List Ob) : Prop := match ops[i]? with
 | none => K e h
 | some o => YDT P G ops o (ef i) e ∧ (ef i).ok h ∧ K (putE n e o.dst (ef i).d) ((ef i).heap h)
def afAny (P : Program) (G : Nat → D) (n : Nat) (md : Region.Mode) (ops : Array Oper) (ef : Nat → Ef) (Q : (Nat → D) → List Ob → Prop) : Nat → Array Bool → (Nat → D) → List Ob → Prop
 | 0, listed, e, h => Region.ready md ops listed = [] ∧ Q e h
 | fuel + 1, listed, e, h => (Region.ready md ops listed = [] → Q e h) ∧ ∀ i ∈ Region.ready md ops listed, afOp P G n ops ef i (afAny P G n md ops ef Q fuel (listed.setIfInBounds i true)) e h
theorem Yb1 {ef : Nat → Ef} {Q : (Nat → D) → List Ob → Prop} {i : Nat} {oi : Oper} (hi : ops[i]? = some oi) : ∀ (fuel : Nat) (listed : Array Bool) (e : Nat → D) (h : List Ob), Closed md ops listed →
 (∀ j oj, ops[j]? = some oj → j ≠ i → listed.getD j true = false → (∀ e ∈ oj.after, Region.binds md e = true → e.on ≠ i) → (∀ k, twB md ops k j i = false) → oi.apart ops oj = true ∧ compF (ef i) (ef j)) →
 i ∈ Region.ready md ops listed → YDT P G ops oi (ef i) e → (ef i).ok h → afAny P G n md ops ef Q fuel (listed.setIfInBounds i true) (putE n e oi.dst (ef i).d) ((ef i).heap h) → afAny P G n md ops ef Q (fuel + 1) listed e h := by
  intro fuel
  induction fuel with
  | zero =>
    intro listed a h _ _ hr hy hk H
    refine ⟨fun h => (by rw [h] at hr; cases hr), fun j hj => ?_⟩
    by_cases hji : j = i
    · subst hji; unfold afOp; simp only [hi]; exact ⟨hy, hk, H⟩
    · have := ready_mono hj hji
      rw [H.1] at this
      cases this
  | succ fuel ih =>
    intro listed a h hcl hfree hr hy hk H
    refine ⟨fun h => (by rw [h] at hr; cases hr), fun j hj => ?_⟩
    by_cases hji : j = i
    · subst hji; unfold afOp; simp only [hi]; exact ⟨hy, hk, H⟩
    · have h1 := H.2 j (ready_mono hj hji)
      obtain ⟨hjun, oj, hoj, hall⟩ := mem_ready.1 hj
      have hnot : ∀ e ∈ oj.after, Region.binds md e = true → e.on ≠ i := fun e he hb heq => by
        have h1 := hall e he hb
        have h0 := (mem_ready.1 hr).1
        rw [heq] at h1
        rcases Zc i listed.size with h' | h'
        · simp [h'] at h0 h1; rw [h0] at h1; cases h1
        · simp [Z8 h'] at h1
      have hnt : ∀ k, twB md ops k j i = false := fun k => by
       cases ht : twB md ops k j i with
       | false => rfl
       | true =>
        have h1 := Yg4 hcl (Z4.1 hi).1 k j oj hoj hall ht
        have h0 := (mem_ready.1 hr).1
        rw [Z2] at h0 h1
        cases hl : listed[i]? with
        | none => rw [hl] at h0; cases h0
        | some b => rw [hl] at h0 h1; simp at h0 h1; rw [h0] at h1; cases h1
      obtain ⟨hap, hc⟩ := hfree j oj hoj hji hjun hnot hnt
      obtain ⟨a1, a2, a3⟩ := Oper.apart_spec hap
      unfold afOp at h1 ⊢
      simp only [hoj] at h1 ⊢
      obtain ⟨y1, y2, y3⟩ := h1
      have yj : YDT P G ops oj (ef j) a := (YDT.congr a1).1 y1
      have kj : (ef j).ok h := (Ef.ok_after hc).1 y2
      have ki : (ef i).ok ((ef j).heap h) := (Ef.ok_after hc.symm).2 hk
      have hfree' : ∀ k ok, ops[k]? = some ok → k ≠ i → (listed.setIfInBounds j true).getD k true = false →
          (∀ e ∈ ok.after, Region.binds md e = true → e.on ≠ i) → (∀ f, twB md ops f k i = false) → oi.apart ops ok = true ∧ compF (ef i) (ef k) := fun k ok hk hki hun hno hnt => by
        refine hfree k ok hk hki ?_ hno hnt
        by_cases hjk : j = k
        · subst hjk; exact hjun
        · rw [getD_set_ne true hjk] at hun; exact hun
      refine ⟨yj, kj, ih (listed.setIfInBounds j true) _ _ (hcl.set hj) hfree' (ready_mono hr (Ne.symm hji)) ((YDT.congr a3).2 hy) ki ?_⟩
      rw [Zf _ _ hji]
      rw [← Ef.heap_comm hc yj.fit, ← Zw8 a2]
      exact y3
def efOk (md : Region.Mode) (ops : Array Oper) (ef : Nat → Ef) : Prop := ∀ i j oj, i < j → ops[j]? = some oj → (∀ e ∈ oj.after, Region.binds md e = true → e.on ≠ i) → (∀ k, twB md ops k j i = false) → compF (ef i) (ef j)
def af (P : Program) (G : Nat → D) (n : Nat) (ops : Array Oper) (ef : Nat → Ef) (Q : (Nat → D) → List Ob → Prop) : Nat → List Oper → (Nat → D) → List Ob → Prop
 | _, [], e, h => Q e h
 | k, o :: rest, e, h => YDT P G ops o (ef k) e ∧ (ef k).ok h ∧ af P G n ops ef Q (k + 1) rest (putE n e o.dst (ef k).d) ((ef k).heap h)
theorem afAny_lex {ef : Nat → Ef} {Q : (Nat → D) → List Ob → Prop} (hE : efOk md ops ef) : ∀ (l : List Oper) (k : Nat) (listed : Array Bool) (e : Nat → D) (h : List Ob), Closed md ops listed → (∀ j, j < k → listed.getD j true = true) → (∀ j, l[j]? = ops[k + j]?) → Region.lexFrom md ops l.length k listed = true → af P G n ops ef Q k l e h → afAny P G n md ops ef Q l.length listed e h
 | [], _, _, _, _, _, _, _, hB, q => ⟨by simpa [Region.lexFrom] using hB, q⟩
 | o :: l, k, listed, e, h, hcl, hdone, hl, hB, q => by
    have h0 : ops[k]? = some o := by simpa using (hl 0).symm
    simp only [List.length_cons, Region.lexFrom, Z7] at hB
    obtain ⟨⟨hr, hf⟩, hB'⟩ := hB
    obtain ⟨hy, hk, hK⟩ := q
    have hfr := Region.free_spec h0 hf
    refine Yb1 h0 l.length listed e h hcl (fun j oj hj hjk hun hno hnt => ⟨hfr j oj hj hjk hun hno, ?_⟩) (by simpa using hr) hy hk
      (afAny_lex hE l (k + 1) _ _ _ (hcl.set (by simpa using hr)) (fun j hj => ?_) (fun j => by have := hl (j + 1); simpa [Nat.add_assoc, Nat.add_comm 1 j] using this) hB' hK)
    · have hlt : k < j := by
       rcases Zc j k with h' | h'
       · rw [hdone j h'] at hun; cases hun
       · omega
      exact hE k j oj hlt hj hno hnt
    · by_cases hjk : k = j
      · subst hjk
        rw [Z2, Z6]
        simp only [if_true]
        split <;> rfl
      · rw [getD_set_ne true hjk]; exact hdone j (by omega)
section
variable {B : Base} {a : Act} {w : World}
theorem tri_sound {o : Oper} {h' : List Ob} {d : D} {K : Act → World → Prop} {R : Exit → Act → World → Prop} (q : OpTri P G o ((opds o.op).map (ev G e)) h (fun h1 d1 => h1 = h' ∧ d1 = d)) (r : Sit G B ⟨n, e, h⟩ a w) (k : ∀ a' w', Sit G B ⟨n, putE n e o.dst d, h'⟩ a' w' → K a' w') : o.wp P a w K R := by
 obtain ⟨hd, p, r⟩ := r
 refine Oper.wp_mono ?_ (q a w hd p R r.defers r.ok (Zp6 r _))
 rintro a' w' ⟨v, rfl, hd', h'', d', p', ⟨rfl, rfl⟩, o', q', ev'⟩
 have := r.put o' ev' q' o.dst
 rw [J9] at this
 exact k _ _ ⟨hd', p', this⟩
theorem Uy {ef : Nat → Ef} {Q : (Nat → D) → List Ob → Prop} {R : Exit → Act → World → Prop} (k : ∀ e h a w, Q e h → Sit G B ⟨n, e, h⟩ a w → R .normal a w) : ∀ (fuel : Nat) (listed : Array Bool) (e : Nat → D) (h : List Ob) (a : Act) (w : World), Sit G B ⟨n, e, h⟩ a w → afAny P G n md ops ef Q fuel listed e h → wpAny P md ops R fuel listed a w
 | 0, _, _, _, _, _, r, q => ⟨q.1, k _ _ _ _ q.2 r⟩
 | fuel + 1, listed, e, h, a, w, r, q => ⟨fun h0 => k _ _ _ _ (q.1 h0) r, fun i hi => by
   have q2 := q.2 i hi
   unfold afOp at q2
   unfold wpOp
   split
   · rename_i ho; rw [ho] at q2; exact Uy k fuel _ _ _ _ _ r q2
   · rename_i o ho
     rw [ho] at q2
     obtain ⟨hy, hk, hn⟩ := q2
     obtain ⟨hd, p, r'⟩ := id r
     rcases hy with ⟨hw, _, hs⟩ | ⟨hw, hE⟩
     · have hw' := X4 (o := o) r' hw
       rw [if_pos hw']
       exact .inl (tri_sound (hs h hk) r fun a' w' r2 => Uy k fuel _ _ _ _ _ r2 hn)
     · have hw' := X4 (o := o) r' hw
       rw [if_neg (by rw [hw']; decide)]
       rw [hE] at hn
       have r3 := r'.put0 (d := .v undef) (v := undef) (by rw [rd]) o.dst
       rw [J9] at r3
       exact Uy k fuel _ _ _ _ _ ⟨hd, p, r3⟩ hn⟩
end
theorem aw_drawF {id : Nat} {l : List Oper} {Q : Exit → S → Prop} {ef : Nat → Ef} (hm : P.follows .mixedOrders = true) (hB : Region.lexB .any l.toArray = true) (hE : efOk .any l.toArray ef) (H : af P G n l.toArray ef (fun e h => Q .normal ⟨n, e, h⟩) 0 l e h) : aw P G (.region id l.toArray true) Q ⟨n, e, h⟩ := fun B a w r => by
 obtain ⟨hd, p, r⟩ := r
 have hdr := r.ok.drew
 have r' : Sit G B ⟨n, e, h⟩ a { w with drawn := w.drawn + 1 } := ⟨hd, p, hdr.1, r.evo.trans hdr.2, fun t => hdr.2.rd r.ok (r.tmp t), r.size, r.defers⟩
 simp only [Region.lexB, Z7] at hB
 refine wp_region_any hm (Uy (ef := ef) (Q := fun e h => Q .normal ⟨n, e, h⟩) (fun e h a w q r => ⟨_, q, r⟩) _ _ _ _ _ _ r' ?_)
 have := afAny_lex (P := P) (G := G) (n := n) (md := .any) (ops := l.toArray) (Q := fun e h => Q .normal ⟨n, e, h⟩) hE l 0 (Array.replicate l.toArray.size false) e h (fun j oj hj hl => by
  have hlt := (Z4.1 hj).1
  rw [Z2, Zg, if_pos hlt] at hl
  cases hl) (fun j hj => by omega) (by simp) (by simpa using hB.2) H
 simpa using this
theorem aw_holes {c : Code} {Q : Exit → S → Prop} (k : Nat) (q : aw P G c Q ⟨n, e, h ++ holes k⟩) : aw P G c Q ⟨n, e, h⟩ := fun B a w r => q B a w (Sit_holes k r)
theorem ao_tri {o : Oper} {rest : List Oper} {Q : S → Prop} {h' : List Ob} {d : D} (hw : Yc ops o.guard e = some true) (q : OpTri P G o ((opds o.op).map (ev G e)) h (fun h1 d1 => h1 = h' ∧ d1 = d)) (k : ao P G ops rest Q ⟨n, putE n e o.dst d, h'⟩) : ao P G ops (o :: rest) Q ⟨n, e, h⟩ := by
 rintro B a w r R hR
 obtain ⟨hd, p, r'⟩ := id r
 unfold wpList
 rw [if_pos (X4 (o := o) r' hw)]
 exact .inl (tri_sound q r fun a' w' r2 => k B a' w' r2 R hR)
theorem ao_triN {o : Oper} {rest : List Oper} {Q : S → Prop} (hw : Yc ops o.guard e = some false) (k : ao P G ops rest Q ⟨n, putE n e o.dst (.v undef), h⟩) : ao P G ops (o :: rest) Q ⟨n, e, h⟩ := by
 obtain ⟨dst, op, ty, pos, aft, gd⟩ := o
 exact ao_skip hw (by rw [J9]; exact k)
end
section
set_option linter.unusedSectionVars false
theorem bqT {a b : Nat} (q : Z5 a b = true) : a = b := Za q
theorem bqF {a b : Nat} (q : Z5 a b = false) : a ≠ b := Nat.ne_of_beq_eq_false q
theorem bqE (a b : Nat) : Z5 a b = decide (a = b) := by
 cases h : Z5 a b
 · rw [decide_eq_false (bqF h)]
 · rw [decide_eq_true (bqT h)]
inductive Tr where
 | leaf
 | node (d : D) (l r : Tr)
def Tr.get : Tr → Nat → D
 | .leaf, _ => .any
 | .node d l r, i => bif Z5 i 0 then d else bif Z5 (i % 2) 1 then l.get (i / 2) else r.get (i / 2 - 1)
def Tr.set : Nat → Tr → Nat → D → Tr
 | 0, t, _, _ => t
 | k + 1, .leaf, i, d => bif Z5 i 0 then .node d .leaf .leaf else bif Z5 (i % 2) 1 then .node .any (Tr.set k .leaf (i / 2) d) .leaf else .node .any .leaf (Tr.set k .leaf (i / 2 - 1) d)
 | k + 1, .node d0 l r, i, d => bif Z5 i 0 then .node d l r else bif Z5 (i % 2) 1 then .node d0 (Tr.set k l (i / 2) d) r else .node d0 l (Tr.set k r (i / 2 - 1) d)
theorem Tr.get_set : ∀ (k : Nat) (t : Tr) (i : Nat) (d : D) (j : Nat), i + 1 < 2 ^ k → (Tr.set k t i d).get j = if j = i then d else t.get j := by
 have bq := bqE
 intro k
 induction k with
 | zero => intro t i d j h; simp at h
 | succ k ih =>
  intro t i d j h
  have h2 : i + 1 < 2 * 2 ^ k := by rw [Nat.pow_succ] at h; omega
  have key : ∀ (d0 : D) (l r : Tr), (bif Z5 i 0 then Tr.node d l r else bif Z5 (i % 2) 1 then .node d0 (Tr.set k l (i / 2) d) r else .node d0 l (Tr.set k r (i / 2 - 1) d)).get j = if j = i then d else (Tr.node d0 l r).get j := fun d0 l r => by
   simp only [bq]
   by_cases h0 : i = 0
   · subst h0
     by_cases hj : j = 0 <;> simp [hj, Tr.get, bq]
   · by_cases h1 : i % 2 = 1
     · simp only [h0, h1, decide_false, decide_true, cond_false, cond_true, Tr.get, bq]
       rw [ih l (i / 2) d (j / 2) (by omega)]
       by_cases hj0 : j = 0
       · subst hj0; simp [Ne.symm h0]
       · by_cases hj1 : j % 2 = 1
         · simp only [hj0, hj1, decide_false, decide_true, cond_false, cond_true]
           by_cases hji : j = i
           · subst hji; simp
           · rw [if_neg (by omega), if_neg hji]
         · simp only [hj0, hj1, decide_false, cond_false]
           rw [if_neg (by omega)]
     · simp only [h0, h1, decide_false, cond_false, Tr.get, bq]
       rw [ih r (i / 2 - 1) d (j / 2 - 1) (by omega)]
       by_cases hj0 : j = 0
       · subst hj0; simp [Ne.symm h0]
       · by_cases hj1 : j % 2 = 1
         · simp only [hj0, hj1, decide_false, decide_true, cond_false, cond_true]
           rw [if_neg (by omega)]
         · simp only [hj0, hj1, decide_false, cond_false]
           by_cases hji : j = i
           · subst hji; simp
           · rw [if_neg (by omega), if_neg hji]
  cases t with
  | leaf =>
   rw [Tr.set]
   have := key .any .leaf .leaf
   have e1 : ∀ x, Tr.get .leaf x = .any := fun _ => rfl
   have e2 : (Tr.node .any .leaf .leaf).get j = Tr.get .leaf j := by simp only [Tr.get]; cases Z5 j 0 <;> cases Z5 (j % 2) 1 <;> rfl
   rw [e2] at this; exact this
  | node d0 l r => rw [Tr.set]; exact key d0 l r
/-! The names that a datum bears. -/
mutual
def refs : D → List Nat
 | .any | .v _ | .e0 => []
 | .sl _ xs => refsR xs
 | .agg ds | .tup ds | .rp ds | .fn _ ds => refsL ds
 | .ptr i _ | .buf i _ | .bp i _ _ _ | .win i _ _ _ | .arr i _ _ _ _ | .mp i => [i]
def refsL : List D → List Nat
 | [] => []
 | d :: t => match refs d with
  | [] => refsL t
  | a :: l => a :: l ++ refsL t
def refsR : List (List D) → List Nat
 | [] => []
 | d :: t => match refsL d with
  | [] => refsR t
  | a :: l => a :: l ++ refsR t
end
def refsOb : Ob → List Nat
 | .cells ds => refsL ds
 | .buf _ _ xs => refsR xs
 | .map es _ => refsL (es.map (·.2.2))
 | .iter m _ _ _ => [m]
 | .hole | .dead => []
def memN (i : Nat) : List Nat → Bool
 | [] => false
 | a :: t => bif Z5 a i then true else memN i t
def addR (R : List Nat) : List Nat → List Nat
 | [] => R
 | i :: t => bif memN i R then addR R t else addR (R ++ [i]) t
def closeR (h : List Ob) : Nat → Nat → List Nat → List Nat
 | 0, _, R => R
 | k + 1, j, R => match R[j]? with
  | none => R
  | some i => match h[i]? with
   | some ob => closeR h k (j + 1) (addR R (refsOb ob))
   | none => closeR h k (j + 1) R
def pos (i : Nat) : List Nat → Option Nat
 | [] => none
 | a :: t => bif Z5 a i then some 0 else match pos i t with
  | some j => some (j + 1)
  | none => none
theorem Ja {i : Nat} : ∀ (R : List Nat) (j : Nat), pos i R = some j → R[j]? = some i
 | [], _, q => by simp [pos] at q
 | a :: t, j, q => by
  rw [pos] at q
  cases hb : Z5 a i
  · rw [hb] at q
    simp only [cond_false] at q
    split at q
    · rename_i j' hj; cases q; simpa using Ja t j' hj
    · cases q
  · rw [hb] at q
    simp only [cond_true, Option.some.injEq] at q
    subst q
    simpa using bqT hb
mutual
def rnO (R : List Nat) : D → Option D
 | .any => some .any
 | .v x => some (.v x)
 | .e0 => some .e0
 | .sl k xs => match rnR R xs with
  | some ys => some (.sl k ys)
  | none => none
 | .agg ds => match rnL R ds with
  | some ys => some (.agg ys)
  | none => none
 | .tup ds => match rnL R ds with
  | some ys => some (.tup ys)
  | none => none
 | .rp ds => match rnL R ds with
  | some ys => some (.rp ys)
  | none => none
 | .fn f ds => match rnL R ds with
  | some ys => some (.fn f ys)
  | none => none
 | .ptr i o => match pos i R with
  | some j => some (.ptr j o)
  | none => none
 | .buf i n => match pos i R with
  | some j => some (.buf j n)
  | none => none
 | .bp i n r c => match pos i R with
  | some j => some (.bp j n r c)
  | none => none
 | .win i n a b => match pos i R with
  | some j => some (.win j n a b)
  | none => none
 | .arr i o n c k => match pos i R with
  | some j => some (.arr j o n c k)
  | none => none
 | .mp i => match pos i R with
  | some j => some (.mp j)
  | none => none
def rnL (R : List Nat) : List D → Option (List D)
 | [] => some []
 | d :: t => match rnO R d with
  | some d' => match rnL R t with
   | some t' => some (d' :: t')
   | none => none
  | none => none
def rnR (R : List Nat) : List (List D) → Option (List (List D))
 | [] => some []
 | d :: t => match rnL R d with
  | some d' => match rnR R t with
   | some t' => some (d' :: t')
   | none => none
  | none => none
end
section
variable {R : List Nat} {π : Nat → Nat} (hπ : ∀ k i, R[k]? = some i → π k = i)
include hπ
mutual
theorem Zt0 : ∀ d d', rnO R d = some d' → ren π d' = d ∧ low R.length d'
 | .any, d', q => by rw [rnO] at q; cases q; exact ⟨by rw [ren], by rw [low]; trivial⟩
 | .v x, d', q => by rw [rnO] at q; cases q; exact ⟨by rw [ren], by rw [low]; trivial⟩
 | .e0, d', q => by rw [rnO] at q; cases q; exact ⟨by rw [ren], by rw [low]; trivial⟩
 | .sl k xs, d', q => by
  rw [rnO] at q; split at q
  · rename_i ys hy; cases q; obtain ⟨h1, h2⟩ := Yh2 xs ys hy; exact ⟨by rw [ren, h1], by rw [low]; exact h2⟩
  · cases q
 | .agg xs, d', q => by
  rw [rnO] at q; split at q
  · rename_i ys hy; cases q; obtain ⟨h1, h2⟩ := J7 xs ys hy; exact ⟨by rw [ren, h1], by rw [low]; exact h2⟩
  · cases q
 | .tup xs, d', q => by
  rw [rnO] at q; split at q
  · rename_i ys hy; cases q; obtain ⟨h1, h2⟩ := J7 xs ys hy; exact ⟨by rw [ren, h1], by rw [low]; exact h2⟩
  · cases q
 | .rp xs, d', q => by
  rw [rnO] at q; split at q
  · rename_i ys hy; cases q; obtain ⟨h1, h2⟩ := J7 xs ys hy; exact ⟨by rw [ren, h1], by rw [low]; exact h2⟩
  · cases q
 | .fn f xs, d', q => by
  rw [rnO] at q; split at q
  · rename_i ys hy; cases q; obtain ⟨h1, h2⟩ := J7 xs ys hy; exact ⟨by rw [ren, h1], by rw [low]; exact h2⟩
  · cases q
 | .ptr i o, d', q => by
  rw [rnO] at q; split at q
  · rename_i j hj; cases q; have := Ja _ _ hj; exact ⟨by rw [ren, hπ _ _ this], by rw [low]; exact (Z0.1 this).1⟩
  · cases q
 | .buf i o, d', q => by
  rw [rnO] at q; split at q
  · rename_i j hj; cases q; have := Ja _ _ hj; exact ⟨by rw [ren, hπ _ _ this], by rw [low]; exact (Z0.1 this).1⟩
  · cases q
 | .bp i n r c, d', q => by
  rw [rnO] at q; split at q
  · rename_i j hj; cases q; have := Ja _ _ hj; exact ⟨by rw [ren, hπ _ _ this], by rw [low]; exact (Z0.1 this).1⟩
  · cases q
 | .win i n r c, d', q => by
  rw [rnO] at q; split at q
  · rename_i j hj; cases q; have := Ja _ _ hj; exact ⟨by rw [ren, hπ _ _ this], by rw [low]; exact (Z0.1 this).1⟩
  · cases q
 | .arr i n r c k, d', q => by
  rw [rnO] at q; split at q
  · rename_i j hj; cases q; have := Ja _ _ hj; exact ⟨by rw [ren, hπ _ _ this], by rw [low]; exact (Z0.1 this).1⟩
  · cases q
 | .mp i, d', q => by
  rw [rnO] at q; split at q
  · rename_i j hj; cases q; have := Ja _ _ hj; exact ⟨by rw [ren, hπ _ _ this], by rw [low]; exact (Z0.1 this).1⟩
  · cases q
theorem J7 : ∀ d d', rnL R d = some d' → renL π d' = d ∧ lowL R.length d'
 | [], d', q => by rw [rnL] at q; cases q; exact ⟨by rw [renL], by rw [lowL]; trivial⟩
 | d :: t, d', q => by
  rw [rnL] at q; split at q
  · rename_i d1 h1
    split at q
    · rename_i t1 h2
      cases q
      obtain ⟨a1, a2⟩ := Zt0 d d1 h1
      obtain ⟨b1, b2⟩ := J7 t t1 h2
      exact ⟨by rw [renL, a1, b1], by rw [lowL]; exact ⟨a2, b2⟩⟩
    · cases q
  · cases q
theorem Yh2 : ∀ d d', rnR R d = some d' → renR π d' = d ∧ lowR R.length d'
 | [], d', q => by rw [rnR] at q; cases q; exact ⟨by rw [renR], by rw [lowR]; trivial⟩
 | d :: t, d', q => by
  rw [rnR] at q; split at q
  · rename_i d1 h1
    split at q
    · rename_i t1 h2
      cases q
      obtain ⟨a1, a2⟩ := J7 d d1 h1
      obtain ⟨b1, b2⟩ := Yh2 t t1 h2
      exact ⟨by rw [renR, a1, b1], by rw [lowR]; exact ⟨a2, b2⟩⟩
    · cases q
  · cases q
end
end
def rnE (R : List Nat) : List (Value × Nat × D) → Option (List (Value × Nat × D))
 | [] => some []
 | (x, b, d) :: t => match rnO R d with
  | some d' => match rnE R t with
   | some t' => some ((x, b, d') :: t')
   | none => none
  | none => none
def rnOb (R : List Nat) : Ob → Option Ob
 | .cells ds => match rnL R ds with
  | some ys => some (.cells ys)
  | none => none
 | .buf e k xs => match rnR R xs with
  | some ys => some (.buf e k ys)
  | none => none
 | .map es c => match rnE R es with
  | some ys => some (.map ys c)
  | none => none
 | .iter m s l a => match pos m R with
  | some j => some (.iter j s l a)
  | none => none
 | .hole => some .hole
 | .dead => some .dead
def rnH (R : List Nat) (h : List Ob) : List Nat → Option (List Ob)
 | [] => some []
 | i :: t => match h[i]? with
  | some ob => match rnOb R ob with
   | some ob' => match rnH R h t with
    | some l => some (ob' :: l)
    | none => none
   | none => none
  | none => none
def Jr : List Nat → Bool
 | [] => true
 | a :: t => bif memN a t then false else Jr t
theorem Zt7 {i : Nat} : ∀ l, memN i l = true ↔ i ∈ l
 | [] => by simp [memN]
 | a :: t => by
  rw [memN]
  cases hb : Z5 a i
  · have h2 : a ≠ i := bqF hb
    simp [Zt7 t, Ne.symm h2]
  · have h2 : a = i := bqT hb
    simp [h2]
theorem Zj1 : ∀ l, Jr l = true → l.Nodup
 | [], _ => List.nodup_nil
 | a :: t, q => by
  rw [Jr] at q
  cases hm : memN a t
  · rw [hm] at q
    exact List.nodup_cons.2 ⟨fun h => (by rw [(Zt7 t).2 h] at hm; cases hm), Zj1 t q⟩
  · rw [hm] at q; cases q
section
variable {R : List Nat} {π : Nat → Nat} (hπ : ∀ k i, R[k]? = some i → π k = i)
include hπ
theorem rnE_spec : ∀ d d', rnE R d = some d' → (d'.map fun e => (e.1, e.2.1, ren π e.2.2)) = d ∧ lowL R.length (d'.map (·.2.2))
 | [], d', q => by rw [rnE] at q; cases q; exact ⟨rfl, by rw [List.map_nil, lowL]; trivial⟩
 | (x, b, d) :: t, d', q => by
  rw [rnE] at q; split at q
  · rename_i d1 h1
    split at q
    · rename_i t1 h2
      cases q
      obtain ⟨a1, a2⟩ := Zt0 hπ d d1 h1
      obtain ⟨b1, b2⟩ := rnE_spec t t1 h2
      exact ⟨by rw [Zh, b1, a1], by rw [Zh, lowL]; exact ⟨a2, b2⟩⟩
    · cases q
  · cases q
theorem rnOb_spec {ob ob' : Ob} (q : rnOb R ob = some ob') : Va π ob' = ob ∧ lowOb R.length ob' := by
 cases ob <;> rw [rnOb] at q
 case cells ds => split at q
                  · rename_i hy; cases q; obtain ⟨h1, h2⟩ := J7 hπ _ _ hy; exact ⟨by rw [Va, h1], h2⟩
                  · cases q
 case buf e k xs => split at q
                    · rename_i hy; cases q; obtain ⟨h1, h2⟩ := Yh2 hπ _ _ hy; exact ⟨by rw [Va, h1], h2⟩
                    · cases q
 case map es c => split at q
                  · rename_i hy; cases q; obtain ⟨h1, h2⟩ := rnE_spec hπ _ _ hy; exact ⟨by rw [Va, h1], h2⟩
                  · cases q
 case iter m s l a => split at q
                      · rename_i j hj; cases q; have := Ja _ _ hj; exact ⟨by rw [Va, hπ _ _ this], (Z0.1 this).1⟩
                      · cases q
 case hole => cases q; exact ⟨rfl, trivial⟩
 case dead => cases q; exact ⟨rfl, trivial⟩
theorem Zt1 {h : List Ob} : ∀ (l : List Nat) (h1 : List Ob), rnH R h l = some h1 → h1.length = l.length ∧ ∀ (k : Nat) (ob : Ob), h1[k]? = some ob → ∃ i : Nat, l[k]? = some i ∧ h[i]? = some (Va π ob) ∧ lowOb R.length ob
 | [], h1, q => by rw [rnH] at q; cases q; exact ⟨rfl, fun k ob hk => by simp at hk⟩
 | i :: t, h1, q => by
  rw [rnH] at q
  split at q
  rotate_left
  · cases q
  rename_i ob hob
  split at q
  rotate_left
  · cases q
  rename_i ob' hob'
  split at q
  rotate_left
  · cases q
  rename_i l hl
  cases q
  obtain ⟨e1, e2⟩ := Zt1 t l hl
  obtain ⟨f1, f2⟩ := rnOb_spec hπ hob'
  refine ⟨by simp [e1], fun k o hk => ?_⟩
  cases k with
  | zero => simp at hk; subst hk; exact ⟨i, rfl, by rw [f1]; exact hob, f2⟩
  | succ k => simpa using e2 k o (by simpa using hk)
theorem lies_of_rn {h h1 : List Ob} (q : rnH R h R = some h1) (nd : Jr R = true) : h1.length = R.length ∧ Lies π h1 h := by
 obtain ⟨e1, e2⟩ := Zt1 hπ R h1 q
 refine ⟨e1, fun i ob hi => ?_, fun i j hi hj he => ?_, fun ob hob => ?_⟩
 · obtain ⟨x, h2, h3, _⟩ := e2 i ob hi
   rw [hπ _ _ h2]; exact h3
 · have hi' : i < R.length := by omega
   have hj' : j < R.length := by omega
   have h2 := hπ i _ (Z3 hi')
   have h3 := hπ j _ (Z3 hj')
   have : R[i] = R[j] := by rw [← h2, ← h3, he]
   exact (List.getElem_inj (Zj1 R nd)).1 this
 · obtain ⟨i, hi, rfl⟩ := List.getElem_of_mem hob
   obtain ⟨_, _, _, h4⟩ := e2 i _ (Z3 hi)
   rw [e1]; exact h4
end
def plcN (R : List Nat) (L j : Nat) : Nat := match R[j]? with
 | some i => i
 | none => L + (j - R.length)
theorem Vx {R : List Nat} {L : Nat} : ∀ k i, R[k]? = some i → plcN R L k = i := fun k i q => by unfold plcN; rw [q]
theorem Zb2 {R : List Nat} {L k : Nat} (q : R.length ≤ k) : plcN R L k = L + (k - R.length) := by unfold plcN; rw [List.getElem?_eq_none q]
end
end Go.Proofs.YtbhkcbidcfofiaaGreat
