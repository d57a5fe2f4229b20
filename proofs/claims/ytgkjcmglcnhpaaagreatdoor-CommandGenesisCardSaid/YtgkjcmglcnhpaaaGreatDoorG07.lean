/-
  What the statements of the chapter share, part 07: D11, D12, D13, D14, F1.
-/
import Derived.Test.YtgkjcmglcnhpaaaGreatDoorG05
import Derived.Test.YtgkjcmglcnhpaaaGreatDoorG06
set_option linter.unusedVariables false
set_option linter.unusedSimpArgs false
set_option maxRecDepth 100000
set_option maxHeartbeats 8000000
namespace Go.Proofs.YtgkjcmglcnhpaaaGreatDoor
open Go.RowKit
section
variable {P : Program} {G : Nat → D} {n : Nat} {e : Nat → D} {h : List Ob} {ops : Array Oper} {md : Region.Mode}
structure Eff where
 R : List (Nat × Ob)
 W : List (Nat × Ob)
 N : List Ob
 d : Nat → D
def setAll (h : List Ob) : List (Nat × Ob) → List Ob
 | [] => h
 | x :: t => setAll (h.set x.1 x.2) t
theorem setAll_len : ∀ (W : List (Nat × Ob)) (h : List Ob), (setAll h W).length = h.length
 | [], _ => rfl
 | x :: t, h => by rw [setAll, setAll_len t]; simp
theorem setAll_get {i : Nat} : ∀ (W : List (Nat × Ob)) (h : List Ob), (∀ x ∈ W, x.1 ≠ i) → (setAll h W)[i]? = h[i]?
 | [], _, _ => rfl
 | x :: t, h, q => by rw [setAll, setAll_get t _ fun y hy => q y (by simp [hy]), List.getElem?_set_ne (q x (by simp))]
theorem setAll_app : ∀ (W : List (Nat × Ob)) (h N : List Ob), (∀ x ∈ W, x.1 < h.length) → setAll (h ++ N) W = setAll h W ++ N
 | [], _, _, _ => rfl
 | x :: t, h, N, q => by
  rw [setAll, setAll, List.set_append_left _ _ (q x (by simp))]
  exact setAll_app t _ N fun y hy => by rw [List.length_set]; exact q y (by simp [hy])
theorem setAll_set : ∀ (W : List (Nat × Ob)) (h : List Ob) (i : Nat) (ob : Ob), (∀ x ∈ W, x.1 ≠ i) → setAll (h.set i ob) W = (setAll h W).set i ob
 | [], _, _, _, _ => rfl
 | x :: t, h, i, ob, q => by
  rw [setAll, setAll, List.set_comm _ _ (Ne.symm (q x (by simp)))]
  exact setAll_set t _ i ob fun y hy => q y (by simp [hy])
theorem setAll_comm : ∀ (V W : List (Nat × Ob)) (h : List Ob), (∀ x ∈ V, ∀ y ∈ W, x.1 ≠ y.1) → setAll (setAll h V) W = setAll (setAll h W) V
 | [], _, _, _ => rfl
 | x :: t, W, h, q => by
  rw [setAll, setAll, setAll_comm t W _ fun y hy => q y (by simp [hy]), setAll_set W h x.1 x.2 fun y hy => Ne.symm (q x (by simp) y hy)]
def Eff.ok (E : Eff) (h : List Ob) : Prop := ∀ x ∈ E.R, h[x.1]? = some x.2
def Eff.heap (E : Eff) (h : List Ob) : List Ob := setAll h E.W ++ E.N
def Eff.fit (E : Eff) : Prop := (∀ x ∈ E.W, ∃ y ∈ E.R, y.1 = x.1) ∧ (E.N = [] → ∀ m m', E.d m = E.d m')
def nop : Eff := ⟨[], [], [], fun _ => .v undef⟩
def Stp (P : Program) (G : Nat → D) (op : Op) (e : Nat → D) (h h' : List Ob) (d : D) : Prop := aOp P G e h (fun h1 d1 => h1 = h' ∧ d1 = d) op ∨
 ∃ x args tys f cap, op = .call ⟨.value x, args, tys⟩ ∧ ev G e x = .fn f cap ∧ entB P f = true ∧ Does P G f h (args.toList.map (ev G e) ++ cap) (fun h1 r => h1 = h' ∧ r = d)
theorem Stp_congr {op : Op} {e' : Nat → D} {h' : List Ob} {d : D} (key : ∀ x ∈ op.operands, ev G e' x = ev G e x) (k : Stp P G op e h h' d) : Stp P G op e' h h' d := by
 rcases k with k | ⟨x, args, tys, f, cap, e1, e2, e3, e4⟩
 · exact .inl (aOp_congr key k)
 · rw [e1] at key
   have h1 := key x (by simp [Op.operands, Call.operands])
   have h2 : args.toList.map (ev G e') = args.toList.map (ev G e) := List.map_congr_left fun y hy => key y (by simp [Op.operands, Call.operands]; exact .inr (by simpa using hy))
   exact .inr ⟨x, args, tys, f, cap, e1, h1.trans e2, e3, by rw [h2]; exact e4⟩
def YE (P : Program) (G : Nat → D) (op : Op) (e : Nat → D) (E : Eff) : Prop := E.fit ∧ ∀ h, E.ok h → Stp P G op e h (E.heap h) (E.d h.length)
def YDE (P : Program) (G : Nat → D) (ops : Array Oper) (o : Oper) (E : Eff) (e : Nat → D) : Prop := (wantedD ops o.guard e = some true ∧ YE P G o.op e E) ∨ (wantedD ops o.guard e = some false ∧ E = nop)
theorem YDE.fit {o : Oper} {E : Eff} (q : YDE P G ops o E e) : E.fit := by
 rcases q with ⟨_, q⟩ | ⟨_, rfl⟩
 · exact q.1
 · exact ⟨by simp [nop], fun _ _ _ => rfl⟩
theorem YDE.congr {o : Oper} {E : Eff} {dst : Option Nat} {v : D} (q : ∀ t, dst = some t → t ∉ o.looksAt ops) : YDE P G ops o E (putE n e dst v) ↔ YDE P G ops o E e := by
 have key : ∀ x ∈ o.op.operands, ev G (putE n e dst v) x = ev G e x := fun x hx => ev_putE fun t ht => looks_opnd (q t ht) x hx
 unfold YDE
 rw [wantedD_put q]
 exact or_congr (and_congr Iff.rfl ⟨fun ⟨a, b⟩ => ⟨a, fun h k => Stp_congr (fun x hx => (key x hx).symm) (b h k)⟩, fun ⟨a, b⟩ => ⟨a, fun h k => Stp_congr key (b h k)⟩⟩) Iff.rfl
def compat (m0 : Nat) (E F : Eff) : Prop := (∀ x ∈ E.W, ∀ y ∈ F.R, x.1 ≠ y.1) ∧ (∀ x ∈ F.W, ∀ y ∈ E.R, x.1 ≠ y.1) ∧ (E.N = [] ∨ (F.N = [] ∧ ∀ y ∈ F.R, y.1 < m0)) ∧ (F.N = [] ∨ (E.N = [] ∧ ∀ y ∈ E.R, y.1 < m0))
theorem compat.symm {m0 : Nat} {E F : Eff} (q : compat m0 E F) : compat m0 F E := ⟨q.2.1, q.1, q.2.2.2, q.2.2.1⟩
theorem Eff.heap_len (E : Eff) (h : List Ob) : (E.heap h).length = h.length + E.N.length := by unfold Eff.heap; rw [List.length_append, setAll_len]
theorem Eff.wlt {E : Eff} (f : E.fit) {h : List Ob} (k : E.ok h) : ∀ x ∈ E.W, x.1 < h.length := fun x hx => by
 obtain ⟨y, hy, he⟩ := f.1 x hx
 rw [← he]; exact (List.getElem?_eq_some_iff.1 (k y hy)).1
theorem Eff.ok_after {m0 : Nat} {E F : Eff} (c : compat m0 E F) (fE : E.fit) (kE : E.ok h) (kF : F.ok h) : F.ok (E.heap h) := fun y hy => by
 have hlt := (List.getElem?_eq_some_iff.1 (kF y hy)).1
 unfold Eff.heap
 rw [List.getElem?_append_left (by rw [setAll_len]; exact hlt), setAll_get _ _ fun x hx => c.1 x hx y hy]
 exact kF y hy
theorem Eff.ok_before {m0 : Nat} {E F : Eff} (c : compat m0 E F) (hm : m0 ≤ h.length) (kF : F.ok (E.heap h)) : F.ok h := fun y hy => by
 have q := kF y hy
 have hlt : y.1 < h.length := by
  rcases c.2.2.1 with hn | ⟨_, hn⟩
  · have := (List.getElem?_eq_some_iff.1 q).1
    rw [Eff.heap_len, hn] at this; simpa using this
  · exact Nat.lt_of_lt_of_le (hn y hy) hm
 unfold Eff.heap at q
 rwa [List.getElem?_append_left (by rw [setAll_len]; exact hlt), setAll_get _ _ fun x hx => c.1 x hx y hy] at q
theorem Eff.heap_comm {m0 : Nat} {E F : Eff} (c : compat m0 E F) (fE : E.fit) (fF : F.fit) (kE : E.ok h) (kF : F.ok h) : F.heap (E.heap h) = E.heap (F.heap h) := by
 have dis : ∀ x ∈ E.W, ∀ y ∈ F.W, x.1 ≠ y.1 := fun x hx y hy => by
  obtain ⟨z, hz, he⟩ := fF.1 y hy
  rw [← he]; exact c.1 x hx z hz
 unfold Eff.heap
 rw [setAll_app F.W _ _ fun x hx => by rw [setAll_len]; exact Eff.wlt fF kF x hx, setAll_app E.W _ _ fun x hx => by rw [setAll_len]; exact Eff.wlt fE kE x hx, setAll_comm E.W F.W h dis, List.append_assoc, List.append_assoc]
 rcases c.2.2.1 with hn | ⟨hn, _⟩ <;> simp [hn]
theorem Eff.d_after {m0 : Nat} {E F : Eff} (c : compat m0 E F) (fF : F.fit) : F.d (E.heap h).length = F.d h.length := by
 rcases c.2.2.1 with hn | ⟨hn, _⟩
 · rw [Eff.heap_len, hn]; rfl
 · exact fF.2 hn _ _
def aeOp (P : Program) (G : Nat → D) (n : Nat) (ops : Array Oper) (ef : Nat → Eff) (i : Nat) (K : (Nat → D) → List Ob → Prop) (e : Nat → D) (h : List Ob) : Prop := match ops[i]? with
 | none => K e h
 | some o => YDE P G ops o (ef i) e ∧ (ef i).ok h ∧ K (putE n e o.dst ((ef i).d h.length)) ((ef i).heap h)
def aeAny (P : Program) (G : Nat → D) (n : Nat) (md : Region.Mode) (ops : Array Oper) (ef : Nat → Eff) (Q : (Nat → D) → List Ob → Prop) : Nat → Array Bool → (Nat → D) → List Ob → Prop
 | 0, listed, e, h => Region.ready md ops listed = [] ∧ Q e h
 | fuel + 1, listed, e, h => (Region.ready md ops listed = [] → Q e h) ∧ ∀ i ∈ Region.ready md ops listed, aeOp P G n ops ef i (aeAny P G n md ops ef Q fuel (listed.setIfInBounds i true)) e h
def Closed (md : Region.Mode) (ops : Array Oper) (listed : Array Bool) : Prop := ∀ j oj, ops[j]? = some oj → listed.getD j true = true → ∀ e ∈ oj.after, Region.binds md e = true → listed.getD e.on false = true
theorem getD_setT {l : Array Bool} {i j : Nat} {d : Bool} (q : l.getD j d = true) : (l.setIfInBounds i true).getD j d = true := by
 rw [Array.getD_eq_getD_getElem?] at q ⊢
 rw [Array.getElem?_setIfInBounds]
 split
 · rename_i hij
   split
   · rfl
   · rename_i hlt
     rw [Array.getElem?_eq_none (by subst hij; omega)] at q; exact q
 · exact q
theorem Closed.set {listed : Array Bool} {i : Nat} (q : Closed md ops listed) (r : i ∈ Region.ready md ops listed) : Closed md ops (listed.setIfInBounds i true) := fun j oj hj hl e he hb => by
 obtain ⟨hiun, oi, hoi, hall⟩ := mem_ready.1 r
 by_cases hij : i = j
 · subst hij
   rw [hj] at hoi; cases hoi
   exact getD_setT (hall e he hb)
 · rw [getD_set_ne true hij] at hl
   exact getD_setT (q j oj hj hl e he hb)
def twB (md : Region.Mode) (ops : Array Oper) : Nat → Nat → Nat → Bool
 | 0, _, _ => false
 | k + 1, j, i => match ops[j]? with
  | some o => o.after.any fun e => Region.binds md e && (Nat.beq e.on i || (Nat.blt i e.on && twB md ops k e.on i))
  | none => false
theorem twB_spec {listed : Array Bool} {i : Nat} (q : Closed md ops listed) (hi : i < ops.size) : ∀ (k j : Nat) (oj : Oper), ops[j]? = some oj → (∀ e ∈ oj.after, Region.binds md e = true → listed.getD e.on false = true) → twB md ops k j i = true → listed.getD i false = true
 | 0, _, _, _, _, h => by rw [twB] at h; cases h
 | k + 1, j, oj, hj, hd, h => by
  rw [twB, hj] at h
  simp only [Array.any_eq_true'] at h
  obtain ⟨e, he, h⟩ := h
  simp only [Bool.and_eq_true, Bool.or_eq_true] at h
  obtain ⟨hb, h⟩ := h
  have hon := hd e he hb
  rcases h with h | ⟨_, h⟩
  · rw [← Nat.eq_of_beq_eq_true h]; exact hon
  · cases hk : ops[e.on]? with
    | none =>
     cases k with
     | zero => rw [twB] at h; cases h
     | succ k => rw [twB, hk] at h; cases h
    | some ok =>
     refine twB_spec q hi k e.on ok hk (q e.on ok hk ?_) h
     rw [Array.getD_eq_getD_getElem?] at hon ⊢
     cases hl : listed[e.on]? with
     | none => rfl
     | some b => rw [hl] at hon; exact hon
theorem aeAny_first {ef : Nat → Eff} {m0 : Nat} {Q : (Nat → D) → List Ob → Prop} {i : Nat} {oi : Oper} (hi : ops[i]? = some oi) : ∀ (fuel : Nat) (listed : Array Bool) (e : Nat → D) (h : List Ob), m0 ≤ h.length → Closed md ops listed →
 (∀ j oj, ops[j]? = some oj → j ≠ i → listed.getD j true = false → (∀ e ∈ oj.after, Region.binds md e = true → e.on ≠ i) → (∀ k, twB md ops k j i = false) → oi.apart ops oj = true ∧ compat m0 (ef i) (ef j)) →
 i ∈ Region.ready md ops listed → YDE P G ops oi (ef i) e → (ef i).ok h → aeAny P G n md ops ef Q fuel (listed.setIfInBounds i true) (putE n e oi.dst ((ef i).d h.length)) ((ef i).heap h) → aeAny P G n md ops ef Q (fuel + 1) listed e h := by
  intro fuel
  induction fuel with
  | zero =>
    intro listed a h hm _ _ hr hy hk H
    refine ⟨fun h => (by rw [h] at hr; cases hr), fun j hj => ?_⟩
    by_cases hji : j = i
    · subst hji; unfold aeOp; simp only [hi]; exact ⟨hy, hk, H⟩
    · have := ready_mono hj hji
      rw [H.1] at this
      cases this
  | succ fuel ih =>
    intro listed a h hm hcl hfree hr hy hk H
    refine ⟨fun h => (by rw [h] at hr; cases hr), fun j hj => ?_⟩
    by_cases hji : j = i
    · subst hji; unfold aeOp; simp only [hi]; exact ⟨hy, hk, H⟩
    · have h1 := H.2 j (ready_mono hj hji)
      obtain ⟨hjun, oj, hoj, hall⟩ := mem_ready.1 hj
      have hnot : ∀ e ∈ oj.after, Region.binds md e = true → e.on ≠ i := fun e he hb heq => by
        have h1 := hall e he hb
        have h0 := (mem_ready.1 hr).1
        rw [heq] at h1
        rcases Nat.lt_or_ge i listed.size with h' | h'
        · simp [h'] at h0 h1; rw [h0] at h1; cases h1
        · simp [Array.getElem?_eq_none h'] at h1
      have hnt : ∀ k, twB md ops k j i = false := fun k => by
       cases ht : twB md ops k j i with
       | false => rfl
       | true =>
        have h1 := twB_spec hcl (Array.getElem?_eq_some_iff.1 hi).1 k j oj hoj hall ht
        have h0 := (mem_ready.1 hr).1
        rw [Array.getD_eq_getD_getElem?] at h0 h1
        cases hl : listed[i]? with
        | none => rw [hl] at h0; cases h0
        | some b => rw [hl] at h0 h1; simp at h0 h1; rw [h0] at h1; cases h1
      obtain ⟨hap, hc⟩ := hfree j oj hoj hji hjun hnot hnt
      obtain ⟨a1, a2, a3⟩ := Oper.apart_spec hap
      unfold aeOp at h1 ⊢
      simp only [hoj] at h1 ⊢
      obtain ⟨y1, y2, y3⟩ := h1
      have yj : YDE P G ops oj (ef j) a := (YDE.congr a1).1 y1
      have kj : (ef j).ok h := Eff.ok_before hc hm y2
      have ki : (ef i).ok ((ef j).heap h) := Eff.ok_after hc.symm yj.fit kj hk
      have hfree' : ∀ k ok, ops[k]? = some ok → k ≠ i → (listed.setIfInBounds j true).getD k true = false →
          (∀ e ∈ ok.after, Region.binds md e = true → e.on ≠ i) → (∀ f, twB md ops f k i = false) → oi.apart ops ok = true ∧ compat m0 (ef i) (ef k) := fun k ok hk hki hun hno hnt => by
        refine hfree k ok hk hki ?_ hno hnt
        by_cases hjk : j = k
        · subst hjk; exact hjun
        · rw [getD_set_ne true hjk] at hun; exact hun
      refine ⟨yj, kj, ih (listed.setIfInBounds j true) _ _ (by rw [Eff.heap_len]; omega) (hcl.set hj) hfree' (ready_mono hr (Ne.symm hji)) ((YDE.congr a3).2 hy) ki ?_⟩
      rw [Array.setIfInBounds_comm _ _ hji]
      rw [Eff.d_after hc yj.fit] at y3
      rw [Eff.d_after hc.symm hy.fit, ← Eff.heap_comm hc hy.fit yj.fit hk kj, ← putE_comm a2]
      exact y3
def effOk (md : Region.Mode) (m0 : Nat) (ops : Array Oper) (ef : Nat → Eff) : Prop := ∀ i j oj, i < j → ops[j]? = some oj → (∀ e ∈ oj.after, Region.binds md e = true → e.on ≠ i) → (∀ k, twB md ops k j i = false) → compat m0 (ef i) (ef j)
def ae (P : Program) (G : Nat → D) (n : Nat) (ops : Array Oper) (ef : Nat → Eff) (Q : (Nat → D) → List Ob → Prop) : Nat → List Oper → (Nat → D) → List Ob → Prop
 | _, [], e, h => Q e h
 | k, o :: rest, e, h => YDE P G ops o (ef k) e ∧ (ef k).ok h ∧ ae P G n ops ef Q (k + 1) rest (putE n e o.dst ((ef k).d h.length)) ((ef k).heap h)
theorem aeAny_lex {ef : Nat → Eff} {m0 : Nat} {Q : (Nat → D) → List Ob → Prop} (hE : effOk md m0 ops ef) : ∀ (l : List Oper) (k : Nat) (listed : Array Bool) (e : Nat → D) (h : List Ob), m0 ≤ h.length → Closed md ops listed → (∀ j, j < k → listed.getD j true = true) → (∀ j, l[j]? = ops[k + j]?) → Region.lexFrom md ops l.length k listed = true → ae P G n ops ef Q k l e h → aeAny P G n md ops ef Q l.length listed e h
 | [], _, _, _, _, _, _, _, _, hB, q => ⟨by simpa [Region.lexFrom] using hB, q⟩
 | o :: l, k, listed, e, h, hm, hcl, hdone, hl, hB, q => by
    have h0 : ops[k]? = some o := by simpa using (hl 0).symm
    simp only [List.length_cons, Region.lexFrom, Bool.and_eq_true] at hB
    obtain ⟨⟨hr, hf⟩, hB'⟩ := hB
    obtain ⟨hy, hk, hK⟩ := q
    have hfr := Region.free_spec h0 hf
    refine aeAny_first h0 l.length listed e h hm hcl (fun j oj hj hjk hun hno hnt => ⟨hfr j oj hj hjk hun hno, ?_⟩) (by simpa using hr) hy hk
      (aeAny_lex hE l (k + 1) _ _ _ (by rw [Eff.heap_len]; omega) (hcl.set (by simpa using hr)) (fun j hj => ?_) (fun j => by have := hl (j + 1); simpa [Nat.add_assoc, Nat.add_comm 1 j] using this) hB' hK)
    · have hlt : k < j := by
       rcases Nat.lt_or_ge j k with h' | h'
       · rw [hdone j h'] at hun; cases hun
       · omega
      exact hE k j oj hlt hj hno hnt
    · by_cases hjk : k = j
      · subst hjk
        rw [Array.getD_eq_getD_getElem?, Array.getElem?_setIfInBounds]
        simp only [if_true]
        split <;> rfl
      · rw [getD_set_ne true hjk]; exact hdone j (by omega)
end
section
variable {P : Program} {G : Nat → D} {n : Nat} {e : Nat → D} {h : List Ob} {ops : Array Oper} {md : Region.Mode}
section
variable {B : Base} {a : Act} {w : World}
theorem Stp_sound {o : Oper} {h' : List Ob} {d : D} {K : Act → World → Prop} {R : Exit → Act → World → Prop} (q : Stp P G o.op e h h' d) (r : Sit G B ⟨n, e, h⟩ a w) (k : ∀ a' w', Sit G B ⟨n, putE n e o.dst d, h'⟩ a' w' → K a' w') : o.wp P a w K R := by
 obtain ⟨hd, p, r⟩ := r
 obtain ⟨dst, op, ty, pos, aft, gd⟩ := o
 have fin : ∀ (s' : S), s' = S.put ⟨n, e, h'⟩ dst d → s' = ⟨n, putE n e dst d, h'⟩ := fun s' hs => by rw [hs, put_putE]
 rcases q with q | ⟨x, args, tys, f, cap, rfl, e2, e3, e4⟩
 · obtain ⟨v, w', hd', h'', p', d', hr, ⟨rfl, rfl⟩, o', q', ev'⟩ := aOp_sound (dst := dst) (ty := ty) (pos := pos) (aft := aft) (gd := gd) r q
   unfold Oper.wp
   have := r.put o' ev' q' dst
   rw [fin _ rfl] at this
   rcases hr with hr | ⟨hr, rfl⟩
   · rw [hr]; exact k _ _ ⟨hd', p', this⟩
   · rw [hr]; exact k _ _ ⟨hd', p', this⟩
 · have q0 := r.ev x
   rw [e2, rd] at q0
   obtain ⟨cs, e1, q0⟩ := q0
   have hrun : (execOp a.eval ⟨dst, .call ⟨.value x, args, tys⟩, ty, pos, aft, gd⟩).run P w = .ok (.enter f (args.map a.eval ++ cs)) w := by
    simp [execOp, resolve, e1, Deferred.ofValue, invoke, run_enter e3]
   unfold Oper.wp
   rw [hrun, Oper.upon_enter]
   have hargs : rdL hd h (only p w) (args.toList.map (ev G e) ++ cap) (args.toList.map a.eval ++ cs.toList) := rdL_append (rdL_map r _) q0
   have := e4 w hd p _ r.ok hargs
   rw [show (args.toList.map a.eval ++ cs.toList).toArray = args.map a.eval ++ cs by apply Array.ext'; simp] at this
   refine this.mono ?_
   rintro e' w' ⟨v, hd', h'', d', p', rfl, ⟨rfl, rfl⟩, o, q2, ev'⟩
   have := r.put o ev' q2 dst
   rw [fin _ rfl] at this
   exact k _ _ ⟨hd', p', this⟩
theorem aeAny_sound {ef : Nat → Eff} {Q : (Nat → D) → List Ob → Prop} {R : Exit → Act → World → Prop} (k : ∀ e h a w, Q e h → Sit G B ⟨n, e, h⟩ a w → R .normal a w) : ∀ (fuel : Nat) (listed : Array Bool) (e : Nat → D) (h : List Ob) (a : Act) (w : World), Sit G B ⟨n, e, h⟩ a w → aeAny P G n md ops ef Q fuel listed e h → wpAny P md ops R fuel listed a w
 | 0, _, _, _, _, _, r, q => ⟨q.1, k _ _ _ _ q.2 r⟩
 | fuel + 1, listed, e, h, a, w, r, q => ⟨fun h0 => k _ _ _ _ (q.1 h0) r, fun i hi => by
   have q2 := q.2 i hi
   unfold aeOp at q2
   unfold wpOp
   split
   · rename_i ho; rw [ho] at q2; exact aeAny_sound k fuel _ _ _ _ _ r q2
   · rename_i o ho
     rw [ho] at q2
     obtain ⟨hy, hk, hn⟩ := q2
     obtain ⟨hd, p, r'⟩ := id r
     rcases hy with ⟨hw, _, hs⟩ | ⟨hw, hE⟩
     · have hw' := wantedD_sound (o := o) r' hw
       rw [if_pos hw']
       exact .inl (Stp_sound (hs h hk) r fun a' w' r2 => aeAny_sound k fuel _ _ _ _ _ r2 hn)
     · have hw' := wantedD_sound (o := o) r' hw
       rw [if_neg (by rw [hw']; decide)]
       rw [hE] at hn
       have r3 := r'.put0 (d := .v undef) (v := undef) (by rw [rd]) o.dst
       rw [put_putE] at r3
       have hh : nop.heap h = h := by simp [nop, Eff.heap, setAll]
       rw [hh] at hn
       exact aeAny_sound k fuel _ _ _ _ _ ⟨hd, p, r3⟩ hn⟩
end
def waitsB (ops : Array Oper) (j i : Nat) : Bool := match ops[j]? with
 | some _ => twB .any ops (j + 1) j i
 | none => true
def chk1 (m0 : Nat) (ops : Array Oper) (i : Nat) (E : Eff) : Nat → List Eff → Prop
 | _, [] => True
 | j, F :: t => (waitsB ops j i = true ∨ compat m0 E F) ∧ chk1 m0 ops i E (j + 1) t
def chkAll (m0 : Nat) (ops : Array Oper) : Nat → List Eff → Prop
 | _, [] => True
 | i, E :: t => chk1 m0 ops i E (i + 1) t ∧ chkAll m0 ops (i + 1) t
theorem chk1_get {m0 i : Nat} {E : Eff} : ∀ (es : List Eff) (k j : Nat) (F : Eff), chk1 m0 ops i E k es → es[j]? = some F → waitsB ops (k + j) i = true ∨ compat m0 E F
 | [], _, _, _, _, q => by simp at q
 | F :: t, k, 0, F', q, r => by simp at r; subst r; exact q.1
 | F :: t, k, j + 1, F', q, r => by rw [show k + (j + 1) = k + 1 + j by omega]; exact chk1_get t (k + 1) j F' q.2 (by simpa using r)
theorem chkAll_get {m0 : Nat} : ∀ (es : List Eff) (k i j : Nat) (E F : Eff), chkAll m0 ops k es → es[i]? = some E → es[j]? = some F → i < j → waitsB ops (k + j) (k + i) = true ∨ compat m0 E F
 | [], _, _, _, _, _, _, q, _, _ => by simp at q
 | X :: t, k, 0, j, E, F, q, r1, r2, hlt => by
  simp at r1; subst r1
  cases j with
  | zero => omega
  | succ j => rw [show k + (j + 1) = k + 1 + j by omega]; exact chk1_get t (k + 1) j F q.1 (by simpa using r2)
 | X :: t, k, i + 1, j, E, F, q, r1, r2, hlt => by
  cases j with
  | zero => omega
  | succ j =>
   rw [show k + (j + 1) = k + 1 + j by omega, show k + (i + 1) = k + 1 + i by omega]
   exact chkAll_get t (k + 1) i j E F q.2 (by simpa using r1) (by simpa using r2) (by omega)
def aeS (P : Program) (G : Nat → D) (n m0 : Nat) (ops : Array Oper) (Q : (Nat → D) → List Ob → Prop) : List Eff → List Oper → (Nat → D) → List Ob → Prop
 | done, [], e, h => chkAll m0 ops 0 done.reverse ∧ Q e h
 | done, o :: rest, e, h => ∃ E, YDE P G ops o E e ∧ E.ok h ∧ aeS P G n m0 ops Q (E :: done) rest (putE n e o.dst (E.d h.length)) (E.heap h)
theorem aeS_ae {m0 : Nat} {Q : (Nat → D) → List Ob → Prop} : ∀ (rest : List Oper) (done : List Eff) (e : Nat → D) (h : List Ob), aeS P G n m0 ops Q done rest e h →
 ∃ es, (∀ j, j < done.length → es[j]? = done.reverse[j]?) ∧ es.length = done.length + rest.length ∧ chkAll m0 ops 0 es ∧ ae P G n ops (fun k => (es[k]?).getD nop) Q done.length rest e h
 | [], done, e, h, q => ⟨done.reverse, fun _ _ => rfl, by simp, q.1, q.2⟩
 | o :: rest, done, e, h, q => by
  obtain ⟨E, h1, h2, h3⟩ := q
  obtain ⟨es, g1, g2, g3, g4⟩ := aeS_ae rest (E :: done) _ _ h3
  have hE : es[done.length]? = some E := by
   rw [g1 _ (by simp)]; simp
  refine ⟨es, fun j hj => ?_, by simp at g2 ⊢; omega, g3, ?_⟩
  · rw [g1 j (by simp; omega), List.reverse_cons, List.getElem?_append_left (by simpa using hj)]
  · refine ⟨?_, ?_, ?_⟩
    · simp only [hE, Option.getD_some]; exact h1
    · simp only [hE, Option.getD_some]; exact h2
    · simp only [hE, Option.getD_some]
      simpa using g4
theorem aw_drawE {id : Nat} {l : List Oper} {Q : Exit → S → Prop} (hm : P.follows .mixedOrders = true) (hB : Region.lexB .any l.toArray = true) (H : aeS P G n h.length l.toArray (fun e h => Q .normal ⟨n, e, h⟩) [] l e h) : aw P G (.region id l.toArray true) Q ⟨n, e, h⟩ := fun B a w r => by
 obtain ⟨hd, p, r⟩ := r
 have hdr := r.ok.drew
 have r' : Sit G B ⟨n, e, h⟩ a { w with drawn := w.drawn + 1 } := ⟨hd, p, hdr.1, r.evo.trans hdr.2, fun t => hdr.2.rd r.ok (r.tmp t), r.size, r.defers⟩
 simp only [Region.lexB, Bool.and_eq_true] at hB
 obtain ⟨es, _, g2, g3, g4⟩ := aeS_ae l [] e h H
 have hE : effOk .any h.length l.toArray (fun k => (es[k]?).getD nop) := fun i j oj hij hj hno hnt => by
  have hjl : j < es.length := by
   have := (Array.getElem?_eq_some_iff.1 hj).1
   simp at this g2; omega
  rcases chkAll_get es 0 i j _ _ g3 (List.getElem?_eq_getElem (show i < es.length by omega)) (List.getElem?_eq_getElem hjl) hij with hw | hc
  · exfalso
    rw [Nat.zero_add, Nat.zero_add] at hw
    unfold waitsB at hw
    rw [hj] at hw
    have hw : twB .any l.toArray (j + 1) j i = true := hw
    rw [hnt] at hw; cases hw
  · simp only [List.getElem?_eq_getElem (show i < es.length by omega), List.getElem?_eq_getElem hjl, Option.getD_some]
    exact hc
 refine wp_region_any hm (aeAny_sound (ef := fun k => (es[k]?).getD nop) (Q := fun e h => Q .normal ⟨n, e, h⟩) (fun e h a w q r => ⟨_, q, r⟩) _ _ _ _ _ _ r' ?_)
 have := aeAny_lex (P := P) (G := G) (n := n) (md := .any) (ops := l.toArray) (Q := fun e h => Q .normal ⟨n, e, h⟩) hE l 0 (Array.replicate l.toArray.size false) e h (Nat.le_refl _) (fun j oj hj hl => by
  have hlt := (Array.getElem?_eq_some_iff.1 hj).1
  rw [Array.getD_eq_getD_getElem?, Array.getElem?_replicate, if_pos hlt] at hl
  cases hl) (fun j hj => by omega) (by simp) (by simpa using hB.2) g4
 simpa using this
def pureE (d : D) : Eff := ⟨[], [], [], fun _ => d⟩
def readE (i : Nat) (ob : Ob) (d : D) : Eff := ⟨[(i, ob)], [], [], fun _ => d⟩
def writE (i : Nat) (ob ob' : Ob) (d : D) : Eff := ⟨[(i, ob)], [(i, ob')], [], fun _ => d⟩
theorem compat_pl {m0 : Nat} {d : D} {F : Eff} : compat m0 (pureE d) F := ⟨by simp [pureE], by simp [pureE], .inl rfl, .inr ⟨rfl, by simp [pureE]⟩⟩
theorem compat_pr {m0 : Nat} {d : D} {F : Eff} : compat m0 F (pureE d) := compat_pl.symm
theorem compat_rr {m0 i j : Nat} {o o' : Ob} {d d' : D} : compat m0 (readE i o d) (readE j o' d') := ⟨by simp [readE], by simp [readE], .inl rfl, .inl rfl⟩
theorem compat_rw {m0 i j : Nat} {o o' o'' : Ob} {d d' : D} (k : i ≠ j) : compat m0 (readE i o d) (writE j o' o'' d') := ⟨by simp [readE], by simp [readE, writE]; exact Ne.symm k, .inl rfl, .inl rfl⟩
theorem aOp_any {op : Op} {d : D} (q : aOp P G e [] (fun h' d' => h' = [] ∧ d' = d) op) (h : List Ob) : aOp P G e h (fun h' d' => h' = h ∧ d' = d) op := by
 have one : ∀ {x : Option D}, on x (fun d' => ([] : List Ob) = [] ∧ d' = d) → on x (fun d' => h = h ∧ d' = d) := fun {x} q => by
  obtain ⟨d', h1, _, h2⟩ := on_iff.1 q
  exact on_iff.2 ⟨d', h1, rfl, h2⟩
 cases op <;> try exact q.elim
 case move => exact ⟨rfl, q.2⟩
 case assign => exact ⟨rfl, q.2⟩
 case pick => obtain ⟨t, h1, _, h2⟩ := q; exact ⟨t, h1, rfl, h2⟩
 case binOp => exact one q
 case unOp => exact one q
 case extract => exact one q
 case field => exact one q
 case fieldAddr => exact one q
 case nilCheck => exact ⟨q.1, rfl, q.2.2⟩
 case load t x =>
  obtain ⟨d', h1, _, h2⟩ := on_iff.1 q
  refine on_iff.2 ⟨d', ?_, rfl, h2⟩
  generalize ev G e x = X at h1 ⊢
  cases X <;> simp only [loadD] at h1 ⊢ <;> first | exact h1 | (simp at h1)
 case store t x y =>
  obtain ⟨h', h1, h2⟩ := on_iff.1 q
  exfalso
  unfold storeD at h1
  split at h1
  · cases h1
  · split at h1
    · split at h1 <;> simp at h1
    · cases h1
 case box => obtain ⟨ds, h1, h2, _⟩ := on_iff.1 q; simp at h2
 case alloc => obtain ⟨ds, h1, h2, _⟩ := on_iff.1 q; simp at h2
 case buildSlice => obtain ⟨ds, h1, h2, _⟩ := on_iff.1 q; simp at h2
 case build => obtain ⟨ds, h1, _, h2⟩ := on_iff.1 q; exact on_iff.2 ⟨ds, h1, rfl, h2⟩
 case indexAddr t x i =>
  have q : idxA P [] t (ev G e x) (ev G e i) (fun d' => ([] : List Ob) = [] ∧ d' = d) := q
  show idxA P h t (ev G e x) (ev G e i) (fun d' => h = h ∧ d' = d)
  unfold idxA at q ⊢
  generalize ev G e x = X at q ⊢
  generalize ev G e i = I at q ⊢
  cases I <;> try exact q.elim
  case v I =>
  cases I <;> try exact q.elim
  case int κ m =>
  cases X <;> try exact q.elim
  case sl kk xs => obtain ⟨h1, h2, h3, h4⟩ := q; exact ⟨h1, h2, h3, fun row hr => ⟨rfl, (h4 row hr).2⟩⟩
  case buf i' n' => obtain ⟨a, b, c, h1, _⟩ := q; simp at h1
  case win i' n' a' b' => obtain ⟨a, b, c, h1, _⟩ := q; simp at h1
  case ptr i' n' => obtain ⟨a, b, c, h1, h2, h3, h4, h5⟩ := q; exact ⟨a, b, c, h1, h2, h3, h4, rfl, h5.2⟩
  case rp ds => obtain ⟨a, b, c, h1, h2, h3, h4, h5⟩ := q; exact ⟨a, b, c, h1, h2, h3, h4, rfl, h5.2⟩
 case slice t x lo hi mx =>
  cases mx with
  | some m => exact q.elim
  | none =>
   have q : slcA P t (ev G e x) (lo.map (ev G e)) (hi.map (ev G e)) (fun d' => ([] : List Ob) = [] ∧ d' = d) := q
   show slcA P t (ev G e x) (lo.map (ev G e)) (hi.map (ev G e)) (fun d' => h = h ∧ d' = d)
   unfold slcA at q ⊢
   split at q
   · obtain ⟨l, r, a, b, c, d, e, f, g⟩ := q; exact ⟨l, r, a, b, c, d, e, f, rfl, g.2⟩
   · obtain ⟨l, r, a, b, c, d, e, f, g⟩ := q; exact ⟨l, r, a, b, c, d, e, f, rfl, g.2⟩
   · exact q.elim
 case index t x i =>
  have q : indA P t (ev G e x) (ev G e i) (fun d' => ([] : List Ob) = [] ∧ d' = d) := q
  show indA P t (ev G e x) (ev G e i) (fun d' => h = h ∧ d' = d)
  unfold indA at q ⊢
  split at q
  · obtain ⟨a, b, c, d⟩ := q; exact ⟨a, b, c, fun b hb => ⟨rfl, (d b hb).2⟩⟩
  · obtain ⟨l, e, z, d, h1, h2, h3, h4, h5, h6⟩ := q; exact ⟨l, e, z, d, h1, h2, h3, h4, h5, rfl, h6.2⟩
  · exact q.elim
 case convert t u x =>
  have q : cvA P [] t u (ev G e x) (fun h' d' => h' = [] ∧ d' = d) := q
  show cvA P h t u (ev G e x) (fun h' d' => h' = h ∧ d' = d)
  unfold cvA at q ⊢
  split at q
  · exact one q
  · rcases q with ⟨q1, q2, q3, q4⟩ | ⟨q1, q2, q4⟩
    · exact .inl ⟨q1, q2, q3, rfl, q4.2⟩
    · exact .inr ⟨q1, q2, rfl, q4.2⟩
  · obtain ⟨q1, q2, q3⟩ := q
    unfold bstD
    split at q3
    · obtain ⟨bs, q4, q5⟩ := q3; exact ⟨q1, q2, bs, q4, rfl, q5.2⟩
    · obtain ⟨a, b, c, q4, _⟩ := q3; simp at q4
    · exact ⟨q1, q2, rfl, q3.2⟩
    · exact q3.elim
 case call c =>
  obtain ⟨cal, args, tys⟩ := c
  cases cal with
  | builtin b =>
   have q : biA P [] b tys.toList (args.toList.map (ev G e)) (fun h' d' => h' = [] ∧ d' = d) := q
   show biA P h b tys.toList (args.toList.map (ev G e)) (fun h' d' => h' = h ∧ d' = d)
   unfold biA at q ⊢
   split at q
   · exact one q
   · obtain ⟨a, b, c, ys, h1, h2, h3, h4⟩ := q
     exfalso
     split at h4
     · obtain ⟨xs, g1, _⟩ := h4; simp at g1
     · simp at h4
     · exact h4
   · exact q.elim
  | _ => exact q.elim
section
variable {m0 : Nat} {done : List Eff} {rest : List Oper} {Q : (Nat → D) → List Ob → Prop} {t : Nat} {op : Op} {ty : TypeId} {pos : String} {aft : Array Edge} {gd : Option (Nat × Bool)}
theorem aS_nil (c : chkAll m0 ops 0 done.reverse) (q : Q e h) : aeS P G n m0 ops Q done [] e h := ⟨c, q⟩
theorem pureE_heap {d : D} : (pureE d).heap h = h := by simp [pureE, Eff.heap, setAll]
theorem aS1 (hw : wantedD ops gd e = some true) (ht : decide (t < n) = true) (H : ∀ K : List Ob → D → Prop, (∀ h' d, h' = [] → aeS P G n m0 ops Q (pureE d :: done) rest (upd e t d) h → K h' d) → aOp P G e [] K op) : aeS P G n m0 ops Q done (⟨some t, op, ty, pos, aft, gd⟩ :: rest) e h := by
 obtain ⟨d, h1, _, h2⟩ := aOp_det (H (fun h' d => h' = [] ∧ aeS P G n m0 ops Q (pureE d :: done) rest (upd e t d) h) fun h' d q1 q2 => ⟨q1, q2⟩) fun h' d q => q.1
 refine ⟨pureE d, .inl ⟨hw, ⟨by simp [pureE], fun _ _ _ => rfl⟩, fun h2 _ => .inl ?_⟩, by simp [pureE, Eff.ok], ?_⟩
 · rw [pureE_heap]; exact aOp_any h1 h2
 · rw [pureE_heap]
   unfold putE
   simp only [if_pos (of_decide_eq_true ht)]
   exact h2
theorem aS_load {u : TypeId} {x : Operand} {i o : Nat} {ds : List D} {d : D} (hw : wantedD ops gd e = some true) (ht : decide (t < n) = true) (hx : ev G e x = .ptr i o) (hi : h[i]? = some (.cells ds)) (hg : getD P u ds o = some d)
 (k : aeS P G n m0 ops Q (readE i (.cells ds) d :: done) rest (upd e t d) h) : aeS P G n m0 ops Q done (⟨some t, .load u x, ty, pos, aft, gd⟩ :: rest) e h := by
 have hh : ∀ h, (readE i (.cells ds) d).heap h = h := fun h => by simp [readE, Eff.heap, setAll]
 refine ⟨readE i (.cells ds) d, .inl ⟨hw, ⟨by simp [readE], fun _ _ _ => rfl⟩, fun h2 k2 => .inl ?_⟩, by simpa [readE, Eff.ok] using hi, ?_⟩
 · rw [hh]
   have hi2 : h2[i]? = some (.cells ds) := k2 (i, .cells ds) (by simp [readE])
   show on (loadD P h2 u (ev G e x)) _
   rw [hx]
   simp only [loadD, hi2, hg, on]
   exact ⟨trivial, rfl⟩
 · rw [hh]; unfold putE; simp only [if_pos (of_decide_eq_true ht)]; exact k
theorem aS_store {u : TypeId} {x y : Operand} {i o : Nat} {ds es : List D} (hw : wantedD ops gd e = some true) (hx : ev G e x = .ptr i o) (hi : h[i]? = some (.cells ds)) (hy : (ev G e y).cells = some es) (hc : (es.all D.one && szT P u == some es.length) = true) (hle : o + es.length ≤ ds.length)
 (k : aeS P G n m0 ops Q (writE i (.cells ds) (.cells (putL ds o es)) (.v undef) :: done) rest e (h.set i (.cells (putL ds o es)))) : aeS P G n m0 ops Q done (⟨none, .store u x y, ty, pos, aft, gd⟩ :: rest) e h := by
 have hh : ∀ h, (writE i (.cells ds) (.cells (putL ds o es)) (.v undef)).heap h = h.set i (.cells (putL ds o es)) := fun h => by simp [writE, Eff.heap, setAll]
 refine ⟨writE i (.cells ds) (.cells (putL ds o es)) (.v undef), .inl ⟨hw, ⟨by simp [writE], fun _ _ _ => rfl⟩, fun h2 k2 => .inl ?_⟩, by simpa [writE, Eff.ok] using hi, by rw [hh]; exact k⟩
 have hi2 : h2[i]? = some (.cells ds) := k2 (i, .cells ds) (by simp [writE])
 rw [hh]
 show on (storeD P h2 u (ev G e x) (ev G e y)) _
 rw [hx]
 simp only [storeD, hy, hc, if_true, hi2, if_pos hle, on]
 exact ⟨trivial, rfl⟩
theorem aS_lit {u len e' k' : Nat} {parts : Array (Nat × Operand)} {xs : List (List D)} (hw : wantedD ops gd e = some true) (ht : decide (t < n) = true) (hl : litD P u len (parts.toList.map fun q => (q.1, ev G e q.2)) = some (e', k', xs))
 (k : aeS P G n m0 ops Q (⟨[], [], [.buf e' k' xs], fun m => .buf m len⟩ :: done) rest (upd e t (.buf h.length len)) (h ++ [.buf e' k' xs])) : aeS P G n m0 ops Q done (⟨some t, .buildSlice u len parts, ty, pos, aft, gd⟩ :: rest) e h := by
 refine ⟨⟨[], [], [.buf e' k' xs], fun m => .buf m len⟩, .inl ⟨hw, ⟨by simp, fun hn => by cases hn⟩, fun h2 _ => .inl ?_⟩, by simp [Eff.ok], ?_⟩
 · show on (litD P u len (parts.toList.map fun q => (q.1, ev G e q.2))) _
   rw [hl]; exact ⟨rfl, rfl⟩
 · unfold putE; simp only [if_pos (of_decide_eq_true ht)]; exact k
theorem aS_app {x y : Operand} {u u' i m e' k' by' : Nat} {xs ys : List (List D)} {R : List (Nat × Ob)} (hw : wantedD ops gd e = some true) (ht : decide (t < n) = true) (hx : ev G e x = .buf i m) (hi : h[i]? = some (.buf e' k' xs)) (hm : xs.length = m) (ha : apT P u = some (e', k', by'))
 (hs : ∀ h2 : List Ob, (∀ q ∈ R, h2[q.1]? = some q.2) → srcD P h2 u u' (ev G e y) = some ys) (hR : ∀ q ∈ R, h[q.1]? = some q.2) (hk : rowsOk k' ys) (hb : (m + ys.length) * (by' + 1) ≤ 140737488355328)
 (k : aeS P G n m0 ops Q (⟨(i, .buf e' k' xs) :: R, [(i, .buf e' k' (xs ++ ys))], [], fun _ => .buf i (m + ys.length)⟩ :: done) rest (upd e t (.buf i (m + ys.length))) (h.set i (.buf e' k' (xs ++ ys)))) :
 aeS P G n m0 ops Q done (⟨some t, .call ⟨.builtin .append, #[x, y], #[u, u']⟩, ty, pos, aft, gd⟩ :: rest) e h := by
 have hh : ∀ h, (⟨(i, .buf e' k' xs) :: R, [(i, .buf e' k' (xs ++ ys))], [], fun _ => .buf i (m + ys.length)⟩ : Eff).heap h = h.set i (.buf e' k' (xs ++ ys)) := fun h => by simp [Eff.heap, setAll]
 refine ⟨⟨(i, .buf e' k' xs) :: R, [(i, .buf e' k' (xs ++ ys))], [], fun _ => .buf i (m + ys.length)⟩, .inl ⟨hw, ⟨by simp, fun _ _ _ => rfl⟩, fun h2 k2 => .inl ?_⟩, ?_, ?_⟩
 · rw [hh]
   have hi2 : h2[i]? = some (.buf e' k' xs) := k2 (i, .buf e' k' xs) (by simp)
   show aOp P G e h2 _ (.call ⟨.builtin .append, #[x, y], #[u, u']⟩)
   rw [aOp_bi]
   show biA P h2 .append [u, u'] [ev G e x, ev G e y] _
   rw [hx, biA_append]
   exact ⟨e', k', by', ys, ha, hs h2 fun q hq => k2 q (by simp [hq]), hk, xs, hi2, hm, hb, rfl, rfl⟩
 · intro q hq
   rcases List.mem_cons.1 hq with rfl | hq
   · exact hi
   · exact hR q hq
 · rw [hh]; unfold putE; simp only [if_pos (of_decide_eq_true ht)]; exact k
theorem aS_call {x : Operand} {args : Array Operand} {tys : Array TypeId} {f : FuncId} {cap : List D} {E : Eff} (hw : wantedD ops gd e = some true) (ht : decide (t < n) = true) (hx : ev G e x = .fn f cap) (he : entB P f = true) (hf : E.fit) (hk : E.ok h)
 (hc : ∀ h2, E.ok h2 → Does P G f h2 (args.toList.map (ev G e) ++ cap) (fun h' r => h' = E.heap h2 ∧ r = E.d h2.length))
 (k : aeS P G n m0 ops Q (E :: done) rest (upd e t (E.d h.length)) (E.heap h)) : aeS P G n m0 ops Q done (⟨some t, .call ⟨.value x, args, tys⟩, ty, pos, aft, gd⟩ :: rest) e h :=
 ⟨E, .inl ⟨hw, hf, fun h2 k2 => .inr ⟨x, args, tys, f, cap, rfl, hx, he, hc h2 k2⟩⟩, hk, by unfold putE; simp only [if_pos (of_decide_eq_true ht)]; exact k⟩
theorem aS_call0 {x : Operand} {args : Array Operand} {tys : Array TypeId} {f : FuncId} {cap : List D} {d : D} (hw : wantedD ops gd e = some true) (ht : decide (t < n) = true) (hx : ev G e x = .fn f cap) (he : entB P f = true)
 (hc : ∀ h2, Does P G f h2 (args.toList.map (ev G e) ++ cap) (fun h' r => h' = h2 ∧ r = d))
 (k : aeS P G n m0 ops Q (pureE d :: done) rest (upd e t d) h) : aeS P G n m0 ops Q done (⟨some t, .call ⟨.value x, args, tys⟩, ty, pos, aft, gd⟩ :: rest) e h :=
 aS_call (E := pureE d) hw ht hx he ⟨by simp [pureE], fun _ _ _ => rfl⟩ (by simp [pureE, Eff.ok]) (fun h2 _ => by rw [pureE_heap]; exact hc h2) (by rw [pureE_heap]; exact k)
theorem aS_call1 {x : Operand} {args : Array Operand} {tys : Array TypeId} {f : FuncId} {cap : List D} {d : D} {i : Nat} {ob ob' : Ob} (hw : wantedD ops gd e = some true) (ht : decide (t < n) = true) (hx : ev G e x = .fn f cap) (he : entB P f = true) (hi : h[i]? = some ob)
 (hc : ∀ h2, h2[i]? = some ob → Does P G f h2 (args.toList.map (ev G e) ++ cap) (fun h' r => h' = h2.set i ob' ∧ r = d))
 (k : aeS P G n m0 ops Q (writE i ob ob' d :: done) rest (upd e t d) (h.set i ob')) : aeS P G n m0 ops Q done (⟨some t, .call ⟨.value x, args, tys⟩, ty, pos, aft, gd⟩ :: rest) e h := by
 have hh : ∀ h, (writE i ob ob' d).heap h = h.set i ob' := fun h => by simp [writE, Eff.heap, setAll]
 exact aS_call (E := writE i ob ob' d) hw ht hx he ⟨by simp [writE], fun _ _ _ => rfl⟩ (by simpa [writE, Eff.ok] using hi) (fun h2 k2 => by rw [hh]; exact hc h2 (k2 (i, ob) (by simp [writE]))) (by rw [hh]; exact k)
end
section
variable {m0 : Nat} {done : List Eff} {rest : List Oper} {Q : (Nat → D) → List Ob → Prop} {t : Nat} {ty : TypeId} {pos : String} {aft : Array Edge} {gd : Option (Nat × Bool)} {x y : Operand} {u i j m m' e' k' e2 k2 by' : Nat} {xs ys : List (List D)}
theorem src_buf {h2 : List Ob} {d : D} (hy : d = .buf j m') (hj : h2[j]? = some (.buf e2 k2 ys)) (hm : ys.length = m') : srcD P h2 u u d = some ys := by
 subst hy; unfold srcD; simp only [if_true, hj, if_pos hm]
theorem src_any {u' : Nat} {h2 : List Ob} {d : D} (q : srcD P [] u u' d = some ys) : srcD P h2 u u' d = some ys := by
 unfold srcD at q ⊢
 split at q
 · exact q
 · split at q
   · simp at q
   · cases q
 · split at q
   · simp at q
   · cases q
 · exact q
 · exact q
 · cases q
theorem aS_appR {u' : Nat} (hw : wantedD ops gd e = some true) (ht : decide (t < n) = true) (hx : ev G e x = .buf i m) (hi : h[i]? = some (.buf e' k' xs)) (hm : xs.length = m) (ha : apT P u = some (e', k', by')) (hs : srcD P [] u u' (ev G e y) = some ys)
 (hk : rowsOk k' ys) (hb : (m + ys.length) * (by' + 1) ≤ 140737488355328)
 (k : aeS P G n m0 ops Q (⟨[(i, .buf e' k' xs)], [(i, .buf e' k' (xs ++ ys))], [], fun _ => .buf i (m + ys.length)⟩ :: done) rest (upd e t (.buf i (m + ys.length))) (h.set i (.buf e' k' (xs ++ ys)))) :
 aeS P G n m0 ops Q done (⟨some t, .call ⟨.builtin .append, #[x, y], #[u, u']⟩, ty, pos, aft, gd⟩ :: rest) e h :=
 aS_app (R := []) hw ht hx hi hm ha (fun h2 q => src_any hs) (by simp) hk hb k
end
/-! What a function hands back, its own memory being given away. -/
@[go_sem] theorem byD_len {l : List UInt8} : (byD l).length = l.length := by simp [byD]
theorem byD_cut {l : List UInt8} (a b : Nat) : ((byD l).take b).drop a = byD ((l.take b).drop a) := by simp [byD, List.map_drop, List.map_take]
theorem rowsOk_by (l : List UInt8) : rowsOk 1 (byD l) := fun row hr => by
 obtain ⟨b, _, rfl⟩ := List.mem_map.1 hr
 exact ⟨rfl, by simp [D.one, Value.oneCell']⟩
theorem rowsOk_nil (k : Nat) : rowsOk k [] := by simp [rowsOk]
theorem Does.weak {f : FuncId} {args : List D} {K : List Ob → D → Prop} (q : Does P G f h args (fun h' r => ∃ r', K h' r' ∧ ∀ hd hh W u, rd hd hh W r u → rd hd hh W r' u)) : Does P G f h args K := fun w hd p vs o ha =>
 (q w hd p vs o ha).mono fun _ _ ⟨v, hd', h', r, p', e, ⟨r', hk, hw⟩, o', q', ev⟩ => ⟨v, hd', h', r', p', e, hk, o', hw _ _ _ _ q', ev⟩
theorem nil_sl {k : Nat} : ∀ hd hh W u, rd hd hh W (.v (.slice none 0 0)) u → rd hd hh W (.sl k []) u := fun hd hh W u q => by
 have q : u = .slice none 0 0 := by rw [rd] at q; exact q
 subst q
 rw [rd]
 exact ⟨none, 0, rfl, ⟨fun _ => rfl, Nat.le_refl _⟩, by decide, by rw [rdRows]; trivial⟩
theorem gd_aw {P : Program} {G : Nat → D} {c : Code} {Q : Exit → S → Prop} {s : S} (q : aw P G c Q s) : aw P G c Q s := q
theorem gd_ao {P : Program} {G : Nat → D} {ops : Array Oper} {l : List Oper} {Q : S → Prop} {s : S} (q : ao P G ops l Q s) : ao P G ops l Q s := q
theorem gd_aq {P : Program} {G : Nat → D} {n : Nat} {ops : Array Oper} {h : List Ob} {Q : (Nat → D) → Prop} {l : List Oper} {e : Nat → D} (q : aq P G n ops h Q l e) : aq P G n ops h Q l e := q
theorem gd_aS {P : Program} {G : Nat → D} {n m0 : Nat} {ops : Array Oper} {Q : (Nat → D) → List Ob → Prop} {done : List Eff} {l : List Oper} {e : Nat → D} {h : List Ob} (q : aeS P G n m0 ops Q done l e h) : aeS P G n m0 ops Q done l e h := q
theorem gd_th {K : S → Prop} {Q : Exit → S → Prop} {x : Exit} {s : S} (q : thenS K Q x s) : thenS K Q x s := q
theorem gd_iB {i : Nat} {Q : Exit → S → Prop} {x : Exit} {s : S} (q : inBlockS i Q x s) : inBlockS i Q x s := q
end
section
variable {P : Program} {G : Nat → D} {n : Nat} {e : Nat → D} {h : List Ob}
theorem killH_one {j : Nat} : killH (fun i => i == j) h = h.set j .dead := by
 apply List.ext_getElem?
 intro i
 unfold killH
 rw [List.getElem?_mapIdx, List.getElem?_set]
 by_cases hij : j = i
 · subst hij
   cases hj : h[j]? with
   | none => rw [if_pos rfl, if_neg (by simpa using hj)]; rfl
   | some ob => rw [if_pos rfl, if_pos (List.getElem?_eq_some_iff.1 hj).1]; simp
 · rw [if_neg hij]
   cases hi : h[i]? with
   | none => rfl
   | some ob => simp [Ne.symm hij]
theorem Sit_give {B : Base} {a : Act} {w : World} (j t : Nat) (r : Sit G B ⟨n, e, h⟩ a w) : Sit G B ⟨n, upd e t (cvD (fun i => i == j) h (e t)), h.set j .dead⟩ a w := by
 obtain ⟨hd, p, r⟩ := r
 obtain ⟨p', o, ev, q⟩ := Ok.give r.ok (fun i => i == j)
 rw [killH_one] at o ev q
 refine ⟨hd, p', o, r.evo.trans ev, fun t' => ?_, r.size, r.defers⟩
 show rd _ _ _ (upd e t _ t') _
 unfold upd
 by_cases ht : t' = t
 · rw [if_pos ht, ht]; exact q _ _ (r.tmp t)
 · rw [if_neg ht]; exact ev.rd r.ok (r.tmp t')
theorem ao_give {ops : Array Oper} {l : List Oper} {Q : S → Prop} (j t : Nat) (k : ao P G ops l Q ⟨n, upd e t (cvD (fun i => i == j) h (e t)), h.set j .dead⟩) : ao P G ops l Q ⟨n, e, h⟩ := fun B a w r R hR => k B a w (Sit_give j t r) R hR
theorem aw_give {c : Code} {Q : Exit → S → Prop} (j t : Nat) (k : aw P G c Q ⟨n, upd e t (cvD (fun i => i == j) h (e t)), h.set j .dead⟩) : aw P G c Q ⟨n, e, h⟩ := fun B a w r => k B a w (Sit_give j t r)
@[go_sem] theorem buildD_all {parts : List (Nat × D)} {t : TypeId} (q : allSz P t = true) : buildD P t parts = (zeroD P t).bind fun z => fillD (plT P t) z parts := by unfold buildD; rw [if_pos q]
@[go_sem] theorem fillD_nil {pl : Nat → Option (Nat × Nat)} {cs : List D} : fillD pl cs [] = some cs := rfl
@[go_sem] theorem fillD_cons {pl : Nat → Option (Nat × Nat)} {cs : List D} {i : Nat} {d : D} {rest : List (Nat × D)} : fillD pl cs ((i, d) :: rest) = match pl i, d.cells with
 | some (off, sz), some es => if es.length = sz ∧ off + sz ≤ cs.length then fillD pl (putL cs off es) rest else none
 | _, _ => none := rfl
@[go_sem] theorem putL_cons {α : Type} {a b : α} {l m : List α} : putL (a :: l) 0 (b :: m) = b :: putL l 0 m := by simp [putL]
@[go_sem] theorem putL_nil {α : Type} {l : List α} {o : Nat} : putL l o [] = l := by simp [putL]
@[go_sem] theorem putL_suc {α : Type} {a : α} {l m : List α} {o : Nat} : putL (a :: l) (o + 1) m = a :: putL l o m := by simp [putL, Nat.add_right_comm]
attribute [go_sem] litD litRows Option.map_some List.length_cons List.length_nil and_self Option.bind_some
end
section
section
variable {P : Program} {G : Nat → D} {n : Nat} {e : Nat → D} {h : List Ob} {ops : Array Oper} {rest : List Oper} {Q : S → Prop} {t : Nat} {ty : TypeId} {pos : String} {aft : Array Edge} {gd : Option (Nat × Bool)} {x y : Operand} {u u' i j m m' e' k' e2 k2 by' : Nat} {xs ys : List (List D)}
theorem ao_app (hw : wantedD ops gd e = some true) (ht : decide (t < n) = true) (hx : ev G e x = .buf i m) (hi : h[i]? = some (.buf e' k' xs)) (hm : xs.length = m) (ha : apT P u = some (e', k', by')) (hs : srcD P h u u' (ev G e y) = some ys) (hk : rowsOk k' ys) (hb : (m + ys.length) * (by' + 1) ≤ 140737488355328)
 (k : ao P G ops rest Q ⟨n, upd e t (.buf i (m + ys.length)), h.set i (.buf e' k' (xs ++ ys))⟩) : ao P G ops (⟨some t, .call ⟨.builtin .append, #[x, y], #[u, u']⟩, ty, pos, aft, gd⟩ :: rest) Q ⟨n, e, h⟩ := by
 refine ao1 hw ht fun K HK => ?_
 rw [aOp_bi]
 show biA P h .append [u, u'] [ev G e x, ev G e y] K
 rw [hx, biA_append]
 exact ⟨e', k', by', ys, ha, hs, hk, xs, hi, hm, hb, HK _ _ k⟩
theorem ao_appN (hw : wantedD ops gd e = some true) (ht : decide (t < n) = true) (hx : ev G e x = .v (.slice none 0 0)) (ha : apT P u = some (e', k', by')) (hs : srcD P h u u' (ev G e y) = some ys) (hk : rowsOk k' ys) (hb : ys.length * (by' + 1) ≤ 140737488355328)
 (k : ao P G ops rest Q ⟨n, upd e t (.buf h.length ys.length), h ++ [.buf e' k' ys]⟩) : ao P G ops (⟨some t, .call ⟨.builtin .append, #[x, y], #[u, u']⟩, ty, pos, aft, gd⟩ :: rest) Q ⟨n, e, h⟩ := by
 refine ao1 hw ht fun K HK => ?_
 rw [aOp_bi]
 show biA P h .append [u, u'] [ev G e x, ev G e y] K
 rw [hx, biA_append]
 exact ⟨e', k', by', ys, ha, hs, hk, hb, HK _ _ k⟩
theorem ao_appB (hw : wantedD ops gd e = some true) (ht : decide (t < n) = true) (hx : ev G e x = .buf i m) (hy : ev G e y = .buf j m') (hi : h[i]? = some (.buf e' k' xs)) (hm : xs.length = m) (ha : apT P u = some (e', k', by')) (hj : h[j]? = some (.buf e2 k2 ys)) (hm' : ys.length = m') (hk : rowsOk k' ys) (hb : (m + ys.length) * (by' + 1) ≤ 140737488355328)
 (k : ao P G ops rest Q ⟨n, upd e t (.buf i (m + ys.length)), h.set i (.buf e' k' (xs ++ ys))⟩) : ao P G ops (⟨some t, .call ⟨.builtin .append, #[x, y], #[u, u]⟩, ty, pos, aft, gd⟩ :: rest) Q ⟨n, e, h⟩ := ao_app hw ht hx hi hm ha (src_buf hy hj hm') hk hb k
theorem ao_appR (hw : wantedD ops gd e = some true) (ht : decide (t < n) = true) (hx : ev G e x = .buf i m) (hi : h[i]? = some (.buf e' k' xs)) (hm : xs.length = m) (ha : apT P u = some (e', k', by')) (hs : srcD P [] u u' (ev G e y) = some ys) (hk : rowsOk k' ys) (hb : (m + ys.length) * (by' + 1) ≤ 140737488355328)
 (k : ao P G ops rest Q ⟨n, upd e t (.buf i (m + ys.length)), h.set i (.buf e' k' (xs ++ ys))⟩) : ao P G ops (⟨some t, .call ⟨.builtin .append, #[x, y], #[u, u']⟩, ty, pos, aft, gd⟩ :: rest) Q ⟨n, e, h⟩ := ao_app hw ht hx hi hm ha (src_any hs) hk hb k
theorem ao_appNB (hw : wantedD ops gd e = some true) (ht : decide (t < n) = true) (hx : ev G e x = .v (.slice none 0 0)) (hy : ev G e y = .buf j m') (ha : apT P u = some (e', k', by')) (hj : h[j]? = some (.buf e2 k2 ys)) (hm' : ys.length = m') (hk : rowsOk k' ys) (hb : ys.length * (by' + 1) ≤ 140737488355328)
 (k : ao P G ops rest Q ⟨n, upd e t (.buf h.length ys.length), h ++ [.buf e' k' ys]⟩) : ao P G ops (⟨some t, .call ⟨.builtin .append, #[x, y], #[u, u]⟩, ty, pos, aft, gd⟩ :: rest) Q ⟨n, e, h⟩ := ao_appN hw ht hx ha (src_buf hy hj hm') hk hb k
theorem ao_appNR (hw : wantedD ops gd e = some true) (ht : decide (t < n) = true) (hx : ev G e x = .v (.slice none 0 0)) (ha : apT P u = some (e', k', by')) (hs : srcD P [] u u' (ev G e y) = some ys) (hk : rowsOk k' ys) (hb : ys.length * (by' + 1) ≤ 140737488355328)
 (k : ao P G ops rest Q ⟨n, upd e t (.buf h.length ys.length), h ++ [.buf e' k' ys]⟩) : ao P G ops (⟨some t, .call ⟨.builtin .append, #[x, y], #[u, u']⟩, ty, pos, aft, gd⟩ :: rest) Q ⟨n, e, h⟩ := ao_appN hw ht hx ha (src_any hs) hk hb k
end
end
section
mutual
def ren (π : Nat → Nat) : D → D
 | .any => .any
 | .v x => .v x
 | .sl k xs => .sl k (renR π xs)
 | .agg ds => .agg (renL π ds)
 | .tup ds => .tup (renL π ds)
 | .rp ds => .rp (renL π ds)
 | .ptr i o => .ptr (π i) o
 | .buf i n => .buf (π i) n
 | .bp i n r j => .bp (π i) n r j
 | .win i n a b => .win (π i) n a b
 | .arr i o n c k => .arr (π i) o n c k
 | .mp i => .mp (π i)
 | .e0 => .e0
 | .fn f ds => .fn f (renL π ds)
def renL (π : Nat → Nat) : List D → List D
 | [] => []
 | d :: t => ren π d :: renL π t
def renR (π : Nat → Nat) : List (List D) → List (List D)
 | [] => []
 | d :: t => renL π d :: renR π t
end
theorem renL_map (π : Nat → Nat) : ∀ l, renL π l = l.map (ren π)
 | [] => by rw [renL]; rfl
 | d :: t => by rw [renL, renL_map π t]; rfl
theorem renR_map (π : Nat → Nat) : ∀ l, renR π l = l.map (renL π)
 | [] => by rw [renR]; rfl
 | d :: t => by rw [renR, renR_map π t]; rfl
def renOb (π : Nat → Nat) : Ob → Ob
 | .cells ds => .cells (renL π ds)
 | .buf e k xs => .buf e k (renR π xs)
 | .map es c => .map (es.map fun e => (e.1, e.2.1, ren π e.2.2)) c
 | .iter m s l a => .iter (π m) s l a
 | .hole => .hole
 | .dead => .dead
theorem renOb_live {π : Nat → Nat} (ob : Ob) : (renOb π ob).live = ob.live := by cases ob <;> rfl
theorem renOb_hole {π : Nat → Nat} (ob : Ob) : (renOb π ob).isHole = ob.isHole := by cases ob <;> rfl
structure Emb (m : Nat) (π : Nat → Nat) (hd : List Value) (h : List Ob) (hd' : List Value) (h' : List Ob) : Prop where
 hd : ∀ i, i < m → ∀ u, hd[i]? = some u → hd'[π i]? = some u
 usd : ∀ i, i < m → used h i → used h' (π i)
 buf : ∀ (i : Nat) e k xs', i < m → used h i → h'[π i]? = some (.buf e k xs') → ∃ e0 xs, h[i]? = some (.buf e0 k xs) ∧ xs.length = xs'.length
section
variable {m : Nat} {π : Nat → Nat} {hd hd' : List Value} {h h' : List Ob} {W W' : World}
mutual
theorem rd_emb (c : Emb m π hd h hd' h') (hl : hd.length = h.length) (s : Sub W W') : ∀ (d : D) (u : Value), low m d → rd hd h W d u → rd hd' h' W' (ren π d) u
 | .any, _, _, _ => by rw [ren, rd]; trivial
 | .v x, u, _, q => by rw [rd] at q; rw [ren, rd]; exact q
 | .sl k xs, u, l, q => by
   rw [low] at l; rw [rd] at q; rw [ren, rd]
   obtain ⟨a, cap, h1, h2, h3, h4⟩ := q
   have e : (renR π xs).length = xs.length := by rw [renR_map]; simp
   exact ⟨a, cap, by rw [e]; exact h1, by rw [e]; exact h2, h3, rdRows_emb c hl s k a xs 0 l h4⟩
 | .agg ds, u, l, q => by
   rw [low] at l; rw [rd] at q; rw [ren, rd]
   obtain ⟨cs, h1, h2⟩ := q
   exact ⟨cs, h1, rdL_emb c hl s ds _ l h2⟩
 | .tup ds, u, l, q => by
   rw [low] at l; rw [rd] at q; rw [ren, rd]
   obtain ⟨cs, h1, h2⟩ := q
   exact ⟨cs, h1, rdL_emb c hl s ds _ l h2⟩
 | .rp ds, u, l, q => by
   rw [low] at l; rw [rd] at q; rw [ren, rd]
   obtain ⟨b, o, h1, h2⟩ := q
   exact ⟨b, o, h1, rdAt_emb c hl s ds b o l h2⟩
 | .ptr i o, u, l, q => by
   rw [low] at l; rw [rd] at q; rw [ren, rd]
   obtain ⟨B, h1, h2⟩ := q
   exact ⟨B, c.hd i l _ h1, h2⟩
 | .buf i n, u, l, q => by
   rw [low] at l; rw [rd] at q; rw [ren, rd]
   obtain ⟨h0, hi, h2⟩ := q
   refine ⟨h0, c.usd i l hi, fun e k xs hx => ?_⟩
   obtain ⟨e0, xs0, hh0, l0⟩ := c.buf i e k xs l hi hx
   obtain ⟨h3, h4⟩ := h2 e0 k xs0 hh0
   exact ⟨l0 ▸ h3, fun he => c.hd i l _ (h4 (l0.trans he))⟩
 | .bp i n r j, u, l, q => by
   rw [low] at l; rw [rd] at q; rw [ren, rd]
   obtain ⟨h0, hi, h2⟩ := q
   refine ⟨h0, c.usd i l hi, fun e k xs hx => ?_⟩
   obtain ⟨e0, xs0, hh0, l0⟩ := c.buf i e k xs l hi hx
   obtain ⟨h3, h4⟩ := h2 e0 k xs0 hh0
   refine ⟨l0 ▸ h3, fun he => ?_⟩
   obtain ⟨B, cap, h5, h6⟩ := h4 (l0.trans he)
   exact ⟨B, cap, c.hd i l _ h5, h6⟩
 | .win i n a b, u, l, q => by
   rw [low] at l; rw [rd] at q; rw [ren, rd]
   obtain ⟨h0, hi, h2⟩ := q
   refine ⟨h0, c.usd i l hi, fun e k xs hx => ?_⟩
   obtain ⟨e0, xs0, hh0, l0⟩ := c.buf i e k xs l hi hx
   obtain ⟨h3, h4⟩ := h2 e0 k xs0 hh0
   refine ⟨l0 ▸ h3, fun he => ?_⟩
   obtain ⟨h5, h6, h7⟩ := h4 (l0.trans he)
   refine ⟨h5, h6, h7.imp id ?_⟩
   rintro ⟨B, cap, qq, h8, h9⟩
   exact ⟨B, cap, qq, c.hd i l _ h8, h9⟩
 | .arr i o n cc kk, u, l, q => by
   rw [low] at l; rw [rd] at q; rw [ren, rd]
   obtain ⟨B, h1, h2⟩ := q
   exact ⟨B, c.hd i l _ h1, h2⟩
 | .mp i, u, l, q => by
   rw [low] at l; rw [rd] at q; rw [ren, rd]
   obtain ⟨r, h1, h2⟩ := q
   exact ⟨r, c.hd i l _ h1, h2⟩
 | .e0, u, _, q => by rw [rd] at q; rw [ren, rd]; exact q
 | .fn f ds, u, l, q => by
   rw [low] at l; rw [rd] at q; rw [ren, rd]
   obtain ⟨cs, h1, h2⟩ := q
   exact ⟨cs, h1, rdL_emb c hl s ds _ l h2⟩
theorem rdL_emb (c : Emb m π hd h hd' h') (hl : hd.length = h.length) (s : Sub W W') : ∀ (ds : List D) (us : List Value), lowL m ds → rdL hd h W ds us → rdL hd' h' W' (renL π ds) us
 | [], _, _, q => by rw [rdL] at q; rw [renL, rdL]; exact q
 | d :: ds, us, l, q => by
   rw [lowL] at l; rw [rdL] at q; rw [renL, rdL]
   obtain ⟨u, t, h1, h2, h3⟩ := q
   exact ⟨u, t, h1, rd_emb c hl s d u l.1 h2, rdL_emb c hl s ds t l.2 h3⟩
theorem rdAt_emb (c : Emb m π hd h hd' h') (hl : hd.length = h.length) (s : Sub W W') : ∀ (ds : List D) (b o : Nat), lowL m ds → rdAt hd h W b o ds → rdAt hd' h' W' b o (renL π ds)
 | [], _, _, _, _ => by rw [renL, rdAt]; trivial
 | d :: ds, b, o, l, q => by
   rw [lowL] at l; rw [rdAt] at q; rw [renL, rdAt]
   obtain ⟨⟨u, h1, h2⟩, h3⟩ := q
   exact ⟨⟨u, s _ _ h1, rd_emb c hl s d u l.1 h2⟩, rdAt_emb c hl s ds b (o + 1) l.2 h3⟩
theorem rdRows_emb (c : Emb m π hd h hd' h') (hl : hd.length = h.length) (s : Sub W W') (k : Nat) (a : Option Addr) : ∀ (xs : List (List D)) (o : Nat), lowR m xs → rdRows hd h W k a o xs → rdRows hd' h' W' k a o (renR π xs)
 | [], _, _, _ => by rw [renR, rdRows]; trivial
 | ds :: t, o, l, q => by
   rw [lowR] at l; rw [rdRows] at q; rw [renR, rdRows]
   obtain ⟨⟨b, r, h1, h2⟩, h3, h4⟩ := q
   exact ⟨⟨b, r, h1, rdAt_emb c hl s ds b (r + o) l.1 h2⟩, by rw [renL_map, List.length_map]; exact h3, rdRows_emb c hl s k a t (o + k) l.2 h4⟩
end
end
structure Une (m : Nat) (π : Nat → Nat) (hd : List Value) (h : List Ob) (hd' : List Value) (h' : List Ob) : Prop where
 hd : ∀ i, i < m → ∀ u, hd[π i]? = some u → hd'[i]? = some u
 usd : ∀ i, i < m → used h (π i) → used h' i
 buf : ∀ (i : Nat) e k xs', i < m → h'[i]? = some (.buf e k xs') → ∃ e0 xs, h[π i]? = some (.buf e0 k xs) ∧ xs.length = xs'.length
section
variable {m : Nat} {π : Nat → Nat} {hd hd' : List Value} {h h' : List Ob} {W W' : World}
mutual
theorem rd_une (c : Une m π hd h hd' h') (hl : hd.length = h.length) (s : Sub W W') : ∀ (d : D) (u : Value), low m d → rd hd h W (ren π d) u → rd hd' h' W' d u
 | .any, _, _, _ => by rw [rd]; trivial
 | .v x, u, _, q => by rw [ren, rd] at q; rw [rd]; exact q
 | .sl k xs, u, l, q => by
   rw [low] at l; rw [ren, rd] at q; rw [rd]
   obtain ⟨a, cap, h1, h2, h3, h4⟩ := q
   have e : (renR π xs).length = xs.length := by rw [renR_map]; simp
   rw [e] at h1 h2
   exact ⟨a, cap, h1, h2, h3, rdRows_une c hl s k a xs 0 l h4⟩
 | .agg ds, u, l, q => by
   rw [low] at l; rw [ren, rd] at q; rw [rd]
   obtain ⟨cs, h1, h2⟩ := q
   exact ⟨cs, h1, rdL_une c hl s ds _ l h2⟩
 | .tup ds, u, l, q => by
   rw [low] at l; rw [ren, rd] at q; rw [rd]
   obtain ⟨cs, h1, h2⟩ := q
   exact ⟨cs, h1, rdL_une c hl s ds _ l h2⟩
 | .rp ds, u, l, q => by
   rw [low] at l; rw [ren, rd] at q; rw [rd]
   obtain ⟨b, o, h1, h2⟩ := q
   exact ⟨b, o, h1, rdAt_une c hl s ds b o l h2⟩
 | .ptr i o, u, l, q => by
   rw [low] at l; rw [ren, rd] at q; rw [rd]
   obtain ⟨B, h1, h2⟩ := q
   exact ⟨B, c.hd i l _ h1, h2⟩
 | .buf i n, u, l, q => by
   rw [low] at l; rw [ren, rd] at q; rw [rd]
   obtain ⟨h0, hi, h2⟩ := q
   refine ⟨h0, c.usd i l hi, fun e k xs hx => ?_⟩
   obtain ⟨e0, xs0, hh0, l0⟩ := c.buf i e k xs l hx
   obtain ⟨h3, h4⟩ := h2 e0 k xs0 hh0
   exact ⟨l0 ▸ h3, fun he => c.hd i l _ (h4 (l0.trans he))⟩
 | .bp i n r j, u, l, q => by
   rw [low] at l; rw [ren, rd] at q; rw [rd]
   obtain ⟨h0, hi, h2⟩ := q
   refine ⟨h0, c.usd i l hi, fun e k xs hx => ?_⟩
   obtain ⟨e0, xs0, hh0, l0⟩ := c.buf i e k xs l hx
   obtain ⟨h3, h4⟩ := h2 e0 k xs0 hh0
   refine ⟨l0 ▸ h3, fun he => ?_⟩
   obtain ⟨B, cap, h5, h6⟩ := h4 (l0.trans he)
   exact ⟨B, cap, c.hd i l _ h5, h6⟩
 | .win i n a b, u, l, q => by
   rw [low] at l; rw [ren, rd] at q; rw [rd]
   obtain ⟨h0, hi, h2⟩ := q
   refine ⟨h0, c.usd i l hi, fun e k xs hx => ?_⟩
   obtain ⟨e0, xs0, hh0, l0⟩ := c.buf i e k xs l hx
   obtain ⟨h3, h4⟩ := h2 e0 k xs0 hh0
   refine ⟨l0 ▸ h3, fun he => ?_⟩
   obtain ⟨h5, h6, h7⟩ := h4 (l0.trans he)
   refine ⟨h5, h6, h7.imp id ?_⟩
   rintro ⟨B, cap, qq, h8, h9⟩
   exact ⟨B, cap, qq, c.hd i l _ h8, h9⟩
 | .arr i o n cc kk, u, l, q => by
   rw [low] at l; rw [ren, rd] at q; rw [rd]
   obtain ⟨B, h1, h2⟩ := q
   exact ⟨B, c.hd i l _ h1, h2⟩
 | .mp i, u, l, q => by
   rw [low] at l; rw [ren, rd] at q; rw [rd]
   obtain ⟨r, h1, h2⟩ := q
   exact ⟨r, c.hd i l _ h1, h2⟩
 | .e0, u, _, q => by rw [ren, rd] at q; rw [rd]; exact q
 | .fn f ds, u, l, q => by
   rw [low] at l; rw [ren, rd] at q; rw [rd]
   obtain ⟨cs, h1, h2⟩ := q
   exact ⟨cs, h1, rdL_une c hl s ds _ l h2⟩
theorem rdL_une (c : Une m π hd h hd' h') (hl : hd.length = h.length) (s : Sub W W') : ∀ (ds : List D) (us : List Value), lowL m ds → rdL hd h W (renL π ds) us → rdL hd' h' W' ds us
 | [], _, _, q => by rw [renL, rdL] at q; rw [rdL]; exact q
 | d :: ds, us, l, q => by
   rw [lowL] at l; rw [renL, rdL] at q; rw [rdL]
   obtain ⟨u, t, h1, h2, h3⟩ := q
   exact ⟨u, t, h1, rd_une c hl s d u l.1 h2, rdL_une c hl s ds t l.2 h3⟩
theorem rdAt_une (c : Une m π hd h hd' h') (hl : hd.length = h.length) (s : Sub W W') : ∀ (ds : List D) (b o : Nat), lowL m ds → rdAt hd h W b o (renL π ds) → rdAt hd' h' W' b o ds
 | [], _, _, _, _ => by rw [rdAt]; trivial
 | d :: ds, b, o, l, q => by
   rw [lowL] at l; rw [renL, rdAt] at q; rw [rdAt]
   obtain ⟨⟨u, h1, h2⟩, h3⟩ := q
   exact ⟨⟨u, s _ _ h1, rd_une c hl s d u l.1 h2⟩, rdAt_une c hl s ds b (o + 1) l.2 h3⟩
theorem rdRows_une (c : Une m π hd h hd' h') (hl : hd.length = h.length) (s : Sub W W') (k : Nat) (a : Option Addr) : ∀ (xs : List (List D)) (o : Nat), lowR m xs → rdRows hd h W k a o (renR π xs) → rdRows hd' h' W' k a o xs
 | [], _, _, _ => by rw [rdRows]; trivial
 | ds :: t, o, l, q => by
   rw [lowR] at l; rw [renR, rdRows] at q; rw [rdRows]
   obtain ⟨⟨b, r, h1, h2⟩, h3, h4⟩ := q
   exact ⟨⟨b, r, h1, rdAt_une c hl s ds b (r + o) l.1 h2⟩, by rw [renL_map, List.length_map] at h3; exact h3, rdRows_une c hl s k a t (o + k) l.2 h4⟩
end
end
mutual
theorem ren_low0 (π : Nat → Nat) : ∀ d, low 0 d → ren π d = d
 | .any, _ => by rw [ren]
 | .v x, _ => by rw [ren]
 | .sl k xs, l => by rw [low] at l; rw [ren, renR_low0 π xs l]
 | .agg ds, l => by rw [low] at l; rw [ren, renL_low0 π ds l]
 | .tup ds, l => by rw [low] at l; rw [ren, renL_low0 π ds l]
 | .rp ds, l => by rw [low] at l; rw [ren, renL_low0 π ds l]
 | .ptr i o, l => by rw [low] at l; omega
 | .buf i n, l => by rw [low] at l; omega
 | .bp i n r j, l => by rw [low] at l; omega
 | .win i n a b, l => by rw [low] at l; omega
 | .arr i o n c k, l => by rw [low] at l; omega
 | .mp i, l => by rw [low] at l; omega
 | .e0, _ => by rw [ren]
 | .fn f ds, l => by rw [low] at l; rw [ren, renL_low0 π ds l]
theorem renL_low0 (π : Nat → Nat) : ∀ d, lowL 0 d → renL π d = d
 | [], _ => by rw [renL]
 | d :: t, l => by rw [lowL] at l; rw [renL, ren_low0 π d l.1, renL_low0 π t l.2]
theorem renR_low0 (π : Nat → Nat) : ∀ d, lowR 0 d → renR π d = d
 | [], _ => by rw [renR]
 | d :: t, l => by rw [lowR] at l; rw [renR, renL_low0 π d l.1, renR_low0 π t l.2]
end
def plc {α : Type} (π : Nat → Nat) (h : List α) : Nat → List α → List α
 | _, [] => h
 | j, ob :: t => plc π (h.set (π j) ob) (j + 1) t
theorem plc_len {α : Type} {π : Nat → Nat} : ∀ (l : List α) (h : List α) (j : Nat), (plc π h j l).length = h.length
 | [], _, _ => rfl
 | ob :: t, h, j => by rw [plc, plc_len t]; simp
theorem plc_other {α : Type} {π : Nat → Nat} {x : Nat} : ∀ (l : List α) (h : List α) (j : Nat), (∀ i, i < l.length → π (j + i) ≠ x) → (plc π h j l)[x]? = h[x]?
 | [], _, _, _ => rfl
 | ob :: t, h, j, q => by
  rw [plc, plc_other t _ (j + 1) fun i hi => by rw [show j + 1 + i = j + (i + 1) by omega]; exact q (i + 1) (by simp; omega)]
  rw [List.getElem?_set_ne (by have := q 0 (by simp); rwa [Nat.add_zero] at this)]
theorem plc_at {α : Type} {π : Nat → Nat} : ∀ (l : List α) (h : List α) (j i : Nat), (∀ a b, a < l.length → b < l.length → π (j + a) = π (j + b) → a = b) → i < l.length → π (j + i) < h.length → (plc π h j l)[π (j + i)]? = l[i]?
 | [], _, _, _, _, q, _ => by simp at q
 | ob :: t, h, j, 0, inj, q, hl => by
  rw [plc, plc_other t _ (j + 1) fun i hi he => by
   have := inj (i + 1) 0 (by simp; omega) (by simp) (by rw [← he]; congr 1; omega)
   omega]
  rw [Nat.add_zero] at hl ⊢
  rw [List.getElem?_set_self hl]; rfl
 | ob :: t, h, j, i + 1, inj, q, hl => by
  rw [plc, show j + (i + 1) = j + 1 + i by omega]
  rw [plc_at t _ (j + 1) i (fun a b ha hb he => ?_) (by simpa using q) (by rw [List.length_set, show j + 1 + i = j + (i + 1) by omega]; exact hl)]
  · rfl
  · have := inj (a + 1) (b + 1) (by simp; omega) (by simp; omega) (by rw [show j + (a + 1) = j + 1 + a by omega, show j + (b + 1) = j + 1 + b by omega]; exact he)
    omega
theorem obOk_emb {m : Nat} {π : Nat → Nat} {hd hd' : List Value} {h h' : List Ob} {w : World} {p : Nat → Bool} (c : Emb m π hd h hd' h') (hl : hd.length = h.length) {ob : Ob} {u : Value} (l : lowOb m ob) (q : obOk w hd h p u ob) : obOk w hd' h' p u (renOb π ob) := by
 have s : Sub (only p w) (only p w) := fun _ _ h => h
 cases ob with
 | dead => trivial
 | hole => exact q
 | cells ds => obtain ⟨B, cs, t, h1, h2, h3, h4⟩ := q; exact ⟨B, cs, t, h1, h2, rdL_emb c hl s _ _ l h3, h4⟩
 | buf e k xs =>
  obtain ⟨cs, h1, h2, h3, h4⟩ := q
  have el : (renR π xs).length = xs.length := by rw [renR_map]; simp
  have ef : (renR π xs).flatten = renL π xs.flatten := by rw [renR_map, renL_map, List.map_flatten]; congr 1; apply List.map_congr_left; intro r _; rw [renL_map]
  refine ⟨cs, by rw [el]; exact h1, by rw [ef]; exact rdL_emb c hl s _ _ (lowR_flatten.2 l) h2, fun row hr => ?_, h4⟩
  rw [renR_map] at hr
  obtain ⟨r0, h5, rfl⟩ := List.mem_map.1 hr
  rw [renL_map, List.length_map]; exact h3 r0 h5
 | map es clock =>
  obtain ⟨r, arr, h1, h2, h3, h4, h5⟩ := q
  have e1 : (es.map fun e => (e.1, e.2.1, ren π e.2.2)).map (fun e => (e.1, e.2.1)) = es.map fun e => (e.1, e.2.1) := by rw [List.map_map]; rfl
  have e2 : (es.map fun e => (e.1, e.2.1, ren π e.2.2)).map (·.2.2) = renL π (es.map (·.2.2)) := by rw [renL_map, List.map_map, List.map_map]; rfl
  exact ⟨r, arr, h1, h2, by rw [e1]; exact h3, by rw [e2]; exact rdL_emb c hl s _ _ l h4, h5⟩
 | iter i since seen last =>
  obtain ⟨B, r, h1, h2, h3, h4⟩ := q
  exact ⟨B, r, h1, h2, c.hd i l _ h3, h4⟩
theorem obOk_une {m : Nat} {π : Nat → Nat} {hd hd' : List Value} {h h' : List Ob} {w : World} {p : Nat → Bool} (c : Une m π hd h hd' h') (hl : hd.length = h.length) {ob : Ob} {u : Value} (l : lowOb m ob) (q : obOk w hd h p u (renOb π ob)) : obOk w hd' h' p u ob := by
 have s : Sub (only p w) (only p w) := fun _ _ h => h
 cases ob with
 | dead => trivial
 | hole => exact q
 | cells ds => obtain ⟨B, cs, t, h1, h2, h3, h4⟩ := q; exact ⟨B, cs, t, h1, h2, rdL_une c hl s _ _ l h3, h4⟩
 | buf e k xs =>
  obtain ⟨cs, h1, h2, h3, h4⟩ := q
  have el : (renR π xs).length = xs.length := by rw [renR_map]; simp
  have ef : (renR π xs).flatten = renL π xs.flatten := by rw [renR_map, renL_map, List.map_flatten]; congr 1; apply List.map_congr_left; intro r _; rw [renL_map]
  rw [el] at h1; rw [ef] at h2
  refine ⟨cs, h1, rdL_une c hl s _ _ (lowR_flatten.2 l) h2, fun row hr => ?_, h4⟩
  have := h3 (renL π row) (by rw [renR_map]; exact List.mem_map.2 ⟨row, hr, rfl⟩)
  rwa [renL_map, List.length_map] at this
 | map es clock =>
  obtain ⟨r, arr, h1, h2, h3, h4, h5⟩ := q
  have e1 : (es.map fun e => (e.1, e.2.1, ren π e.2.2)).map (fun e => (e.1, e.2.1)) = es.map fun e => (e.1, e.2.1) := by rw [List.map_map]; rfl
  have e2 : (es.map fun e => (e.1, e.2.1, ren π e.2.2)).map (·.2.2) = renL π (es.map (·.2.2)) := by rw [renL_map, List.map_map, List.map_map]; rfl
  rw [e1] at h3; rw [e2] at h4
  exact ⟨r, arr, h1, h2, h3, rdL_une c hl s _ _ l h4, h5⟩
 | iter i since seen last =>
  obtain ⟨B, r, h1, h2, h3, h4⟩ := q
  exact ⟨B, r, h1, h2, c.hd i l _ h3, h4⟩
def Post (G : Nat → D) (w : World) (hd : List Value) (h : List Ob) (p : Nat → Bool) (K : List Ob → D → Prop) (v : Value) (w' : World) : Prop :=
 ∃ hd' h' r p', K h' r ∧ Ok G w' hd' h' p' ∧ rd hd' h' (only p' w') r v ∧ Evo w hd h p w' hd' h' p'
theorem Post.mono {G : Nat → D} {w w' : World} {hd : List Value} {h : List Ob} {p : Nat → Bool} {K K' : List Ob → D → Prop} {v : Value} (q : Post G w hd h p K v w') (k : ∀ h' r, K h' r → K' h' r) : Post G w hd h p K' v w' := by
 obtain ⟨hd', h', r, p', a, b⟩ := q
 exact ⟨hd', h', r, p', k _ _ a, b⟩
structure Lies (π : Nat → Nat) (h1 h : List Ob) : Prop where
 at_ : ∀ i ob, h1[i]? = some ob → h[π i]? = some (renOb π ob)
 inj : ∀ i j, i < h1.length → j < h1.length → π i = π j → i = j
 lw : lowH h1.length h1
def pull (π : Nat → Nat) (hd : List Value) (m : Nat) : List Value := (List.range m).map fun i => (hd[π i]?).getD .nilFunc
section
variable {G : Nat → D} {w w' : World} {hd : List Value} {h h1 : List Ob} {p : Nat → Bool} {π : Nat → Nat}
theorem pull_at (o : Ok G w hd h p) (L : Lies π h1 h) {i : Nat} (hi : i < h1.length) : (pull π hd h1.length)[i]? = hd[π i]? := by
 have := L.at_ i _ (List.getElem?_eq_getElem hi)
 have hl : π i < hd.length := by rw [o.len]; exact (List.getElem?_eq_some_iff.1 this).1
 simp [pull, hi, hl]
theorem Lies.une (o : Ok G w hd h p) (L : Lies π h1 h) : Une h1.length π hd h (pull π hd h1.length) h1 := by
 refine ⟨fun i hi u q => by rw [pull_at o L hi]; exact q, fun i hi q => ?_, fun i e k xs hi q => ?_⟩
 · obtain ⟨ob, q1, q2⟩ := q
   have := L.at_ i _ (List.getElem?_eq_getElem hi)
   rw [q1] at this; cases this
   exact ⟨_, List.getElem?_eq_getElem hi, by rw [← renOb_hole (π := π)]; exact q2⟩
 · exact ⟨e, renR π xs, L.at_ i _ q, by rw [renR_map]; simp⟩
theorem low_mono0 {m : Nat} {d : D} (q : low 0 d) : low m d := low_mono (Nat.zero_le m) d q
theorem Lies.ok (o : Ok G w hd h p) (hG : ∀ g, low 0 (G g)) (L : Lies π h1 h) : Ok G w (pull π hd h1.length) h1 p := by
 have c := L.une o
 refine ⟨by simp [pull], fun i ob u q1 q2 => ?_, fun i j oi oj ui uj b q1 q2 l1 l2 r1 r2 b1 b2 => ?_, fun g => ?_, o.ex⟩
 · have hi := (List.getElem?_eq_some_iff.1 q1).1
   rw [pull_at o L hi] at q2
   exact obOk_une c o.len (L.lw ob (List.mem_of_getElem? q1)) (o.ob _ _ _ (L.at_ i ob q1) q2)
 · have hi := (List.getElem?_eq_some_iff.1 q1).1
   have hj := (List.getElem?_eq_some_iff.1 q2).1
   rw [pull_at o L hi] at r1; rw [pull_at o L hj] at r2
   exact L.inj i j hi hj (o.inj _ _ _ _ _ _ b (L.at_ i _ q1) (L.at_ j _ q2) (by rw [renOb_live]; exact l1) (by rw [renOb_live]; exact l2) r1 r2 b1 b2)
 · have := o.gl g
   rw [← ren_low0 π _ (hG g)] at this
   exact rd_une c o.len (fun _ _ h => h) _ _ (low_mono0 (hG g)) this
theorem Lies.own (o : Ok G w hd h p) (L : Lies π h1 h) {b : Nat} (q : Own (pull π hd h1.length) h1 b) : ∃ i, i < h1.length ∧ ∃ ob u, h[π i]? = some ob ∧ ob.live = true ∧ hd[π i]? = some u ∧ blk u = some b := by
 obtain ⟨i, ob, u, q1, q2, q3, q4⟩ := q
 have hi := (List.getElem?_eq_some_iff.1 q1).1
 rw [pull_at o L hi] at q3
 exact ⟨i, hi, _, u, L.at_ i ob q1, by rw [renOb_live]; exact q2, q3, q4⟩
theorem Post.frame (o : Ok G w hd h p) (hG : ∀ g, low 0 (G g)) (L : Lies π h1 h) {K1 : List Ob → D → Prop} (fit : ∀ h1' r1, K1 h1' r1 → (∀ i j, i < h1'.length → j < h1'.length → π i = π j → i = j) ∧ ∀ j, h1.length ≤ j → j < h1'.length → h[π j]? = some .hole)
 {v : Value} (q : Post G w (pull π hd h1.length) h1 p K1 v w') : Post G w hd h p (fun h' r => ∃ h1' r1, K1 h1' r1 ∧ h' = plc π h 0 (h1'.map (renOb π)) ∧ r = ren π r1) v w' := by
 obtain ⟨hd1', h1', r1, p', k, o', qr, e⟩ := q
 obtain ⟨inj, slot⟩ := fit _ _ k
 have hle := e.carry.len
 have hin : ∀ j, j < h1'.length → π j < h.length := fun j hj => by
  rcases Nat.lt_or_ge j h1.length with hj' | hj'
  · exact (List.getElem?_eq_some_iff.1 (L.at_ j _ (List.getElem?_eq_getElem hj'))).1
  · exact (List.getElem?_eq_some_iff.1 (slot j hj' hj)).1
 have A1 : ∀ j, j < h1'.length → (plc π h 0 (h1'.map (renOb π)))[π j]? = (h1'[j]?).map (renOb π) := fun j hj => by
  have := plc_at (π := π) (h1'.map (renOb π)) h 0 j (fun a b ha hb he => inj a b (by simpa using ha) (by simpa using hb) (by simpa using he)) (by simpa using hj) (by simpa using hin j hj)
  simpa using this
 have A2 : ∀ j, j < h1'.length → (plc π hd 0 hd1')[π j]? = hd1'[j]? := fun j hj => by
  have := plc_at (π := π) hd1' hd 0 j (fun a b ha hb he => inj a b (by rw [← o'.len]; exact ha) (by rw [← o'.len]; exact hb) (by simpa using he)) (by rw [o'.len]; exact hj) (by rw [o.len]; simpa using hin j hj)
  simpa using this
 have O1 : ∀ x, (∀ j, j < h1'.length → π j ≠ x) → (plc π h 0 (h1'.map (renOb π)))[x]? = h[x]? := fun x hx => plc_other _ _ _ fun i hi => by rw [Nat.zero_add]; exact hx i (by simpa using hi)
 have O2 : ∀ x, (∀ j, j < h1'.length → π j ≠ x) → (plc π hd 0 hd1')[x]? = hd[x]? := fun x hx => plc_other _ _ _ fun i hi => by rw [Nat.zero_add]; exact hx i (by rw [← o'.len]; exact hi)
 have P1 : ∀ j, j < h1.length → (pull π hd h1.length)[j]? = hd[π j]? := fun j hj => pull_at o L hj
 generalize hh : plc π h 0 (h1'.map (renOb π)) = h' at A1 O1
 generalize hv : plc π hd 0 hd1' = hd' at A2 O2
 have len1 : h'.length = h.length := by rw [← hh, plc_len]
 have len2 : hd'.length = hd.length := by rw [← hv, plc_len]
 have split : ∀ x, (∃ j, j < h1'.length ∧ π j = x) ∨ ∀ j, j < h1'.length → π j ≠ x := fun x => by
  by_cases hx : ∃ j, j < h1'.length ∧ π j = x
  · exact .inl hx
  · exact .inr fun j hj he => hx ⟨j, hj, he⟩
 have emb : Emb h1'.length π hd1' h1' hd' h' := by
  refine ⟨fun i hi u q => by rw [A2 i hi]; exact q, fun i hi ⟨ob, q1, q2⟩ => ⟨renOb π ob, by rw [A1 i hi, q1]; rfl, by rw [renOb_hole]; exact q2⟩, fun i E k xs hi _ q => ?_⟩
  rw [A1 i hi, List.getElem?_eq_getElem hi] at q
  simp only [Option.map_some, Option.some.injEq] at q
  cases ho : h1'[i] with
  | buf e0 k0 ys => rw [ho] at q; cases q; exact ⟨_, ys, by rw [List.getElem?_eq_getElem hi, ho], by rw [renR_map]; simp⟩
  | _ => rw [ho] at q; cases q
 have own1 : ∀ b, b < w.heap.size → Own hd1' h1' b → ∃ i, i < h1.length ∧ ∃ ob u, h[π i]? = some ob ∧ ob.live = true ∧ hd[π i]? = some u ∧ blk u = some b := fun b hb ho => L.own o (e.own b hb ho)
 have ownR : ∀ {b : Nat}, Own (pull π hd h1.length) h1 b → Own hd h b := fun ho => by
  obtain ⟨i, _, ob, u, q1, q2, q3, q4⟩ := L.own o ho
  exact ⟨π i, ob, u, q1, q2, q3, q4⟩
 have ownB : ∀ {b x : Nat} {ob : Ob} {u : Value}, h'[x]? = some ob → ob.live = true → hd'[x]? = some u → blk u = some b → (∃ j, j < h1'.length ∧ π j = x) → Own hd1' h1' b := fun {b x ob u} q1 q2 q3 q4 ⟨j, hj, hx⟩ => by
  subst hx
  rw [A1 j hj, List.getElem?_eq_getElem hj] at q1
  cases q1
  rw [A2 j hj] at q3
  exact ⟨j, _, u, List.getElem?_eq_getElem hj, by rw [← renOb_live (π := π)]; exact q2, q3, q4⟩
 have nohole : ∀ {j : Nat} {u : Value}, h1.length ≤ j → j < h1'.length → hd[π j]? = some u → u = .nilFunc := fun {j u} h2 h3 hu => o.ob _ _ _ (slot j h2 h3) hu
 have E : Evo w hd h p w' hd' h' p' := by
  refine ⟨e.os, e.tape, e.output, e.size, fun b hb hn => e.keep b hb fun ho => hn (ownR ho), e.vis, fun b hb hp => (e.seen b hb hp).imp id ownR, fun b hb ho => ?_, by omega, fun i B q => ?_, fun i B q => ?_, fun i q => ?_, fun i E k xs hu q => ?_⟩
  · obtain ⟨x, ob, u, q1, q2, q3, q4⟩ := ho
    rcases split x with hx | hx
    · exact ownR (e.own b hb (ownB q1 q2 q3 q4 hx))
    · rw [O1 x hx] at q1; rw [O2 x hx] at q3
      exact ⟨x, ob, u, q1, q2, q3, q4⟩
  · rcases split i with ⟨j, hj, rfl⟩ | hx
    · rcases Nat.lt_or_ge j h1.length with hj' | hj'
      · rw [A2 j hj]; exact e.carry.ptr j B (by rw [P1 j hj']; exact q)
      · cases nohole hj' hj q
    · rw [O2 i hx]; exact q
  · rcases split i with ⟨j, hj, rfl⟩ | hx
    · rcases Nat.lt_or_ge j h1.length with hj' | hj'
      · rw [A2 j hj]; exact e.carry.mp j B (by rw [P1 j hj']; exact q)
      · cases nohole hj' hj q
    · rw [O2 i hx]; exact q
  · rcases split i with ⟨j, hj, rfl⟩ | hx
    · rcases Nat.lt_or_ge j h1.length with hj' | hj'
      · exact emb.usd j hj (e.carry.usd j ((L.une o).usd j hj' q))
      · obtain ⟨ob, q1, q2⟩ := q
        rw [slot j hj' hj] at q1; cases q1; cases q2
    · obtain ⟨ob, q1, q2⟩ := q
      exact ⟨ob, by rw [O1 i hx]; exact q1, q2⟩
  · rcases split i with ⟨j, hj, rfl⟩ | hx
    · rcases Nat.lt_or_ge j h1.length with hj' | hj'
      · have hu1 := (L.une o).usd j hj' hu
        obtain ⟨e0, ys, g1, g2⟩ := emb.buf j E k xs hj (e.carry.usd j hu1) q
        obtain ⟨e1, zs, g3, g4, g5⟩ := e.carry.buf j e0 k ys hu1 g1
        refine ⟨e1, renR π zs, L.at_ j _ g3, by rw [renR_map, List.length_map]; omega, fun he => ?_⟩
        rw [renR_map, List.length_map] at he
        rw [A2 j hj, g5 (by omega), P1 j hj']
      · obtain ⟨ob, q1, q2⟩ := hu
        rw [slot j hj' hj] at q1; cases q1; cases q2
    · rw [O1 i hx] at q
      exact ⟨E, xs, q, Nat.le_refl _, fun _ => O2 i hx⟩
 have outB : ∀ {x : Nat} {ob : Ob} {u : Value} {b : Nat}, (∀ j, j < h1'.length → π j ≠ x) → h[x]? = some ob → ob.live = true → hd[x]? = some u → blk u = some b → ¬ Own (pull π hd h1.length) h1 b := fun {x ob u b} hx q1 q2 q3 q4 ho => by
  obtain ⟨i, hi, ob', u', g1, g2, g3, g4⟩ := L.own o ho
  exact hx i (by omega) (o.inj _ _ _ _ _ _ b g1 q1 g2 q2 g3 q3 g4 q4)
 refine ⟨hd', h', ren π r1, p', ⟨h1', r1, k, hh.symm, rfl⟩, ⟨by rw [len1, len2]; exact o.len, fun i ob u q1 q2 => ?_, fun i j oi oj ui uj b q1 q2 l1 l2 r1' r2 b1 b2 => ?_, gl_move E o, ex_move E o⟩, rd_emb emb o'.len (fun _ _ h => h) _ _ (rd_low o'.len _ _ qr) qr, E⟩
 · rcases split i with ⟨j, hj, rfl⟩ | hx
   · rw [A1 j hj, List.getElem?_eq_getElem hj] at q1
     rw [A2 j hj] at q2
     cases q1
     exact obOk_emb emb o'.len (o'.allLow _ (List.getElem_mem hj)) (o'.ob j _ u (List.getElem?_eq_getElem hj) q2)
   · rw [O1 i hx] at q1; rw [O2 i hx] at q2
     refine (o.ob i ob u q1 q2).move E o (fun hl b hb => e.keep b (o.lt ⟨i, ob, u, q1, hl, q2, hb⟩) (outB hx q1 hl q2 hb)) fun hl b hb hp => ?_
     cases hp' : p' b with
     | false => rfl
     | true =>
      rcases e.seen b (o.lt ⟨i, ob, u, q1, hl, q2, hb⟩) hp' with h2 | h2
      · rw [hp] at h2; cases h2
      · exact absurd h2 (outB hx q1 hl q2 hb)
 · have mix : ∀ {x y : Nat} {ox oy : Ob} {ux uy : Value}, h'[x]? = some ox → h'[y]? = some oy → ox.live = true → oy.live = true → hd'[x]? = some ux → hd'[y]? = some uy → blk ux = some b → blk uy = some b → (∃ j, j < h1'.length ∧ π j = x) → (∀ j, j < h1'.length → π j ≠ y) → False := fun {x y ox oy ux uy} q1 q2 l1 l2 r1 r2 b1 b2 hx hy => by
    rw [O1 y hy] at q2; rw [O2 y hy] at r2
    have hb := o.lt ⟨y, oy, uy, q2, l2, r2, b2⟩
    exact outB hy q2 l2 r2 b2 (e.own b hb (ownB q1 l1 r1 b1 hx))
   rcases split i with hi | hi <;> rcases split j with hj | hj
   · obtain ⟨a, ha, rfl⟩ := hi
     obtain ⟨c, hc, rfl⟩ := hj
     rw [A1 a ha, List.getElem?_eq_getElem ha] at q1
     rw [A1 c hc, List.getElem?_eq_getElem hc] at q2
     rw [A2 a ha] at r1'; rw [A2 c hc] at r2
     cases q1; cases q2
     rw [o'.inj a c _ _ ui uj b (List.getElem?_eq_getElem ha) (List.getElem?_eq_getElem hc) (by rw [← renOb_live (π := π)]; exact l1) (by rw [← renOb_live (π := π)]; exact l2) r1' r2 b1 b2]
   · exact (mix q1 q2 l1 l2 r1' r2 b1 b2 hi hj).elim
   · exact (mix q2 q1 l2 l1 r2 r1' b2 b1 hj hi).elim
   · rw [O1 i hi] at q1; rw [O2 i hi] at r1'
     rw [O1 j hj] at q2; rw [O2 j hj] at r2
     exact o.inj i j oi oj ui uj b q1 q2 l1 l2 r1' r2 b1 b2
end
end
end Go.Proofs.YtgkjcmglcnhpaaaGreatDoor
