/-
  What the statements of the chapter share, part 08: F2, F3, F4, WR0.
-/
import Derived.Test.YtgkjcmglcnhpaaaGreatDoorG06
import Derived.Test.YtgkjcmglcnhpaaaGreatDoorG07
set_option linter.unusedVariables false
set_option linter.unusedSimpArgs false
set_option maxRecDepth 100000
set_option maxHeartbeats 8000000
namespace Go.Proofs.YtgkjcmglcnhpaaaGreatDoor
open Go.RowKit
section
variable {P : Program} {G : Nat → D} {n : Nat} {e : Nat → D} {h h1 : List Ob} {ops : Array Oper} {md : Region.Mode}
def opds (o : Op) : List Operand := o.operands.toList
def OpTri (P : Program) (G : Nat → D) (o : Oper) (args : List D) (h : List Ob) (K : List Ob → D → Prop) : Prop :=
 ∀ (a : Act) w hd p (R : Exit → Act → World → Prop), a.defers = [] → Ok G w hd h p → rdL hd h (only p w) args ((opds o.op).map a.eval) → o.wp P a w (fun a' w' => ∃ v, a' = a.put o.dst v ∧ Post G w hd h p K v w') R
theorem OpTri.mono {o : Oper} {args : List D} {K K' : List Ob → D → Prop} (q : OpTri P G o args h K) (k : ∀ h' r, K h' r → K' h' r) : OpTri P G o args h K' := fun a w hd p R hd0 ok ha =>
 Oper.wp_mono (fun _ _ ⟨v, e, q⟩ => ⟨v, e, q.mono k⟩) (q a w hd p R hd0 ok ha)
theorem opds_env {a : Act} {w : World} {hd : List Value} {W : World} (op : Op) (ha : rdL hd h W ((opds op).map (ev G e)) ((opds op).map a.eval)) : ∀ t, Operand.tmp t ∈ opds op → rd hd h W (e t) (a.tmps.getD t undef) := fun t ht => by
 obtain ⟨j, hj, hx⟩ := List.getElem_of_mem ht
 obtain ⟨u, h1, h2⟩ := ((rdL_iff _ _).1 ha).2 j (e t) (by rw [List.getElem?_map, List.getElem?_eq_getElem hj, hx]; rfl)
 rw [List.getElem?_map, List.getElem?_eq_getElem hj, hx] at h1
 cases h1; exact h2
open Classical in
theorem tri_of_aOp {K : List Ob → D → Prop} {o : Oper} (q : aOp P G e h K o.op) : OpTri P G o ((opds o.op).map (ev G e)) h K := fun a w hd p R hdf ok ha => by
 obtain ⟨dst, op, ty, pos, aft, gd⟩ := o
 have r : Sat G ⟨w, hd, h, p⟩ ⟨a.tmps.size, fun t => if Operand.tmp t ∈ opds op then e t else .any, h⟩ a w hd p := ⟨ok, .refl _ _ _ _, fun t => by
  show rd _ _ _ (if _ then _ else _) _
  split
  · rename_i ht; exact opds_env (w := w) op ha t ht
  · rw [rd]; trivial, rfl, hdf⟩
 have q2 : aOp P G (fun t => if Operand.tmp t ∈ opds op then e t else .any) h K op := aOp_congr (fun x hx => by
  cases x with
  | tmp t => show (if Operand.tmp t ∈ opds op then e t else .any) = e t; rw [if_pos (by unfold opds; simpa using hx)]
  | _ => rfl) q
 obtain ⟨v, w', hd', h', p', d, hr, k, o', q', ev'⟩ := aOp_sound (dst := dst) (ty := ty) (pos := pos) (aft := aft) (gd := gd) r q2
 unfold Oper.wp
 rcases hr with hr | ⟨hr, rfl⟩
 · rw [hr]; exact ⟨v, rfl, hd', h', d, p', k, o', q', ev'⟩
 · rw [hr]; exact ⟨undef, rfl, hd', h', d, p', k, o', q', ev'⟩
theorem does_post {f : FuncId} {args : List D} {K : List Ob → D → Prop} : Does P G f h args K ↔ ∀ w hd p vs, Ok G w hd h p → rdL hd h (only p w) args vs → Calls P f vs.toArray w fun e w' => ∃ v, e = .returned v ∧ Post G w hd h p K v w' := by
 constructor
 · exact fun q w hd p vs o ha => (q w hd p vs o ha).mono fun _ _ ⟨v, hd', h', r, p', e, k, o', q', ev⟩ => ⟨v, e, hd', h', r, p', k, o', q', ev⟩
 · exact fun q w hd p vs o ha => (q w hd p vs o ha).mono fun _ _ ⟨v, e, hd', h', r, p', k, o', q', ev⟩ => ⟨v, hd', h', r, p', e, k, o', q', ev⟩
theorem tri_of_call {K : List Ob → D → Prop} {dst : Option Nat} {x : Operand} {args : Array Operand} {tys : Array TypeId} {ty : TypeId} {pos : String} {aft : Array Edge} {gd : Option (Nat × Bool)} {f : FuncId} {cap xs : List D} (he : entB P f = true) (hc : Does P G f h (xs ++ cap) K) :
 OpTri P G ⟨dst, .call ⟨.value x, args, tys⟩, ty, pos, aft, gd⟩ (.fn f cap :: xs) h K := fun a w hd p R hdf ok ha => by
 have ho : opds (.call ⟨.value x, args, tys⟩) = x :: args.toList := by simp [opds, Op.operands, Call.operands]
 rw [ho, List.map_cons, rdL] at ha
 obtain ⟨u, t, e0, q, ha⟩ := ha
 cases e0
 rw [rd] at q
 obtain ⟨cs, e1, q⟩ := q
 have hrun : (execOp a.eval ⟨dst, .call ⟨.value x, args, tys⟩, ty, pos, aft, gd⟩).run P w = .ok (.enter f (args.map a.eval ++ cs)) w := by
  simp [execOp, resolve, e1, Deferred.ofValue, invoke, run_enter he]
 unfold Oper.wp
 rw [hrun, Oper.upon_enter]
 have := does_post.1 hc w hd p _ ok (rdL_append ha q)
 rw [show (args.toList.map a.eval ++ cs.toList).toArray = args.map a.eval ++ cs by apply Array.ext'; simp] at this
 refine this.mono ?_
 rintro e w' ⟨v, rfl, q⟩
 exact ⟨v, rfl, q⟩
section
variable {π : Nat → Nat} {args : List D} {K1 : List Ob → D → Prop}
def Fits (π : Nat → Nat) (m : Nat) (h : List Ob) (K1 : List Ob → D → Prop) : Prop := ∀ h1' r1, K1 h1' r1 → (∀ i j, i < h1'.length → j < h1'.length → π i = π j → i = j) ∧ ∀ j, m ≤ j → j < h1'.length → h[π j]? = some .hole
def inGreat (π : Nat → Nat) (h : List Ob) (K1 : List Ob → D → Prop) (h' : List Ob) (r : D) : Prop := ∃ h1' r1, K1 h1' r1 ∧ h' = plc π h 0 (h1'.map (renOb π)) ∧ r = ren π r1
theorem OpTri.frame (hG : ∀ g, low 0 (G g)) (L : Lies π h1 h) (la : lowL h1.length args) (fit : Fits π h1.length h K1) {o : Oper} (q : OpTri P G o args h1 K1) : OpTri P G o (renL π args) h (inGreat π h K1) := fun a w hd p R hdf ok ha =>
 Oper.wp_mono (fun _ _ ⟨v, e, q⟩ => ⟨v, e, q.frame ok hG L fit⟩) (q a w _ p R hdf (L.ok ok hG) (rdL_une (L.une ok) ok.len (fun _ _ h => h) _ _ la ha))
theorem Does.frame (hG : ∀ g, low 0 (G g)) (L : Lies π h1 h) (la : lowL h1.length args) (fit : Fits π h1.length h K1) {f : FuncId} (q : Does P G f h1 args K1) : Does P G f h (renL π args) (inGreat π h K1) := does_post.2 fun w hd p vs ok ha =>
 (does_post.1 q w _ p vs (L.ok ok hG) (rdL_une (L.une ok) ok.len (fun _ _ h => h) _ _ la ha)).mono fun _ _ ⟨v, e, q⟩ => ⟨v, e, q.frame ok hG L fit⟩
end
def holes (c : Nat) : List Ob := List.replicate c .hole
theorem Ok.holes {w : World} {hd : List Value} {p : Nat → Bool} (o : Ok G w hd h p) (c : Nat) : Ok G w (hd ++ List.replicate c .nilFunc) (h ++ Go.Proofs.YtgkjcmglcnhpaaaGreatDoor.holes c) p ∧ Evo w hd h p w (hd ++ List.replicate c .nilFunc) (h ++ Go.Proofs.YtgkjcmglcnhpaaaGreatDoor.holes c) p := by
 have hol : ∀ {i : Nat} {ob : Ob}, (h ++ Go.Proofs.YtgkjcmglcnhpaaaGreatDoor.holes c)[i]? = some ob → h[i]? = some ob ∨ (h.length ≤ i ∧ ob = .hole) := fun {i ob} q => by
  rcases Nat.lt_or_ge i h.length with hi | hi
  · rw [List.getElem?_append_left hi] at q; exact .inl q
  · rw [List.getElem?_append_right hi] at q
    exact .inr ⟨hi, (List.mem_replicate.1 (List.mem_of_getElem? q)).2⟩
 have old : ∀ {i : Nat} {ob : Ob} {u : Value}, (h ++ Go.Proofs.YtgkjcmglcnhpaaaGreatDoor.holes c)[i]? = some ob → ob.live = true → (hd ++ List.replicate c Value.nilFunc)[i]? = some u → h[i]? = some ob ∧ hd[i]? = some u := fun {i ob u} q l r => by
  rcases hol q with h' | ⟨_, rfl⟩
  · exact ⟨h', by rwa [List.getElem?_append_left (by rw [o.len]; exact (List.getElem?_eq_some_iff.1 h').1)] at r⟩
  · cases l
 have e : Evo w hd h p w (hd ++ List.replicate c .nilFunc) (h ++ Go.Proofs.YtgkjcmglcnhpaaaGreatDoor.holes c) p := by
  refine ⟨⟨rfl, Nat.le_refl _⟩, rfl, rfl, Nat.le_refl _, fun _ _ _ => rfl, fun _ _ q => q, fun _ _ q => .inl q, fun b _ ⟨i, ob, u, q1, q2, q3, q4⟩ => ?_, by simp, fun i B q => ?_, fun i B q => ?_, fun _ q => q.app, fun i E k xs hu q => ?_⟩
  · obtain ⟨h1, h2⟩ := old q1 q2 q3
    exact ⟨i, ob, u, h1, q2, h2, q4⟩
  · rw [List.getElem?_append_left (List.getElem?_eq_some_iff.1 q).1]; exact q
  · rw [List.getElem?_append_left (List.getElem?_eq_some_iff.1 q).1]; exact q
  · rw [List.getElem?_append_left hu.lt] at q
    exact ⟨E, xs, q, Nat.le_refl _, fun _ => by rw [List.getElem?_append_left (by rw [o.len]; exact hu.lt)]⟩
 refine ⟨⟨by simp [o.len, Go.Proofs.YtgkjcmglcnhpaaaGreatDoor.holes], fun i ob u q1 q2 => ?_, fun i j oi oj ui uj b q1 q2 l1 l2 r1 r2 => ?_, gl_move e o, ex_move e o⟩, e⟩
 · rcases hol q1 with h' | ⟨hi, rfl⟩
   · rw [List.getElem?_append_left (by rw [o.len]; exact (List.getElem?_eq_some_iff.1 h').1)] at q2
     exact (o.ob i ob u h' q2).move e o (fun _ _ _ => rfl) fun _ _ _ q => q
   · rw [List.getElem?_append_right (by rw [o.len]; exact hi)] at q2
     exact (List.mem_replicate.1 (List.mem_of_getElem? q2)).2
 · obtain ⟨a1, a2⟩ := old q1 l1 r1
   obtain ⟨c1, c2⟩ := old q2 l2 r2
   exact o.inj i j oi oj ui uj b a1 c1 l1 l2 a2 c2
theorem Post.before {w w' : World} {hd hd' : List Value} {h h' : List Ob} {p p' : Nat → Bool} (e : Evo w hd h p w hd' h' p') {K : List Ob → D → Prop} {v : Value} (q : Post G w hd' h' p' K v w') : Post G w hd h p K v w' := by
 obtain ⟨hd2, h2, r, p2, k, o, q, e2⟩ := q
 exact ⟨hd2, h2, r, p2, k, o, q, e.trans e2⟩
theorem Does.holes {f : FuncId} {args : List D} {K : List Ob → D → Prop} (c : Nat) (q : Does P G f (h ++ Go.Proofs.YtgkjcmglcnhpaaaGreatDoor.holes c) args K) : Does P G f h args K := does_post.2 fun w hd p vs ok ha => by
 obtain ⟨ok2, e⟩ := ok.holes c
 exact (does_post.1 q w _ p vs ok2 (e.rdL ok ha)).mono fun _ _ ⟨v, e1, q⟩ => ⟨v, e1, q.before e⟩
theorem Sit_holes {B : Base} {a : Act} {w : World} (c : Nat) (r : Sit G B ⟨n, e, h⟩ a w) : Sit G B ⟨n, e, h ++ holes c⟩ a w := by
 obtain ⟨hd, p, r⟩ := r
 obtain ⟨o, ev⟩ := r.ok.holes c
 exact ⟨_, p, o, r.evo.trans ev, fun t => ev.rd r.ok (r.tmp t), r.size, r.defers⟩
structure Ef where
 R : List (Nat × Ob)
 W : List (Nat × Ob)
 d : D
def Ef.ok (E : Ef) (h : List Ob) : Prop := ∀ x ∈ E.R, h[x.1]? = some x.2
def Ef.heap (E : Ef) (h : List Ob) : List Ob := setAll h E.W
def Ef.fit (E : Ef) : Prop := ∀ x ∈ E.W, ∃ y ∈ E.R, y.1 = x.1
def nopF : Ef := ⟨[], [], .v undef⟩
def YT (P : Program) (G : Nat → D) (o : Oper) (args : List D) (E : Ef) : Prop := E.fit ∧ ∀ h, E.ok h → OpTri P G o args h (fun h' r => h' = E.heap h ∧ r = E.d)
def YDT (P : Program) (G : Nat → D) (ops : Array Oper) (o : Oper) (E : Ef) (e : Nat → D) : Prop := (wantedD ops o.guard e = some true ∧ YT P G o ((opds o.op).map (ev G e)) E) ∨ (wantedD ops o.guard e = some false ∧ E = nopF)
theorem YDT.fit {o : Oper} {E : Ef} (q : YDT P G ops o E e) : E.fit := by
 rcases q with ⟨_, q⟩ | ⟨_, rfl⟩
 · exact q.1
 · simp [nopF, Ef.fit]
theorem YDT.congr {o : Oper} {E : Ef} {dst : Option Nat} {v : D} (q : ∀ t, dst = some t → t ∉ o.looksAt ops) : YDT P G ops o E (putE n e dst v) ↔ YDT P G ops o E e := by
 have key : (opds o.op).map (ev G (putE n e dst v)) = (opds o.op).map (ev G e) := List.map_congr_left fun x hx => ev_putE fun t ht => looks_opnd (q t ht) x (by unfold opds at hx; simpa using hx)
 unfold YDT
 rw [wantedD_put q, key]
def compF (E F : Ef) : Prop := (∀ x ∈ E.W, ∀ y ∈ F.R, x.1 ≠ y.1) ∧ (∀ x ∈ F.W, ∀ y ∈ E.R, x.1 ≠ y.1)
theorem compF.symm {E F : Ef} (q : compF E F) : compF F E := ⟨q.2, q.1⟩
theorem Ef.heap_len (E : Ef) (h : List Ob) : (E.heap h).length = h.length := setAll_len _ _
theorem Ef.ok_after {E F : Ef} (c : compF E F) : F.ok (E.heap h) ↔ F.ok h := by
 constructor <;> intro q y hy <;> have := q y hy <;> unfold Ef.heap at * <;> rw [setAll_get _ _ fun x hx => c.1 x hx y hy] at * <;> exact this
theorem Ef.heap_comm {E F : Ef} (c : compF E F) (fF : F.fit) : F.heap (E.heap h) = E.heap (F.heap h) := setAll_comm E.W F.W h fun x hx y hy => by
 obtain ⟨z, hz, he⟩ := fF y hy
 rw [← he]; exact c.1 x hx z hz
def afOp (P : Program) (G : Nat → D) (n : Nat) (ops : Array Oper) (ef : Nat → Ef) (i : Nat) (K : (Nat → D) → List Ob → Prop) (e : Nat → D) (h : List Ob) : Prop := match ops[i]? with
 | none => K e h
 | some o => YDT P G ops o (ef i) e ∧ (ef i).ok h ∧ K (putE n e o.dst (ef i).d) ((ef i).heap h)
def afAny (P : Program) (G : Nat → D) (n : Nat) (md : Region.Mode) (ops : Array Oper) (ef : Nat → Ef) (Q : (Nat → D) → List Ob → Prop) : Nat → Array Bool → (Nat → D) → List Ob → Prop
 | 0, listed, e, h => Region.ready md ops listed = [] ∧ Q e h
 | fuel + 1, listed, e, h => (Region.ready md ops listed = [] → Q e h) ∧ ∀ i ∈ Region.ready md ops listed, afOp P G n ops ef i (afAny P G n md ops ef Q fuel (listed.setIfInBounds i true)) e h
theorem afAny_first {ef : Nat → Ef} {Q : (Nat → D) → List Ob → Prop} {i : Nat} {oi : Oper} (hi : ops[i]? = some oi) : ∀ (fuel : Nat) (listed : Array Bool) (e : Nat → D) (h : List Ob), Closed md ops listed →
 (∀ j oj, ops[j]? = some oj → j ≠ i → listed.getD j true = false → (∀ e ∈ oj.after, Region.binds md e = true → e.on ≠ i) → (∀ k, twB md ops k j i = false) → oi.apart ops oj = true ∧ compF (ef i) (ef j)) →
 i ∈ Region.ready md ops listed → YDT P G ops oi (ef i) e → (ef i).ok h → afAny P G n md ops ef Q fuel (listed.setIfInBounds i true) (putE n e oi.dst (ef i).d) ((ef i).heap h) → afAny P G n md ops ef Q (fuel + 1) listed e h := by
  intro fuel
  induction fuel with
  | zero =>
    intro listed a h _ _ hr hy hk H
    refine ⟨fun h => (by rw [h] at hr; cases hr), fun j hj => ?_⟩
    by_cases hji : j = i
    · subst hji; unfold afOp; simp only [hi]; exact ⟨hy, hk, H⟩
    · have := ready_mono hj hji
      rw [H.1] at this
      cases this
  | succ fuel ih =>
    intro listed a h hcl hfree hr hy hk H
    refine ⟨fun h => (by rw [h] at hr; cases hr), fun j hj => ?_⟩
    by_cases hji : j = i
    · subst hji; unfold afOp; simp only [hi]; exact ⟨hy, hk, H⟩
    · have h1 := H.2 j (ready_mono hj hji)
      obtain ⟨hjun, oj, hoj, hall⟩ := mem_ready.1 hj
      have hnot : ∀ e ∈ oj.after, Region.binds md e = true → e.on ≠ i := fun e he hb heq => by
        have h1 := hall e he hb
        have h0 := (mem_ready.1 hr).1
        rw [heq] at h1
        rcases Nat.lt_or_ge i listed.size with h' | h'
        · simp [h'] at h0 h1; rw [h0] at h1; cases h1
        · simp [Array.getElem?_eq_none h'] at h1
      have hnt : ∀ k, twB md ops k j i = false := fun k => by
       cases ht : twB md ops k j i with
       | false => rfl
       | true =>
        have h1 := twB_spec hcl (Array.getElem?_eq_some_iff.1 hi).1 k j oj hoj hall ht
        have h0 := (mem_ready.1 hr).1
        rw [Array.getD_eq_getD_getElem?] at h0 h1
        cases hl : listed[i]? with
        | none => rw [hl] at h0; cases h0
        | some b => rw [hl] at h0 h1; simp at h0 h1; rw [h0] at h1; cases h1
      obtain ⟨hap, hc⟩ := hfree j oj hoj hji hjun hnot hnt
      obtain ⟨a1, a2, a3⟩ := Oper.apart_spec hap
      unfold afOp at h1 ⊢
      simp only [hoj] at h1 ⊢
      obtain ⟨y1, y2, y3⟩ := h1
      have yj : YDT P G ops oj (ef j) a := (YDT.congr a1).1 y1
      have kj : (ef j).ok h := (Ef.ok_after hc).1 y2
      have ki : (ef i).ok ((ef j).heap h) := (Ef.ok_after hc.symm).2 hk
      have hfree' : ∀ k ok, ops[k]? = some ok → k ≠ i → (listed.setIfInBounds j true).getD k true = false →
          (∀ e ∈ ok.after, Region.binds md e = true → e.on ≠ i) → (∀ f, twB md ops f k i = false) → oi.apart ops ok = true ∧ compF (ef i) (ef k) := fun k ok hk hki hun hno hnt => by
        refine hfree k ok hk hki ?_ hno hnt
        by_cases hjk : j = k
        · subst hjk; exact hjun
        · rw [getD_set_ne true hjk] at hun; exact hun
      refine ⟨yj, kj, ih (listed.setIfInBounds j true) _ _ (hcl.set hj) hfree' (ready_mono hr (Ne.symm hji)) ((YDT.congr a3).2 hy) ki ?_⟩
      rw [Array.setIfInBounds_comm _ _ hji]
      rw [← Ef.heap_comm hc yj.fit, ← putE_comm a2]
      exact y3
def efOk (md : Region.Mode) (ops : Array Oper) (ef : Nat → Ef) : Prop := ∀ i j oj, i < j → ops[j]? = some oj → (∀ e ∈ oj.after, Region.binds md e = true → e.on ≠ i) → (∀ k, twB md ops k j i = false) → compF (ef i) (ef j)
def af (P : Program) (G : Nat → D) (n : Nat) (ops : Array Oper) (ef : Nat → Ef) (Q : (Nat → D) → List Ob → Prop) : Nat → List Oper → (Nat → D) → List Ob → Prop
 | _, [], e, h => Q e h
 | k, o :: rest, e, h => YDT P G ops o (ef k) e ∧ (ef k).ok h ∧ af P G n ops ef Q (k + 1) rest (putE n e o.dst (ef k).d) ((ef k).heap h)
section
variable {B : Base} {a : Act} {w : World}
theorem tri_sound {o : Oper} {h' : List Ob} {d : D} {K : Act → World → Prop} {R : Exit → Act → World → Prop} (q : OpTri P G o ((opds o.op).map (ev G e)) h (fun h1 d1 => h1 = h' ∧ d1 = d)) (r : Sit G B ⟨n, e, h⟩ a w) (k : ∀ a' w', Sit G B ⟨n, putE n e o.dst d, h'⟩ a' w' → K a' w') : o.wp P a w K R := by
 obtain ⟨hd, p, r⟩ := r
 refine Oper.wp_mono ?_ (q a w hd p R r.defers r.ok (rdL_map r _))
 rintro a' w' ⟨v, rfl, hd', h'', d', p', ⟨rfl, rfl⟩, o', q', ev'⟩
 have := r.put o' ev' q' o.dst
 rw [put_putE] at this
 exact k _ _ ⟨hd', p', this⟩
theorem afAny_sound {ef : Nat → Ef} {Q : (Nat → D) → List Ob → Prop} {R : Exit → Act → World → Prop} (k : ∀ e h a w, Q e h → Sit G B ⟨n, e, h⟩ a w → R .normal a w) : ∀ (fuel : Nat) (listed : Array Bool) (e : Nat → D) (h : List Ob) (a : Act) (w : World), Sit G B ⟨n, e, h⟩ a w → afAny P G n md ops ef Q fuel listed e h → wpAny P md ops R fuel listed a w
 | 0, _, _, _, _, _, r, q => ⟨q.1, k _ _ _ _ q.2 r⟩
 | fuel + 1, listed, e, h, a, w, r, q => ⟨fun h0 => k _ _ _ _ (q.1 h0) r, fun i hi => by
   have q2 := q.2 i hi
   unfold afOp at q2
   unfold wpOp
   split
   · rename_i ho; rw [ho] at q2; exact afAny_sound k fuel _ _ _ _ _ r q2
   · rename_i o ho
     rw [ho] at q2
     obtain ⟨hy, hk, hn⟩ := q2
     obtain ⟨hd, p, r'⟩ := id r
     rcases hy with ⟨hw, _, hs⟩ | ⟨hw, hE⟩
     · have hw' := wantedD_sound (o := o) r' hw
       rw [if_pos hw']
       exact .inl (tri_sound (hs h hk) r fun a' w' r2 => afAny_sound k fuel _ _ _ _ _ r2 hn)
     · have hw' := wantedD_sound (o := o) r' hw
       rw [if_neg (by rw [hw']; decide)]
       rw [hE] at hn
       have r3 := r'.put0 (d := .v undef) (v := undef) (by rw [rd]) o.dst
       rw [put_putE] at r3
       exact afAny_sound k fuel _ _ _ _ _ ⟨hd, p, r3⟩ hn⟩
end
theorem aw_holes {c : Code} {Q : Exit → S → Prop} (k : Nat) (q : aw P G c Q ⟨n, e, h ++ holes k⟩) : aw P G c Q ⟨n, e, h⟩ := fun B a w r => q B a w (Sit_holes k r)
theorem ao_tri {o : Oper} {rest : List Oper} {Q : S → Prop} {h' : List Ob} {d : D} (hw : wantedD ops o.guard e = some true) (q : OpTri P G o ((opds o.op).map (ev G e)) h (fun h1 d1 => h1 = h' ∧ d1 = d)) (k : ao P G ops rest Q ⟨n, putE n e o.dst d, h'⟩) : ao P G ops (o :: rest) Q ⟨n, e, h⟩ := by
 rintro B a w r R hR
 obtain ⟨hd, p, r'⟩ := id r
 unfold wpList
 rw [if_pos (wantedD_sound (o := o) r' hw)]
 exact .inl (tri_sound q r fun a' w' r2 => k B a' w' r2 R hR)
theorem ao_triN {o : Oper} {rest : List Oper} {Q : S → Prop} (hw : wantedD ops o.guard e = some false) (k : ao P G ops rest Q ⟨n, putE n e o.dst (.v undef), h⟩) : ao P G ops (o :: rest) Q ⟨n, e, h⟩ := by
 obtain ⟨dst, op, ty, pos, aft, gd⟩ := o
 exact ao_skip hw (by rw [put_putE]; exact k)
end
section
set_option linter.unusedSectionVars false
theorem bqT {a b : Nat} (q : Nat.beq a b = true) : a = b := Nat.eq_of_beq_eq_true q
theorem bqF {a b : Nat} (q : Nat.beq a b = false) : a ≠ b := Nat.ne_of_beq_eq_false q
theorem bqE (a b : Nat) : Nat.beq a b = decide (a = b) := by
 cases h : Nat.beq a b
 · rw [decide_eq_false (bqF h)]
 · rw [decide_eq_true (bqT h)]
inductive Tr where
 | leaf
 | node (d : D) (l r : Tr)
def Tr.get : Tr → Nat → D
 | .leaf, _ => .any
 | .node d l r, i => bif Nat.beq i 0 then d else bif Nat.beq (i % 2) 1 then l.get (i / 2) else r.get (i / 2 - 1)
def Tr.set : Nat → Tr → Nat → D → Tr
 | 0, t, _, _ => t
 | k + 1, .leaf, i, d => bif Nat.beq i 0 then .node d .leaf .leaf else bif Nat.beq (i % 2) 1 then .node .any (Tr.set k .leaf (i / 2) d) .leaf else .node .any .leaf (Tr.set k .leaf (i / 2 - 1) d)
 | k + 1, .node d0 l r, i, d => bif Nat.beq i 0 then .node d l r else bif Nat.beq (i % 2) 1 then .node d0 (Tr.set k l (i / 2) d) r else .node d0 l (Tr.set k r (i / 2 - 1) d)
theorem Tr.get_set : ∀ (k : Nat) (t : Tr) (i : Nat) (d : D) (j : Nat), i + 1 < 2 ^ k → (Tr.set k t i d).get j = if j = i then d else t.get j := by
 have bq := bqE
 intro k
 induction k with
 | zero => intro t i d j h; simp at h
 | succ k ih =>
  intro t i d j h
  have h2 : i + 1 < 2 * 2 ^ k := by rw [Nat.pow_succ] at h; omega
  have key : ∀ (d0 : D) (l r : Tr), (bif Nat.beq i 0 then Tr.node d l r else bif Nat.beq (i % 2) 1 then .node d0 (Tr.set k l (i / 2) d) r else .node d0 l (Tr.set k r (i / 2 - 1) d)).get j = if j = i then d else (Tr.node d0 l r).get j := fun d0 l r => by
   simp only [bq]
   by_cases h0 : i = 0
   · subst h0
     by_cases hj : j = 0 <;> simp [hj, Tr.get, bq]
   · by_cases h1 : i % 2 = 1
     · simp only [h0, h1, decide_false, decide_true, cond_false, cond_true, Tr.get, bq]
       rw [ih l (i / 2) d (j / 2) (by omega)]
       by_cases hj0 : j = 0
       · subst hj0; simp [Ne.symm h0]
       · by_cases hj1 : j % 2 = 1
         · simp only [hj0, hj1, decide_false, decide_true, cond_false, cond_true]
           by_cases hji : j = i
           · subst hji; simp
           · rw [if_neg (by omega), if_neg hji]
         · simp only [hj0, hj1, decide_false, cond_false]
           rw [if_neg (by omega)]
     · simp only [h0, h1, decide_false, cond_false, Tr.get, bq]
       rw [ih r (i / 2 - 1) d (j / 2 - 1) (by omega)]
       by_cases hj0 : j = 0
       · subst hj0; simp [Ne.symm h0]
       · by_cases hj1 : j % 2 = 1
         · simp only [hj0, hj1, decide_false, decide_true, cond_false, cond_true]
           rw [if_neg (by omega)]
         · simp only [hj0, hj1, decide_false, cond_false]
           by_cases hji : j = i
           · subst hji; simp
           · rw [if_neg (by omega), if_neg hji]
  cases t with
  | leaf =>
   rw [Tr.set]
   have := key .any .leaf .leaf
   have e1 : ∀ x, Tr.get .leaf x = .any := fun _ => rfl
   have e2 : (Tr.node .any .leaf .leaf).get j = Tr.get .leaf j := by simp only [Tr.get]; cases Nat.beq j 0 <;> cases Nat.beq (j % 2) 1 <;> rfl
   rw [e2] at this; exact this
  | node d0 l r => rw [Tr.set]; exact key d0 l r
/-! The names that a datum bears. -/
mutual
def refs : D → List Nat
 | .any | .v _ | .e0 => []
 | .sl _ xs => refsR xs
 | .agg ds | .tup ds | .rp ds | .fn _ ds => refsL ds
 | .ptr i _ | .buf i _ | .bp i _ _ _ | .win i _ _ _ | .arr i _ _ _ _ | .mp i => [i]
def refsL : List D → List Nat
 | [] => []
 | d :: t => match refs d with
  | [] => refsL t
  | a :: l => a :: l ++ refsL t
def refsR : List (List D) → List Nat
 | [] => []
 | d :: t => match refsL d with
  | [] => refsR t
  | a :: l => a :: l ++ refsR t
end
def refsOb : Ob → List Nat
 | .cells ds => refsL ds
 | .buf _ _ xs => refsR xs
 | .map es _ => refsL (es.map (·.2.2))
 | .iter m _ _ _ => [m]
 | .hole | .dead => []
def memN (i : Nat) : List Nat → Bool
 | [] => false
 | a :: t => bif Nat.beq a i then true else memN i t
def addR (R : List Nat) : List Nat → List Nat
 | [] => R
 | i :: t => bif memN i R then addR R t else addR (R ++ [i]) t
def closeR (h : List Ob) : Nat → Nat → List Nat → List Nat
 | 0, _, R => R
 | k + 1, j, R => match R[j]? with
  | none => R
  | some i => match h[i]? with
   | some ob => closeR h k (j + 1) (addR R (refsOb ob))
   | none => closeR h k (j + 1) R
def pos (i : Nat) : List Nat → Option Nat
 | [] => none
 | a :: t => bif Nat.beq a i then some 0 else match pos i t with
  | some j => some (j + 1)
  | none => none
theorem pos_spec {i : Nat} : ∀ (R : List Nat) (j : Nat), pos i R = some j → R[j]? = some i
 | [], _, q => by simp [pos] at q
 | a :: t, j, q => by
  rw [pos] at q
  cases hb : Nat.beq a i
  · rw [hb] at q
    simp only [cond_false] at q
    split at q
    · rename_i j' hj; cases q; simpa using pos_spec t j' hj
    · cases q
  · rw [hb] at q
    simp only [cond_true, Option.some.injEq] at q
    subst q
    simpa using bqT hb
mutual
def rnO (R : List Nat) : D → Option D
 | .any => some .any
 | .v x => some (.v x)
 | .e0 => some .e0
 | .sl k xs => match rnR R xs with
  | some ys => some (.sl k ys)
  | none => none
 | .agg ds => match rnL R ds with
  | some ys => some (.agg ys)
  | none => none
 | .tup ds => match rnL R ds with
  | some ys => some (.tup ys)
  | none => none
 | .rp ds => match rnL R ds with
  | some ys => some (.rp ys)
  | none => none
 | .fn f ds => match rnL R ds with
  | some ys => some (.fn f ys)
  | none => none
 | .ptr i o => match pos i R with
  | some j => some (.ptr j o)
  | none => none
 | .buf i n => match pos i R with
  | some j => some (.buf j n)
  | none => none
 | .bp i n r c => match pos i R with
  | some j => some (.bp j n r c)
  | none => none
 | .win i n a b => match pos i R with
  | some j => some (.win j n a b)
  | none => none
 | .arr i o n c k => match pos i R with
  | some j => some (.arr j o n c k)
  | none => none
 | .mp i => match pos i R with
  | some j => some (.mp j)
  | none => none
def rnL (R : List Nat) : List D → Option (List D)
 | [] => some []
 | d :: t => match rnO R d with
  | some d' => match rnL R t with
   | some t' => some (d' :: t')
   | none => none
  | none => none
def rnR (R : List Nat) : List (List D) → Option (List (List D))
 | [] => some []
 | d :: t => match rnL R d with
  | some d' => match rnR R t with
   | some t' => some (d' :: t')
   | none => none
  | none => none
end
section
variable {R : List Nat} {π : Nat → Nat} (hπ : ∀ k i, R[k]? = some i → π k = i)
include hπ
mutual
theorem rnO_spec : ∀ d d', rnO R d = some d' → ren π d' = d ∧ low R.length d'
 | .any, d', q => by rw [rnO] at q; cases q; exact ⟨by rw [ren], by rw [low]; trivial⟩
 | .v x, d', q => by rw [rnO] at q; cases q; exact ⟨by rw [ren], by rw [low]; trivial⟩
 | .e0, d', q => by rw [rnO] at q; cases q; exact ⟨by rw [ren], by rw [low]; trivial⟩
 | .sl k xs, d', q => by
  rw [rnO] at q; split at q
  · rename_i ys hy; cases q; obtain ⟨h1, h2⟩ := rnR_spec xs ys hy; exact ⟨by rw [ren, h1], by rw [low]; exact h2⟩
  · cases q
 | .agg xs, d', q => by
  rw [rnO] at q; split at q
  · rename_i ys hy; cases q; obtain ⟨h1, h2⟩ := rnL_spec xs ys hy; exact ⟨by rw [ren, h1], by rw [low]; exact h2⟩
  · cases q
 | .tup xs, d', q => by
  rw [rnO] at q; split at q
  · rename_i ys hy; cases q; obtain ⟨h1, h2⟩ := rnL_spec xs ys hy; exact ⟨by rw [ren, h1], by rw [low]; exact h2⟩
  · cases q
 | .rp xs, d', q => by
  rw [rnO] at q; split at q
  · rename_i ys hy; cases q; obtain ⟨h1, h2⟩ := rnL_spec xs ys hy; exact ⟨by rw [ren, h1], by rw [low]; exact h2⟩
  · cases q
 | .fn f xs, d', q => by
  rw [rnO] at q; split at q
  · rename_i ys hy; cases q; obtain ⟨h1, h2⟩ := rnL_spec xs ys hy; exact ⟨by rw [ren, h1], by rw [low]; exact h2⟩
  · cases q
 | .ptr i o, d', q => by
  rw [rnO] at q; split at q
  · rename_i j hj; cases q; have := pos_spec _ _ hj; exact ⟨by rw [ren, hπ _ _ this], by rw [low]; exact (List.getElem?_eq_some_iff.1 this).1⟩
  · cases q
 | .buf i o, d', q => by
  rw [rnO] at q; split at q
  · rename_i j hj; cases q; have := pos_spec _ _ hj; exact ⟨by rw [ren, hπ _ _ this], by rw [low]; exact (List.getElem?_eq_some_iff.1 this).1⟩
  · cases q
 | .bp i n r c, d', q => by
  rw [rnO] at q; split at q
  · rename_i j hj; cases q; have := pos_spec _ _ hj; exact ⟨by rw [ren, hπ _ _ this], by rw [low]; exact (List.getElem?_eq_some_iff.1 this).1⟩
  · cases q
 | .win i n r c, d', q => by
  rw [rnO] at q; split at q
  · rename_i j hj; cases q; have := pos_spec _ _ hj; exact ⟨by rw [ren, hπ _ _ this], by rw [low]; exact (List.getElem?_eq_some_iff.1 this).1⟩
  · cases q
 | .arr i n r c k, d', q => by
  rw [rnO] at q; split at q
  · rename_i j hj; cases q; have := pos_spec _ _ hj; exact ⟨by rw [ren, hπ _ _ this], by rw [low]; exact (List.getElem?_eq_some_iff.1 this).1⟩
  · cases q
 | .mp i, d', q => by
  rw [rnO] at q; split at q
  · rename_i j hj; cases q; have := pos_spec _ _ hj; exact ⟨by rw [ren, hπ _ _ this], by rw [low]; exact (List.getElem?_eq_some_iff.1 this).1⟩
  · cases q
theorem rnL_spec : ∀ d d', rnL R d = some d' → renL π d' = d ∧ lowL R.length d'
 | [], d', q => by rw [rnL] at q; cases q; exact ⟨by rw [renL], by rw [lowL]; trivial⟩
 | d :: t, d', q => by
  rw [rnL] at q; split at q
  · rename_i d1 h1
    split at q
    · rename_i t1 h2
      cases q
      obtain ⟨a1, a2⟩ := rnO_spec d d1 h1
      obtain ⟨b1, b2⟩ := rnL_spec t t1 h2
      exact ⟨by rw [renL, a1, b1], by rw [lowL]; exact ⟨a2, b2⟩⟩
    · cases q
  · cases q
theorem rnR_spec : ∀ d d', rnR R d = some d' → renR π d' = d ∧ lowR R.length d'
 | [], d', q => by rw [rnR] at q; cases q; exact ⟨by rw [renR], by rw [lowR]; trivial⟩
 | d :: t, d', q => by
  rw [rnR] at q; split at q
  · rename_i d1 h1
    split at q
    · rename_i t1 h2
      cases q
      obtain ⟨a1, a2⟩ := rnL_spec d d1 h1
      obtain ⟨b1, b2⟩ := rnR_spec t t1 h2
      exact ⟨by rw [renR, a1, b1], by rw [lowR]; exact ⟨a2, b2⟩⟩
    · cases q
  · cases q
end
end
def rnE (R : List Nat) : List (Value × Nat × D) → Option (List (Value × Nat × D))
 | [] => some []
 | (x, b, d) :: t => match rnO R d with
  | some d' => match rnE R t with
   | some t' => some ((x, b, d') :: t')
   | none => none
  | none => none
def rnOb (R : List Nat) : Ob → Option Ob
 | .cells ds => match rnL R ds with
  | some ys => some (.cells ys)
  | none => none
 | .buf e k xs => match rnR R xs with
  | some ys => some (.buf e k ys)
  | none => none
 | .map es c => match rnE R es with
  | some ys => some (.map ys c)
  | none => none
 | .iter m s l a => match pos m R with
  | some j => some (.iter j s l a)
  | none => none
 | .hole => some .hole
 | .dead => some .dead
def rnH (R : List Nat) (h : List Ob) : List Nat → Option (List Ob)
 | [] => some []
 | i :: t => match h[i]? with
  | some ob => match rnOb R ob with
   | some ob' => match rnH R h t with
    | some l => some (ob' :: l)
    | none => none
   | none => none
  | none => none
def nodupB : List Nat → Bool
 | [] => true
 | a :: t => bif memN a t then false else nodupB t
theorem memN_iff {i : Nat} : ∀ l, memN i l = true ↔ i ∈ l
 | [] => by simp [memN]
 | a :: t => by
  rw [memN]
  cases hb : Nat.beq a i
  · have h2 : a ≠ i := bqF hb
    simp [memN_iff t, Ne.symm h2]
  · have h2 : a = i := bqT hb
    simp [h2]
theorem nodupB_spec : ∀ l, nodupB l = true → l.Nodup
 | [], _ => List.nodup_nil
 | a :: t, q => by
  rw [nodupB] at q
  cases hm : memN a t
  · rw [hm] at q
    exact List.nodup_cons.2 ⟨fun h => (by rw [(memN_iff t).2 h] at hm; cases hm), nodupB_spec t q⟩
  · rw [hm] at q; cases q
section
variable {R : List Nat} {π : Nat → Nat} (hπ : ∀ k i, R[k]? = some i → π k = i)
include hπ
theorem rnE_spec : ∀ d d', rnE R d = some d' → (d'.map fun e => (e.1, e.2.1, ren π e.2.2)) = d ∧ lowL R.length (d'.map (·.2.2))
 | [], d', q => by rw [rnE] at q; cases q; exact ⟨rfl, by rw [List.map_nil, lowL]; trivial⟩
 | (x, b, d) :: t, d', q => by
  rw [rnE] at q; split at q
  · rename_i d1 h1
    split at q
    · rename_i t1 h2
      cases q
      obtain ⟨a1, a2⟩ := rnO_spec hπ d d1 h1
      obtain ⟨b1, b2⟩ := rnE_spec t t1 h2
      exact ⟨by rw [List.map_cons, b1, a1], by rw [List.map_cons, lowL]; exact ⟨a2, b2⟩⟩
    · cases q
  · cases q
theorem rnOb_spec {ob ob' : Ob} (q : rnOb R ob = some ob') : renOb π ob' = ob ∧ lowOb R.length ob' := by
 cases ob <;> rw [rnOb] at q
 case cells ds => split at q
                  · rename_i hy; cases q; obtain ⟨h1, h2⟩ := rnL_spec hπ _ _ hy; exact ⟨by rw [renOb, h1], h2⟩
                  · cases q
 case buf e k xs => split at q
                    · rename_i hy; cases q; obtain ⟨h1, h2⟩ := rnR_spec hπ _ _ hy; exact ⟨by rw [renOb, h1], h2⟩
                    · cases q
 case map es c => split at q
                  · rename_i hy; cases q; obtain ⟨h1, h2⟩ := rnE_spec hπ _ _ hy; exact ⟨by rw [renOb, h1], h2⟩
                  · cases q
 case iter m s l a => split at q
                      · rename_i j hj; cases q; have := pos_spec _ _ hj; exact ⟨by rw [renOb, hπ _ _ this], (List.getElem?_eq_some_iff.1 this).1⟩
                      · cases q
 case hole => cases q; exact ⟨rfl, trivial⟩
 case dead => cases q; exact ⟨rfl, trivial⟩
theorem rnH_spec {h : List Ob} : ∀ (l : List Nat) (h1 : List Ob), rnH R h l = some h1 → h1.length = l.length ∧ ∀ (k : Nat) (ob : Ob), h1[k]? = some ob → ∃ i : Nat, l[k]? = some i ∧ h[i]? = some (renOb π ob) ∧ lowOb R.length ob
 | [], h1, q => by rw [rnH] at q; cases q; exact ⟨rfl, fun k ob hk => by simp at hk⟩
 | i :: t, h1, q => by
  rw [rnH] at q
  split at q
  rotate_left
  · cases q
  rename_i ob hob
  split at q
  rotate_left
  · cases q
  rename_i ob' hob'
  split at q
  rotate_left
  · cases q
  rename_i l hl
  cases q
  obtain ⟨e1, e2⟩ := rnH_spec t l hl
  obtain ⟨f1, f2⟩ := rnOb_spec hπ hob'
  refine ⟨by simp [e1], fun k o hk => ?_⟩
  cases k with
  | zero => simp at hk; subst hk; exact ⟨i, rfl, by rw [f1]; exact hob, f2⟩
  | succ k => simpa using e2 k o (by simpa using hk)
theorem lies_of_rn {h h1 : List Ob} (q : rnH R h R = some h1) (nd : nodupB R = true) : h1.length = R.length ∧ Lies π h1 h := by
 obtain ⟨e1, e2⟩ := rnH_spec hπ R h1 q
 refine ⟨e1, fun i ob hi => ?_, fun i j hi hj he => ?_, fun ob hob => ?_⟩
 · obtain ⟨x, h2, h3, _⟩ := e2 i ob hi
   rw [hπ _ _ h2]; exact h3
 · have hi' : i < R.length := by omega
   have hj' : j < R.length := by omega
   have h2 := hπ i _ (List.getElem?_eq_getElem hi')
   have h3 := hπ j _ (List.getElem?_eq_getElem hj')
   have : R[i] = R[j] := by rw [← h2, ← h3, he]
   exact (List.getElem_inj (nodupB_spec R nd)).1 this
 · obtain ⟨i, hi, rfl⟩ := List.getElem_of_mem hob
   obtain ⟨_, _, _, h4⟩ := e2 i _ (List.getElem?_eq_getElem hi)
   rw [e1]; exact h4
end
def plcN (R : List Nat) (L j : Nat) : Nat := match R[j]? with
 | some i => i
 | none => L + (j - R.length)
theorem plcN_old {R : List Nat} {L : Nat} : ∀ k i, R[k]? = some i → plcN R L k = i := fun k i q => by unfold plcN; rw [q]
theorem plcN_new {R : List Nat} {L k : Nat} (q : R.length ≤ k) : plcN R L k = L + (k - R.length) := by unfold plcN; rw [List.getElem?_eq_none q]
end
section
variable {P : Program} {G : Nat → D} {n : Nat} {e : Nat → D} {h h1 : List Ob}
theorem does_keep {f : FuncId} {fn : Func} {c : Code} {args : List D} {K : List Ob → D → Prop} (hf : P.funcs[f]? = some fn) (hb : fn.body = some c) (hn : args.length ≤ fn.ntmps)
 (H : aw P G c (fun e s => (e = .normal ∨ e = .ret) ∧ ∃ ds, resD P s fn.results.toList = some ds ∧ K s.h (outD ds)) ⟨fn.ntmps, argEnv args, h⟩) : Does P G f h args K := by
 intro w hd p vs o ha
 have hlen := rdL_len ha
 refine calls_of_wp hf hb (Code.wp_mono ?_ (H ⟨w, hd, h, p⟩ { tmps := vs.toArray ++ Array.replicate (fn.ntmps - vs.toArray.size) undef, defers := [] } w ⟨hd, p, o, .refl _ _ _ _, fun t => ?_, by simp; omega, rfl⟩))
 · rintro e a' w' ⟨s', ⟨he, ds, h1, h6⟩, hd', p', r⟩
   have fin : ∃ v, (results fn a'.tmps).run P w' = .ok v w' ∧ rd hd' s'.h (only p' w') (outD ds) v := by
    obtain ⟨vs', e1, q1⟩ := run_res r _ _ h1
    have hl := rdL_len q1
    have e2 : (results fn a'.tmps).run P w' = .ok (if h : vs'.toArray.size = 1 then vs'.toArray[0] else .tuple vs'.toArray) w' := by
     rw [results_eq, Array.mapM_eq_mapM_toList]
     simp only [Sem.run_bind, Sem.run_map, e1, Result.andThen_ok]
     rfl
    refine ⟨_, e2, ?_⟩
    match ds, vs', q1, hl with
    | [], vs', q1, hl =>
     have : vs' = [] := List.eq_nil_of_length_eq_zero hl.symm
     subst this
     simp only [outD]; rw [rd]; exact ⟨#[], rfl, q1⟩
    | [d], vs', q1, hl =>
     rw [rdL] at q1; obtain ⟨u, t, rfl, q2, q3⟩ := q1
     rw [rdL] at q3; subst q3
     exact q2
    | d :: d2 :: ds, vs', q1, hl =>
     simp only [outD]
     have : ¬ vs'.toArray.size = 1 := by simp at hl ⊢; omega
     rw [dif_neg this, rd]; exact ⟨_, rfl, q1⟩
   obtain ⟨v, e2, q2⟩ := fin
   rcases he with rfl | rfl
   · exact ⟨r.defers, v, e2, v, _, _, _, _, rfl, h6, r.ok, q2, r.evo⟩
   · exact ⟨r.defers, v, e2, v, _, _, _, _, rfl, h6, r.ok, q2, r.evo⟩
 · show rd hd h (only p w) ((args[t]?).getD .any) _
   obtain ⟨_, q⟩ := (rdL_iff _ _).1 ha
   cases hd' : args[t]? with
   | none => show rd hd h (only p w) .any _; rw [rd]; trivial
   | some d =>
    show rd hd h (only p w) d _
    obtain ⟨u, h1, h2⟩ := q t d hd'
    have : (vs.toArray ++ Array.replicate (fn.ntmps - vs.toArray.size) undef).getD t undef = u := by
     rw [Array.getD_eq_getD_getElem?, Array.getElem?_append_left (by simpa using (List.getElem?_eq_some_iff.1 h1).1)]
     simp [h1]
    rw [this]
    exact h2
def firstN : Nat → List Nat → Bool
 | _, [] => true
 | j, a :: t => bif Nat.beq a j then firstN (j + 1) t else false
def idxR (R : List Nat) (k : Nat) : Nat := (R[k]?).getD 0
theorem idxR_at {R : List Nat} : ∀ k i, R[k]? = some i → idxR R k = i := fun k i q => by unfold idxR; rw [q]; rfl
def Shr (m : Nat) (h' : List Ob) (r : D) (h2 : List Ob) (r2 : D) : Prop := ∃ R, rnH R h' R = some h2 ∧ nodupB R = true ∧ rnO R r = some r2 ∧ m ≤ R.length ∧ ∀ k, k < m → R[k]? = some k
theorem Post.shrink {w w' : World} {hd : List Value} {p : Nat → Bool} {K K' : List Ob → D → Prop} {v : Value} (o : Ok G w hd h p) (hG : ∀ g, low 0 (G g)) (q : Post G w hd h p K v w') (k : ∀ h' r, K h' r → ∃ h2 r2, Shr h.length h' r h2 r2 ∧ K' h2 r2) : Post G w hd h p K' v w' := by
 obtain ⟨hd', h', r, p', hk, o', qr, e⟩ := q
 obtain ⟨h2, r2, ⟨R, e1, e2, e3, e4, e5⟩, hk'⟩ := k _ _ hk
 obtain ⟨len2, L⟩ := lies_of_rn (π := idxR R) idxR_at e1 e2
 obtain ⟨f1, f2⟩ := rnO_spec (π := idxR R) idxR_at _ _ e3
 have hid : ∀ i, i < h.length → idxR R i = i := fun i hi => idxR_at _ _ (e5 i hi)
 have at' : ∀ {i : Nat} {u : Value}, i < h.length → hd'[i]? = some u → (pull (idxR R) hd' h2.length)[i]? = some u := fun {i u} hi q => by
  rw [pull_at o' L (by omega), hid i hi]; exact q
 refine ⟨_, h2, r2, p', hk', L.ok o' hG, rd_une (L.une o') o'.len (fun _ _ h => h) _ _ (by rw [len2]; exact f2) (by rw [f1]; exact qr),
  ⟨e.os, e.tape, e.output, e.size, e.keep, e.vis, e.seen, fun b hb ho => ?_, by omega, fun i B q => ?_, fun i B q => ?_, fun i q => ?_, fun i E k xs hu q => ?_⟩⟩
 · obtain ⟨i, _, ob, u, q1, q2, q3, q4⟩ := L.own o' ho
   exact e.own b hb ⟨_, ob, u, q1, q2, q3, q4⟩
 · exact at' (by rw [← o.len]; exact (List.getElem?_eq_some_iff.1 q).1) (e.carry.ptr i B q)
 · exact at' (by rw [← o.len]; exact (List.getElem?_eq_some_iff.1 q).1) (e.carry.mp i B q)
 · exact (L.une o').usd i (by have := q.lt; omega) (by rw [hid i q.lt]; exact e.carry.usd i q)
 · have h3 := L.at_ i _ q
   rw [hid i hu.lt] at h3
   obtain ⟨E0, ys, g1, g2, g3⟩ := e.carry.buf i E k (renR (idxR R) xs) hu h3
   rw [renR_map, List.length_map] at g2 g3
   refine ⟨E0, ys, g1, g2, fun he => ?_⟩
   rw [pull_at o' L (by have := hu.lt; omega), hid i hu.lt]; exact g3 he
theorem Does.shrink {f : FuncId} {args : List D} {K K' : List Ob → D → Prop} (hG : ∀ g, low 0 (G g)) (q : Does P G f h args K) (k : ∀ h' r, K h' r → ∃ h2 r2, Shr h.length h' r h2 r2 ∧ K' h2 r2) : Does P G f h args K' := does_post.2 fun w hd p vs ok ha =>
 (does_post.1 q w hd p vs ok ha).mono fun _ _ ⟨v, e, q⟩ => ⟨v, e, q.shrink ok hG k⟩
/-! Equality of data, as far as it is easily seen. -/
def vq : Value → Value → Bool
 | .int a x, .int b y => decide (a = b) && decide (x = y)
 | .bool a, .bool b => decide (a = b)
 | .string a, .string b => decide (a.data.toList = b.data.toList)
 | .slice none 0 0, .slice none 0 0 => true
 | .pointer none, .pointer none => true
 | .map none, .map none => true
 | .nilFunc, .nilFunc => true
 | .nilIface, .nilIface => true
 | _, _ => false
theorem vq_spec (a b : Value) (q : vq a b = true) : a = b := by
 unfold vq at q
 split at q
 · simp only [Bool.and_eq_true, decide_eq_true_eq] at q; rw [q.1, q.2]
 · simp only [decide_eq_true_eq] at q; rw [q]
 · simp only [decide_eq_true_eq] at q; congr 1; exact ByteArray.ext (Array.ext' q)
 all_goals first | rfl | cases q
mutual
def dq : D → D → Bool
 | .any, .any => true
 | .v x, .v y => vq x y
 | .e0, .e0 => true
 | .sl k xs, .sl l ys => Nat.beq k l && dqR xs ys
 | .agg xs, .agg ys => dqL xs ys
 | .tup xs, .tup ys => dqL xs ys
 | .rp xs, .rp ys => dqL xs ys
 | .fn f xs, .fn g ys => Nat.beq f g && dqL xs ys
 | .ptr i o, .ptr j q => Nat.beq i j && Nat.beq o q
 | .buf i o, .buf j q => Nat.beq i j && Nat.beq o q
 | .bp i a b c, .bp j x y z => Nat.beq i j && (Nat.beq a x && (Nat.beq b y && Nat.beq c z))
 | .win i a b c, .win j x y z => Nat.beq i j && (Nat.beq a x && (Nat.beq b y && Nat.beq c z))
 | .arr i a b c d, .arr j x y z u => Nat.beq i j && (Nat.beq a x && (Nat.beq b y && (Nat.beq c z && Nat.beq d u)))
 | .mp i, .mp j => Nat.beq i j
 | _, _ => false
def dqL : List D → List D → Bool
 | [], [] => true
 | a :: s, b :: t => dq a b && dqL s t
 | _, _ => false
def dqR : List (List D) → List (List D) → Bool
 | [], [] => true
 | a :: s, b :: t => dqL a b && dqR s t
 | _, _ => false
end
mutual
theorem dq_spec : ∀ a b, dq a b = true → a = b
 | .any, b, q => by cases b <;> first | rfl | (simp [dq] at q)
 | .v x, b, q => by cases b <;> simp [dq] at q; rw [vq_spec _ _ q]
 | .e0, b, q => by cases b <;> first | rfl | (simp [dq] at q)
 | .sl k xs, b, q => by cases b <;> simp [dq] at q; rw [q.1, dqR_spec _ _ q.2]
 | .agg xs, b, q => by cases b <;> simp [dq] at q; rw [dqL_spec _ _ q]
 | .tup xs, b, q => by cases b <;> simp [dq] at q; rw [dqL_spec _ _ q]
 | .rp xs, b, q => by cases b <;> simp [dq] at q; rw [dqL_spec _ _ q]
 | .fn f xs, b, q => by cases b <;> simp [dq] at q; rw [q.1, dqL_spec _ _ q.2]
 | .ptr i o, b, q => by cases b <;> simp [dq] at q; rw [q.1, q.2]
 | .buf i o, b, q => by cases b <;> simp [dq] at q; rw [q.1, q.2]
 | .bp i x y z, b, q => by cases b <;> simp [dq] at q; rw [q.1, q.2.1, q.2.2.1, q.2.2.2]
 | .win i x y z, b, q => by cases b <;> simp [dq] at q; rw [q.1, q.2.1, q.2.2.1, q.2.2.2]
 | .arr i x y z u, b, q => by cases b <;> simp [dq] at q; rw [q.1, q.2.1, q.2.2.1, q.2.2.2.1, q.2.2.2.2]
 | .mp i, b, q => by cases b <;> simp [dq] at q; rw [q]
theorem dqL_spec : ∀ a b, dqL a b = true → a = b
 | [], b, q => by cases b <;> first | rfl | (simp [dqL] at q)
 | a :: s, b, q => by cases b <;> simp [dqL] at q; rw [dq_spec _ _ q.1, dqL_spec _ _ q.2]
theorem dqR_spec : ∀ a b, dqR a b = true → a = b
 | [], b, q => by cases b <;> first | rfl | (simp [dqR] at q)
 | a :: s, b, q => by cases b <;> simp [dqR] at q; rw [dqL_spec _ _ q.1, dqR_spec _ _ q.2]
end
def oq : Ob → Ob → Bool
 | .cells a, .cells b => dqL a b
 | .buf e k a, .buf f l b => Nat.beq e f && (Nat.beq k l && dqR a b)
 | .dead, .dead => true
 | .hole, .hole => true
 | _, _ => false
theorem oq_spec (a b : Ob) (q : oq a b = true) : a = b := by
 cases a <;> cases b <;> simp [oq] at q
 · rw [dqL_spec _ _ q]
 · rw [q.1, q.2.1, dqR_spec _ _ q.2.2]
 · rfl
 · rfl
def wrs (π : Nat → Nat) : Nat → List Ob → List Ob → List (Nat × Ob)
 | _, _, [] => []
 | j, [], o :: t => (π j, renOb π o) :: wrs π (j + 1) [] t
 | j, a :: s, o :: t => bif oq a o then wrs π (j + 1) s t else (π j, renOb π o) :: wrs π (j + 1) s t
theorem set_self' {h : List Ob} {i : Nat} {ob : Ob} (q : h[i]? = some ob) : h.set i ob = h := by
 apply List.ext_getElem?
 intro j
 by_cases hij : i = j
 · subst hij; rw [List.getElem?_set_self (List.getElem?_eq_some_iff.1 q).1, q]
 · rw [List.getElem?_set_ne hij]
theorem wrs_plc {π : Nat → Nat} : ∀ (l' l h : List Ob) (j : Nat), (∀ a b, a < l'.length → b < l'.length → π (j + a) = π (j + b) → a = b) → (∀ i ob, l[i]? = some ob → h[π (j + i)]? = some (renOb π ob)) → plc π h j (l'.map (renOb π)) = setAll h (wrs π j l l')
 | [], l, h, j, _, _ => by cases l <;> rfl
 | o :: t, [], h, j, inj, _ => by
  rw [List.map_cons, plc, wrs, setAll]
  exact wrs_plc t [] _ (j + 1) (fun a b ha hb he => by
   have := inj (a + 1) (b + 1) (by simp; omega) (by simp; omega) (by rw [show j + (a + 1) = j + 1 + a by omega, show j + (b + 1) = j + 1 + b by omega]; exact he)
   omega) (fun i ob q => by simp at q)
 | o :: t, a :: s, h, j, inj, q => by
  have inj' : ∀ a b, a < t.length → b < t.length → π (j + 1 + a) = π (j + 1 + b) → a = b := fun a b ha hb he => by
   have := inj (a + 1) (b + 1) (by simp; omega) (by simp; omega) (by rw [show j + (a + 1) = j + 1 + a by omega, show j + (b + 1) = j + 1 + b by omega]; exact he)
   omega
  have q0 : h[π j]? = some (renOb π a) := by simpa using q 0 a rfl
  rw [List.map_cons, plc, wrs]
  cases hq : oq a o
  · simp only [cond_false]
    rw [setAll]
    by_cases hst : s.length ≤ t.length
    · refine wrs_plc t s _ (j + 1) inj' fun i ob hi => ?_
      have hi' := (List.getElem?_eq_some_iff.1 hi).1
      rw [List.getElem?_set_ne (fun he => ?_)]
      · rw [show j + 1 + i = j + (i + 1) by omega]; exact q (i + 1) ob (by simpa using hi)
      · have := inj 0 (i + 1) (by simp) (by simp; omega) (by rw [Nat.add_zero, he]; congr 1; omega)
        omega
    · have key : ∀ (t s : List Ob) (j : Nat), wrs π j s t = wrs π j (s.take t.length) t := by
       intro t
       induction t with
       | nil => intro s j; cases s <;> rfl
       | cons o t ih =>
        intro s j
        cases s with
        | nil => rfl
        | cons a s => simp only [List.length_cons, List.take_succ_cons, wrs]; rw [ih s (j + 1)]
      rw [key]
      refine wrs_plc t _ _ (j + 1) inj' fun i ob hi => ?_
      rw [List.getElem?_take] at hi
      split at hi
      · rename_i hi'
        rw [List.getElem?_set_ne (fun he => ?_)]
        · rw [show j + 1 + i = j + (i + 1) by omega]; exact q (i + 1) ob (by simpa using hi)
        · have := inj 0 (i + 1) (by simp) (by simp; omega) (by rw [Nat.add_zero, he]; congr 1; omega)
          omega
      · cases hi
  · simp only [cond_true]
    have := oq_spec _ _ hq
    subst this
    rw [set_self' q0]
    exact wrs_plc t s h (j + 1) inj' fun i ob hi => by rw [show j + 1 + i = j + (i + 1) by omega]; exact q (i + 1) ob (by simpa using hi)
end
section
theorem low_by (m : Nat) (l : List UInt8) : low m (.sl 1 (byD l)) := by
 rw [low, lowR_iff]
 intro row hr
 obtain ⟨b, _, rfl⟩ := List.mem_map.1 hr
 simp [lowL, low]
theorem lowH_set {m : Nat} {h : List Ob} {i : Nat} {ob : Ob} (q : lowH m h) (r : lowOb m ob) : lowH m (h.set i ob) := fun x hx => by
 rcases List.mem_or_eq_of_mem_set hx with h | rfl
 · exact q x h
 · exact r
theorem set_same {h : List Ob} {i : Nat} {ob : Ob} (hi : h[i]? = some ob) : h.set i ob = h := by
 apply List.ext_getElem?
 intro j
 by_cases hij : i = j
 · subst hij; rw [List.getElem?_set_self (List.getElem?_eq_some_iff.1 hi).1, hi]
 · rw [List.getElem?_set_ne hij]
theorem byD_app (a b : List UInt8) : byD a ++ byD b = byD (a ++ b) := by simp [byD]
section
variable {P : Program} {G : Nat → D} {n : Nat} {e : Nat → D} {h : List Ob}
theorem Sit.via {B : Base} {a : Act} {w : World} {hd hd' : List Value} {p p' : Nat → Bool} {h' : List Ob} (r : Sat G B ⟨n, e, h⟩ a w hd p) (o : Ok G w hd' h' p') (ev : Evo w hd h p w hd' h' p') : Sit G B ⟨n, e, h'⟩ a w :=
 ⟨hd', p', o, r.evo.trans ev, fun t => ev.rd r.ok (r.tmp t), r.size, r.defers⟩
theorem rd_nilbuf {hd : List Value} {W : World} {j E k : Nat} {u : Value} (hj : h[j]? = some (.buf E k [])) (hu : hd[j]? = some (.slice none 0 0)) (q : rd hd h W (.v (.slice none 0 0)) u) : rd hd h W (.buf j 0) u := by
 rw [rd] at q
 subst q
 rw [rd]
 exact ⟨⟨_, _, rfl⟩, .of hj rfl, fun e k xs hx => by rw [hj] at hx; cases hx; exact ⟨Nat.le_refl _, fun _ => hu⟩⟩
theorem Sit_nilcell {B : Base} {a : Act} {w : World} (E k : Nat) {i : Nat} {xs bs : List D} (hi : h[i]? = some (.cells (xs ++ .v (.slice none 0 0) :: bs))) (r : Sit G B ⟨n, e, h⟩ a w) : Sit G B ⟨n, e, (h.set i (.cells (xs ++ .buf h.length 0 :: bs))) ++ [.buf E k []]⟩ a w := by
 have hil := (List.getElem?_eq_some_iff.1 hi).1
 obtain ⟨hd, p, r⟩ := r
 obtain ⟨o, ev⟩ := Ok.grow (ob := .buf E k []) (u := .slice none 0 0) (w' := w) r.ok rfl rfl rfl (Nat.le_refl _) (fun _ _ => rfl) (fun b hb => by cases hb) (fun c s => ⟨[], World.ownsRow_nil _ _ _ _, by simp [rdL], fun row h => by simp at h, fun g h => by cases h⟩)
 have r1 : Sat G B ⟨n, e, h ++ [.buf E k []]⟩ a w (hd ++ [.slice none 0 0]) _ := ⟨o, r.evo.trans ev, fun t => ev.rd r.ok (r.tmp t), r.size, r.defers⟩
 have hl : i < hd.length := by rw [r.ok.len]; exact hil
 obtain ⟨u, hu⟩ : ∃ u, hd[i]? = some u := ⟨_, List.getElem?_eq_getElem hl⟩
 have hi2 : (h ++ [Ob.buf E k []])[i]? = some (.cells (xs ++ .v (.slice none 0 0) :: bs)) := by rw [List.getElem?_append_left hil, hi]
 have hu2 : (hd ++ [Value.slice none 0 0])[i]? = some u := by rw [List.getElem?_append_left hl, hu]
 obtain ⟨BB, cs, t, e1, e2, e3, e4⟩ := o.ob i _ u hi2 hu2
 have e5 : rdL (hd ++ [Value.slice none 0 0]) (h ++ [.buf E k []]) (only (fun b => p b && b != w.heap.size) w) (xs ++ .buf h.length 0 :: bs) cs.toList := by
  rw [rdL_iff] at e3 ⊢
  refine ⟨by simpa using e3.1, fun j d hj => ?_⟩
  by_cases hjl : j = xs.length
  · subst hjl
    simp at hj; subst hj
    obtain ⟨u', h1, h2⟩ := e3.2 xs.length (.v (.slice none 0 0)) (by simp)
    exact ⟨u', h1, rd_nilbuf (k := k) (E := E) (by simp) (by rw [← r.ok.len]; simp) h2⟩
  · refine e3.2 j d ?_
    rw [List.getElem?_append] at hj ⊢
    split at hj
    · rename_i hlt; rw [if_pos hlt]; exact hj
    · rename_i hge
      rw [if_neg hge]
      obtain ⟨m, hm⟩ : ∃ m, j - xs.length = m + 1 := ⟨j - xs.length - 1, by omega⟩
      rw [hm] at hj ⊢
      simpa using hj
 obtain ⟨o2, ev2⟩ := Ok.repl (ob' := .cells (xs ++ .buf h.length 0 :: bs)) (u' := u) (w' := w) o hi2 hu2 rfl rfl rfl rfl (Nat.le_refl _) (fun _ _ _ => rfl) (fun b hb => .inl hb) (fun _ _ => rfl) (fun _ _ _ h => by cases h) (fun c s => by
  refine ⟨BB, cs, t, e1, e2, rdL_carry c s _ _ e5, by simp [e4]⟩)
 have := Sit.via r1 o2 ev2
 rwa [List.set_append_left _ _ hil] at this
theorem aw_nilcell {c : Code} {Q : Exit → S → Prop} (E k i : Nat) (xs bs : List D) (hi : h[i]? = some (.cells (xs ++ .v (.slice none 0 0) :: bs))) (q : aw P G c Q ⟨n, e, (h.set i (.cells (xs ++ .buf h.length 0 :: bs))) ++ [.buf E k []]⟩) : aw P G c Q ⟨n, e, h⟩ := fun B a w r => q B a w (Sit_nilcell E k hi r)
theorem ao_nilcell {ops : Array Oper} {l : List Oper} {Q : S → Prop} (E k i : Nat) (xs bs : List D) (hi : h[i]? = some (.cells (xs ++ .v (.slice none 0 0) :: bs))) (q : ao P G ops l Q ⟨n, e, (h.set i (.cells (xs ++ .buf h.length 0 :: bs))) ++ [.buf E k []]⟩) : ao P G ops l Q ⟨n, e, h⟩ := fun B a w r R hR => q B a w (Sit_nilcell E k hi r) R hR
end
end
end Go.Proofs.YtgkjcmglcnhpaaaGreatDoor
