/-
  What the statements of the chapter share, part 07: D12, D13, D14, F1, F2.
-/
import Derived.Test.YtbhkcbidcfofiaaGreatY05
import Derived.Test.YtbhkcbidcfofiaaGreatY06
set_option linter.unusedVariables false
set_option linter.unusedSimpArgs false
set_option maxRecDepth 100000
set_option maxHeartbeats 8000000
namespace Go.Proofs.YtbhkcbidcfofiaaGreat
open _root_.Array renaming getD_eq_getD_getElem? → Z3, getElem?_eq_some_iff → Z4, getElem?_replicate → Ze
open _root_.Bool renaming and_eq_true → Zf
open _root_.List renaming getElem?_eq_getElem → Z0, getElem?_eq_some_iff → Z1, getElem?_append_left → Z2, length_map → Z6, map_map → Z7, replicate → Z8, mem_of_getElem? → Zb, map_congr_left → Zc, getElem?_append_right → Zd
open _root_.Nat renaming lt_or_ge → Z5, le_refl → Za, zero_add → Zg
open _root_.Option renaming getD_some → Z9
open Go.RowKit
section
variable {P : Program} {G : Nat → D} {n : Nat} {e : Nat → D} {h : List Ob} {ops : Array Oper} {md : Region.Mode}
section
variable {B : Base} {a : Act} {w : World}
theorem Stp_sound {o : Oper} {h' : List Ob} {d : D} {K : Act → World → Prop} {R : Exit → Act → World → Prop} (q : Stp P G o.op e h h' d) (r : Sit G B ⟨n, e, h⟩ a w) (k : ∀ a' w', Sit G B ⟨n, putE n e o.dst d, h'⟩ a' w' → K a' w') : o.wp P a w K R := by
 obtain ⟨hd, p, r⟩ := r
 obtain ⟨dst, op, ty, pos, aft, gd⟩ := o
 have fin : ∀ (s' : S), s' = S.put ⟨n, e, h'⟩ dst d → s' = ⟨n, putE n e dst d, h'⟩ := fun s' hs => by rw [hs, Zc1]
 rcases q with q | ⟨x, args, tys, f, cap, rfl, e2, e3, e4⟩
 · obtain ⟨v, w', hd', h'', p', d', hr, ⟨rfl, rfl⟩, o', q', ev'⟩ := Zr6 (dst := dst) (ty := ty) (pos := pos) (aft := aft) (gd := gd) r q
   unfold Oper.wp
   have := r.put o' ev' q' dst
   rw [fin _ rfl] at this
   rcases hr with hr | ⟨hr, rfl⟩
   · rw [hr]; exact k _ _ ⟨hd', p', this⟩
   · rw [hr]; exact k _ _ ⟨hd', p', this⟩
 · have q0 := r.ev x
   rw [e2, rd] at q0
   obtain ⟨cs, e1, q0⟩ := q0
   have hrun : (execOp a.eval ⟨dst, .call ⟨.value x, args, tys⟩, ty, pos, aft, gd⟩).run P w = .ok (.enter f (args.map a.eval ++ cs)) w := by
    simp [execOp, resolve, e1, Deferred.ofValue, invoke, Zo2 e3]
   unfold Oper.wp
   rw [hrun, Oper.upon_enter]
   have hargs : rdL hd h (only p w) (args.toList.map (ev G e) ++ cap) (args.toList.map a.eval ++ cs.toList) := Wr (Zs2 r _) q0
   have := e4 w hd p _ r.ok hargs
   rw [show (args.toList.map a.eval ++ cs.toList).toArray = args.map a.eval ++ cs by apply Array.ext'; simp] at this
   refine this.mono ?_
   rintro e' w' ⟨v, hd', h'', d', p', rfl, ⟨rfl, rfl⟩, o, q2, ev'⟩
   have := r.put o ev' q2 dst
   rw [fin _ rfl] at this
   exact k _ _ ⟨hd', p', this⟩
theorem Zd5 {ef : Nat → Eff} {Q : (Nat → D) → List Ob → Prop} {R : Exit → Act → World → Prop} (k : ∀ e h a w, Q e h → Sit G B ⟨n, e, h⟩ a w → R .normal a w) : ∀ (fuel : Nat) (listed : Array Bool) (e : Nat → D) (h : List Ob) (a : Act) (w : World), Sit G B ⟨n, e, h⟩ a w → aeAny P G n md ops ef Q fuel listed e h → wpAny P md ops R fuel listed a w
 | 0, _, _, _, _, _, r, q => ⟨q.1, k _ _ _ _ q.2 r⟩
 | fuel + 1, listed, e, h, a, w, r, q => ⟨fun h0 => k _ _ _ _ (q.1 h0) r, fun i hi => by
   have q2 := q.2 i hi
   unfold aeOp at q2
   unfold wpOp
   split
   · rename_i ho; rw [ho] at q2; exact Zd5 k fuel _ _ _ _ _ r q2
   · rename_i o ho
     rw [ho] at q2
     obtain ⟨hy, hk, hn⟩ := q2
     obtain ⟨hd, p, r'⟩ := id r
     rcases hy with ⟨hw, _, hs⟩ | ⟨hw, hE⟩
     · have hw' := Xf (o := o) r' hw
       rw [if_pos hw']
       exact .inl (Stp_sound (hs h hk) r fun a' w' r2 => Zd5 k fuel _ _ _ _ _ r2 hn)
     · have hw' := Xf (o := o) r' hw
       rw [if_neg (by rw [hw']; decide)]
       rw [hE] at hn
       have r3 := r'.put0 (d := .v undef) (v := undef) (by rw [rd]) o.dst
       rw [Zc1] at r3
       have hh : nop.heap h = h := by simp [nop, Eff.heap, Xt]
       rw [hh] at hn
       exact Zd5 k fuel _ _ _ _ _ ⟨hd, p, r3⟩ hn⟩
end
def Zt7 (ops : Array Oper) (j i : Nat) : Bool := match ops[j]? with
 | some _ => twB .any ops (j + 1) j i
 | none => true
def chk1 (m0 : Nat) (ops : Array Oper) (i : Nat) (E : Eff) : Nat → List Eff → Prop
 | _, [] => True
 | j, F :: t => (Zt7 ops j i = true ∨ compat m0 E F) ∧ chk1 m0 ops i E (j + 1) t
def Wd (m0 : Nat) (ops : Array Oper) : Nat → List Eff → Prop
 | _, [] => True
 | i, E :: t => chk1 m0 ops i E (i + 1) t ∧ Wd m0 ops (i + 1) t
theorem chk1_get {m0 i : Nat} {E : Eff} : ∀ (es : List Eff) (k j : Nat) (F : Eff), chk1 m0 ops i E k es → es[j]? = some F → Zt7 ops (k + j) i = true ∨ compat m0 E F
 | [], _, _, _, _, q => by simp at q
 | F :: t, k, 0, F', q, r => by simp at r; subst r; exact q.1
 | F :: t, k, j + 1, F', q, r => by rw [show k + (j + 1) = k + 1 + j by omega]; exact chk1_get t (k + 1) j F' q.2 (by simpa using r)
theorem Yj1 {m0 : Nat} : ∀ (es : List Eff) (k i j : Nat) (E F : Eff), Wd m0 ops k es → es[i]? = some E → es[j]? = some F → i < j → Zt7 ops (k + j) (k + i) = true ∨ compat m0 E F
 | [], _, _, _, _, _, _, q, _, _ => by simp at q
 | X :: t, k, 0, j, E, F, q, r1, r2, hlt => by
  simp at r1; subst r1
  cases j with
  | zero => omega
  | succ j => rw [show k + (j + 1) = k + 1 + j by omega]; exact chk1_get t (k + 1) j F q.1 (by simpa using r2)
 | X :: t, k, i + 1, j, E, F, q, r1, r2, hlt => by
  cases j with
  | zero => omega
  | succ j =>
   rw [show k + (j + 1) = k + 1 + j by omega, show k + (i + 1) = k + 1 + i by omega]
   exact Yj1 t (k + 1) i j E F q.2 (by simpa using r1) (by simpa using r2) (by omega)
def aeS (P : Program) (G : Nat → D) (n m0 : Nat) (ops : Array Oper) (Q : (Nat → D) → List Ob → Prop) : List Eff → List Oper → (Nat → D) → List Ob → Prop
 | done, [], e, h => Wd m0 ops 0 done.reverse ∧ Q e h
 | done, o :: rest, e, h => ∃ E, YDE P G ops o E e ∧ E.ok h ∧ aeS P G n m0 ops Q (E :: done) rest (putE n e o.dst (E.d h.length)) (E.heap h)
theorem aeS_ae {m0 : Nat} {Q : (Nat → D) → List Ob → Prop} : ∀ (rest : List Oper) (done : List Eff) (e : Nat → D) (h : List Ob), aeS P G n m0 ops Q done rest e h →
 ∃ es, (∀ j, j < done.length → es[j]? = done.reverse[j]?) ∧ es.length = done.length + rest.length ∧ Wd m0 ops 0 es ∧ ae P G n ops (fun k => (es[k]?).getD nop) Q done.length rest e h
 | [], done, e, h, q => ⟨done.reverse, fun _ _ => rfl, by simp, q.1, q.2⟩
 | o :: rest, done, e, h, q => by
  obtain ⟨E, h1, h2, h3⟩ := q
  obtain ⟨es, g1, g2, g3, g4⟩ := aeS_ae rest (E :: done) _ _ h3
  have hE : es[done.length]? = some E := by
   rw [g1 _ (by simp)]; simp
  refine ⟨es, fun j hj => ?_, by simp at g2 ⊢; omega, g3, ?_⟩
  · rw [g1 j (by simp; omega), List.reverse_cons, Z2 (by simpa using hj)]
  · refine ⟨?_, ?_, ?_⟩
    · simp only [hE, Z9]; exact h1
    · simp only [hE, Z9]; exact h2
    · simp only [hE, Z9]
      simpa using g4
theorem Xc {id : Nat} {l : List Oper} {Q : Exit → S → Prop} (hm : P.follows .mixedOrders = true) (hB : Region.lexB .any l.toArray = true) (H : aeS P G n h.length l.toArray (fun e h => Q .normal ⟨n, e, h⟩) [] l e h) : aw P G (.region id l.toArray true) Q ⟨n, e, h⟩ := fun B a w r => by
 obtain ⟨hd, p, r⟩ := r
 have hdr := r.ok.drew
 have r' : Sit G B ⟨n, e, h⟩ a { w with drawn := w.drawn + 1 } := ⟨hd, p, hdr.1, r.evo.trans hdr.2, fun t => hdr.2.rd r.ok (r.tmp t), r.size, r.defers⟩
 simp only [Region.lexB, Zf] at hB
 obtain ⟨es, _, g2, g3, g4⟩ := aeS_ae l [] e h H
 have hE : effOk .any h.length l.toArray (fun k => (es[k]?).getD nop) := fun i j oj hij hj hno hnt => by
  have hjl : j < es.length := by
   have := (Z4.1 hj).1
   simp at this g2; omega
  rcases Yj1 es 0 i j _ _ g3 (Z0 (show i < es.length by omega)) (Z0 hjl) hij with hw | hc
  · exfalso
    rw [Zg, Zg] at hw
    unfold Zt7 at hw
    rw [hj] at hw
    have hw : twB .any l.toArray (j + 1) j i = true := hw
    rw [hnt] at hw; cases hw
  · simp only [Z0 (show i < es.length by omega), Z0 hjl, Z9]
    exact hc
 refine wp_region_any hm (Zd5 (ef := fun k => (es[k]?).getD nop) (Q := fun e h => Q .normal ⟨n, e, h⟩) (fun e h a w q r => ⟨_, q, r⟩) _ _ _ _ _ _ r' ?_)
 have := aeAny_lex (P := P) (G := G) (n := n) (md := .any) (ops := l.toArray) (Q := fun e h => Q .normal ⟨n, e, h⟩) hE l 0 (Array.replicate l.toArray.size false) e h (Za _) (fun j oj hj hl => by
  have hlt := (Z4.1 hj).1
  rw [Z3, Ze, if_pos hlt] at hl
  cases hl) (fun j hj => by omega) (by simp) (by simpa using hB.2) g4
 simpa using this
def Vs (d : D) : Eff := ⟨[], [], [], fun _ => d⟩
def Wl (i : Nat) (ob : Ob) (d : D) : Eff := ⟨[(i, ob)], [], [], fun _ => d⟩
def V8 (i : Nat) (ob ob' : Ob) (d : D) : Eff := ⟨[(i, ob)], [(i, ob')], [], fun _ => d⟩
theorem Yw {m0 : Nat} {d : D} {F : Eff} : compat m0 (Vs d) F := ⟨by simp [Vs], by simp [Vs], .inl rfl, .inr ⟨rfl, by simp [Vs]⟩⟩
theorem X0 {m0 : Nat} {d : D} {F : Eff} : compat m0 F (Vs d) := Yw.symm
theorem X4 {m0 i j : Nat} {o o' : Ob} {d d' : D} : compat m0 (Wl i o d) (Wl j o' d') := ⟨by simp [Wl], by simp [Wl], .inl rfl, .inl rfl⟩
theorem Wt {m0 i j : Nat} {o o' o'' : Ob} {d d' : D} (k : i ≠ j) : compat m0 (Wl i o d) (V8 j o' o'' d') := ⟨by simp [Wl], by simp [Wl, V8]; exact Ne.symm k, .inl rfl, .inl rfl⟩
theorem compat_ww {m0 i j : Nat} {o o' p p' : Ob} {d d' : D} (k : i ≠ j) : compat m0 (V8 i o p d) (V8 j o' p' d') := ⟨by simp [V8]; exact k, by simp [V8]; exact Ne.symm k, .inl rfl, .inl rfl⟩
theorem aOp_any {op : Op} {d : D} (q : aOp P G e [] (fun h' d' => h' = [] ∧ d' = d) op) (h : List Ob) : aOp P G e h (fun h' d' => h' = h ∧ d' = d) op := by
 have one : ∀ {x : Option D}, on x (fun d' => ([] : List Ob) = [] ∧ d' = d) → on x (fun d' => h = h ∧ d' = d) := fun {x} q => by
  obtain ⟨d', h1, _, h2⟩ := W6.1 q
  exact W6.2 ⟨d', h1, rfl, h2⟩
 cases op <;> try exact q.elim
 case move => exact ⟨rfl, q.2⟩
 case assign => exact ⟨rfl, q.2⟩
 case pick => obtain ⟨t, h1, _, h2⟩ := q; exact ⟨t, h1, rfl, h2⟩
 case binOp => exact one q
 case unOp => exact one q
 case extract => exact one q
 case field => exact one q
 case fieldAddr => exact one q
 case nilCheck => exact ⟨q.1, rfl, q.2.2⟩
 case load t x =>
  obtain ⟨d', h1, _, h2⟩ := W6.1 q
  refine W6.2 ⟨d', ?_, rfl, h2⟩
  generalize ev G e x = X at h1 ⊢
  cases X <;> simp only [Zb1] at h1 ⊢ <;> first | exact h1 | (simp at h1)
 case store t x y =>
  obtain ⟨h', h1, h2⟩ := W6.1 q
  exfalso
  unfold Zd8 at h1
  split at h1
  · cases h1
  · split at h1
    · split at h1 <;> simp at h1
    · cases h1
 case box => obtain ⟨ds, h1, h2, _⟩ := W6.1 q; simp at h2
 case alloc => obtain ⟨ds, h1, h2, _⟩ := W6.1 q; simp at h2
 case buildSlice => obtain ⟨ds, h1, h2, _⟩ := W6.1 q; simp at h2
 case build => obtain ⟨ds, h1, _, h2⟩ := W6.1 q; exact W6.2 ⟨ds, h1, rfl, h2⟩
 case indexAddr t x i =>
  have q : idxA P [] t (ev G e x) (ev G e i) (fun d' => ([] : List Ob) = [] ∧ d' = d) := q
  show idxA P h t (ev G e x) (ev G e i) (fun d' => h = h ∧ d' = d)
  unfold idxA at q ⊢
  generalize ev G e x = X at q ⊢
  generalize ev G e i = I at q ⊢
  cases I <;> try exact q.elim
  case v I =>
  cases I <;> try exact q.elim
  case int κ m =>
  cases X <;> try exact q.elim
  case sl kk xs => obtain ⟨h1, h2, h3, h4⟩ := q; exact ⟨h1, h2, h3, fun row hr => ⟨rfl, (h4 row hr).2⟩⟩
  case buf i' n' => obtain ⟨a, b, c, h1, _⟩ := q; simp at h1
  case win i' n' a' b' => obtain ⟨a, b, c, h1, _⟩ := q; simp at h1
  case ptr i' n' => obtain ⟨a, b, c, h1, h2, h3, h4, h5⟩ := q; exact ⟨a, b, c, h1, h2, h3, h4, rfl, h5.2⟩
  case rp ds => obtain ⟨a, b, c, h1, h2, h3, h4, h5⟩ := q; exact ⟨a, b, c, h1, h2, h3, h4, rfl, h5.2⟩
 case slice t x lo hi mx =>
  cases mx with
  | some m => exact q.elim
  | none =>
   have q : slcA P t (ev G e x) (lo.map (ev G e)) (hi.map (ev G e)) (fun d' => ([] : List Ob) = [] ∧ d' = d) := q
   show slcA P t (ev G e x) (lo.map (ev G e)) (hi.map (ev G e)) (fun d' => h = h ∧ d' = d)
   unfold slcA at q ⊢
   split at q
   · obtain ⟨l, r, a, b, c, d, e, f, g⟩ := q; exact ⟨l, r, a, b, c, d, e, f, rfl, g.2⟩
   · obtain ⟨l, r, a, b, c, d, e, f, g⟩ := q; exact ⟨l, r, a, b, c, d, e, f, rfl, g.2⟩
   · exact q.elim
 case index t x i =>
  have q : indA P t (ev G e x) (ev G e i) (fun d' => ([] : List Ob) = [] ∧ d' = d) := q
  show indA P t (ev G e x) (ev G e i) (fun d' => h = h ∧ d' = d)
  unfold indA at q ⊢
  split at q
  · obtain ⟨a, b, c, d⟩ := q; exact ⟨a, b, c, fun b hb => ⟨rfl, (d b hb).2⟩⟩
  · obtain ⟨l, e, z, d, h1, h2, h3, h4, h5, h6⟩ := q; exact ⟨l, e, z, d, h1, h2, h3, h4, h5, rfl, h6.2⟩
  · exact q.elim
 case convert t u x =>
  have q : cvA P [] t u (ev G e x) (fun h' d' => h' = [] ∧ d' = d) := q
  show cvA P h t u (ev G e x) (fun h' d' => h' = h ∧ d' = d)
  unfold cvA at q ⊢
  split at q
  · exact one q
  · rcases q with ⟨q1, q2, q3, q4⟩ | ⟨q1, q2, q4⟩
    · exact .inl ⟨q1, q2, q3, rfl, q4.2⟩
    · exact .inr ⟨q1, q2, rfl, q4.2⟩
  · obtain ⟨q1, q2, q3⟩ := q
    unfold bstD
    split at q3
    · obtain ⟨bs, q4, q5⟩ := q3; exact ⟨q1, q2, bs, q4, rfl, q5.2⟩
    · obtain ⟨a, b, c, q4, _⟩ := q3; simp at q4
    · exact ⟨q1, q2, rfl, q3.2⟩
    · exact q3.elim
 case call c =>
  obtain ⟨cal, args, tys⟩ := c
  cases cal with
  | builtin b =>
   have q : biA P [] b tys.toList (args.toList.map (ev G e)) (fun h' d' => h' = [] ∧ d' = d) := q
   show biA P h b tys.toList (args.toList.map (ev G e)) (fun h' d' => h' = h ∧ d' = d)
   unfold biA at q ⊢
   split at q
   · exact one q
   · obtain ⟨a, b, c, ys, h1, h2, h3, h4⟩ := q
     exfalso
     split at h4
     · obtain ⟨xs, g1, _⟩ := h4; simp at g1
     · simp at h4
     · exact h4
   · exact q.elim
  | _ => exact q.elim
section
variable {m0 : Nat} {done : List Eff} {rest : List Oper} {Q : (Nat → D) → List Ob → Prop} {t : Nat} {op : Op} {ty : TypeId} {pos : String} {aft : Array Edge} {gd : Option (Nat × Bool)}
theorem V2 (c : Wd m0 ops 0 done.reverse) (q : Q e h) : aeS P G n m0 ops Q done [] e h := ⟨c, q⟩
theorem Zi8 {d : D} : (Vs d).heap h = h := by simp [Vs, Eff.heap, Xt]
theorem aS1 (hw : Yg ops gd e = some true) (ht : decide (t < n) = true) (H : ∀ K : List Ob → D → Prop, (∀ h' d, h' = [] → aeS P G n m0 ops Q (Vs d :: done) rest (upd e t d) h → K h' d) → aOp P G e [] K op) : aeS P G n m0 ops Q done (⟨some t, op, ty, pos, aft, gd⟩ :: rest) e h := by
 obtain ⟨d, h1, _, h2⟩ := Yr0 (H (fun h' d => h' = [] ∧ aeS P G n m0 ops Q (Vs d :: done) rest (upd e t d) h) fun h' d q1 q2 => ⟨q1, q2⟩) fun h' d q => q.1
 refine ⟨Vs d, .inl ⟨hw, ⟨by simp [Vs], fun _ _ _ => rfl⟩, fun h2 _ => .inl ?_⟩, by simp [Vs, Eff.ok], ?_⟩
 · rw [Zi8]; exact aOp_any h1 h2
 · rw [Zi8]
   unfold putE
   simp only [if_pos (of_decide_eq_true ht)]
   exact h2
theorem aS0 (hw : Yg ops gd e = some false) (ht : decide (t < n) = true) (k : aeS P G n m0 ops Q (nop :: done) rest (upd e t (.v undef)) h) : aeS P G n m0 ops Q done (⟨some t, op, ty, pos, aft, gd⟩ :: rest) e h := by
 refine ⟨nop, .inr ⟨hw, rfl⟩, by simp [nop, Eff.ok], ?_⟩
 have hh : nop.heap h = h := by simp [nop, Eff.heap, Xt]
 rw [hh]; unfold putE; simp only [if_pos (of_decide_eq_true ht)]; exact k
theorem Xs {u : TypeId} {x : Operand} {i o : Nat} {ds : List D} {d : D} (hw : Yg ops gd e = some true) (ht : decide (t < n) = true) (hx : ev G e x = .ptr i o) (hi : h[i]? = some (.cells ds)) (hg : getD P u ds o = some d)
 (k : aeS P G n m0 ops Q (Wl i (.cells ds) d :: done) rest (upd e t d) h) : aeS P G n m0 ops Q done (⟨some t, .load u x, ty, pos, aft, gd⟩ :: rest) e h := by
 have hh : ∀ h, (Wl i (.cells ds) d).heap h = h := fun h => by simp [Wl, Eff.heap, Xt]
 refine ⟨Wl i (.cells ds) d, .inl ⟨hw, ⟨by simp [Wl], fun _ _ _ => rfl⟩, fun h2 k2 => .inl ?_⟩, by simpa [Wl, Eff.ok] using hi, ?_⟩
 · rw [hh]
   have hi2 : h2[i]? = some (.cells ds) := k2 (i, .cells ds) (by simp [Wl])
   show on (Zb1 P h2 u (ev G e x)) _
   rw [hx]
   simp only [Zb1, hi2, hg, on]
   exact ⟨trivial, rfl⟩
 · rw [hh]; unfold putE; simp only [if_pos (of_decide_eq_true ht)]; exact k
theorem Ui {u : TypeId} {x y : Operand} {i o : Nat} {ds es : List D} (hw : Yg ops gd e = some true) (hx : ev G e x = .ptr i o) (hi : h[i]? = some (.cells ds)) (hy : (ev G e y).cells = some es) (hc : (es.all D.one && szT P u == some es.length) = true) (hle : o + es.length ≤ ds.length)
 (k : aeS P G n m0 ops Q (V8 i (.cells ds) (.cells (putL ds o es)) (.v undef) :: done) rest e (h.set i (.cells (putL ds o es)))) : aeS P G n m0 ops Q done (⟨none, .store u x y, ty, pos, aft, gd⟩ :: rest) e h := by
 have hh : ∀ h, (V8 i (.cells ds) (.cells (putL ds o es)) (.v undef)).heap h = h.set i (.cells (putL ds o es)) := fun h => by simp [V8, Eff.heap, Xt]
 refine ⟨V8 i (.cells ds) (.cells (putL ds o es)) (.v undef), .inl ⟨hw, ⟨by simp [V8], fun _ _ _ => rfl⟩, fun h2 k2 => .inl ?_⟩, by simpa [V8, Eff.ok] using hi, by rw [hh]; exact k⟩
 have hi2 : h2[i]? = some (.cells ds) := k2 (i, .cells ds) (by simp [V8])
 rw [hh]
 show on (Zd8 P h2 u (ev G e x) (ev G e y)) _
 rw [hx]
 simp only [Zd8, hy, hc, if_true, hi2, if_pos hle, on]
 exact ⟨trivial, rfl⟩
theorem Jp {u len e' k' : Nat} {parts : Array (Nat × Operand)} {xs : List (List D)} (hw : Yg ops gd e = some true) (ht : decide (t < n) = true) (hl : litD P u len (parts.toList.map fun q => (q.1, ev G e q.2)) = some (e', k', xs))
 (k : aeS P G n m0 ops Q (⟨[], [], [.buf e' k' xs], fun m => .buf m len⟩ :: done) rest (upd e t (.buf h.length len)) (h ++ [.buf e' k' xs])) : aeS P G n m0 ops Q done (⟨some t, .buildSlice u len parts, ty, pos, aft, gd⟩ :: rest) e h := by
 refine ⟨⟨[], [], [.buf e' k' xs], fun m => .buf m len⟩, .inl ⟨hw, ⟨by simp, fun hn => by cases hn⟩, fun h2 _ => .inl ?_⟩, by simp [Eff.ok], ?_⟩
 · show on (litD P u len (parts.toList.map fun q => (q.1, ev G e q.2))) _
   rw [hl]; exact ⟨rfl, rfl⟩
 · unfold putE; simp only [if_pos (of_decide_eq_true ht)]; exact k
theorem aS_app {x y : Operand} {u u' i m e' k' by' : Nat} {xs ys : List (List D)} {R : List (Nat × Ob)} (hw : Yg ops gd e = some true) (ht : decide (t < n) = true) (hx : ev G e x = .buf i m) (hi : h[i]? = some (.buf e' k' xs)) (hm : xs.length = m) (ha : apT P u = some (e', k', by'))
 (hs : ∀ h2 : List Ob, (∀ q ∈ R, h2[q.1]? = some q.2) → srcD P h2 u u' (ev G e y) = some ys) (hR : ∀ q ∈ R, h[q.1]? = some q.2) (hk : Yz k' ys) (hb : (m + ys.length) * (by' + 1) ≤ 140737488355328)
 (k : aeS P G n m0 ops Q (⟨(i, .buf e' k' xs) :: R, [(i, .buf e' k' (xs ++ ys))], [], fun _ => .buf i (m + ys.length)⟩ :: done) rest (upd e t (.buf i (m + ys.length))) (h.set i (.buf e' k' (xs ++ ys)))) :
 aeS P G n m0 ops Q done (⟨some t, .call ⟨.builtin .append, #[x, y], #[u, u']⟩, ty, pos, aft, gd⟩ :: rest) e h := by
 have hh : ∀ h, (⟨(i, .buf e' k' xs) :: R, [(i, .buf e' k' (xs ++ ys))], [], fun _ => .buf i (m + ys.length)⟩ : Eff).heap h = h.set i (.buf e' k' (xs ++ ys)) := fun h => by simp [Eff.heap, Xt]
 refine ⟨⟨(i, .buf e' k' xs) :: R, [(i, .buf e' k' (xs ++ ys))], [], fun _ => .buf i (m + ys.length)⟩, .inl ⟨hw, ⟨by simp, fun _ _ _ => rfl⟩, fun h2 k2 => .inl ?_⟩, ?_, ?_⟩
 · rw [hh]
   have hi2 : h2[i]? = some (.buf e' k' xs) := k2 (i, .buf e' k' xs) (by simp)
   show aOp P G e h2 _ (.call ⟨.builtin .append, #[x, y], #[u, u']⟩)
   rw [aOp_bi]
   show biA P h2 .append [u, u'] [ev G e x, ev G e y] _
   rw [hx, biA_append]
   exact ⟨e', k', by', ys, ha, hs h2 fun q hq => k2 q (by simp [hq]), hk, xs, hi2, hm, hb, rfl, rfl⟩
 · intro q hq
   rcases List.mem_cons.1 hq with rfl | hq
   · exact hi
   · exact hR q hq
 · rw [hh]; unfold putE; simp only [if_pos (of_decide_eq_true ht)]; exact k
theorem aS_call {x : Operand} {args : Array Operand} {tys : Array TypeId} {f : FuncId} {cap : List D} {E : Eff} (hw : Yg ops gd e = some true) (ht : decide (t < n) = true) (hx : ev G e x = .fn f cap) (he : entB P f = true) (hf : E.fit) (hk : E.ok h)
 (hc : ∀ h2, E.ok h2 → Does P G f h2 (args.toList.map (ev G e) ++ cap) (fun h' r => h' = E.heap h2 ∧ r = E.d h2.length))
 (k : aeS P G n m0 ops Q (E :: done) rest (upd e t (E.d h.length)) (E.heap h)) : aeS P G n m0 ops Q done (⟨some t, .call ⟨.value x, args, tys⟩, ty, pos, aft, gd⟩ :: rest) e h :=
 ⟨E, .inl ⟨hw, hf, fun h2 k2 => .inr ⟨x, args, tys, f, cap, rfl, hx, he, hc h2 k2⟩⟩, hk, by unfold putE; simp only [if_pos (of_decide_eq_true ht)]; exact k⟩
theorem Ys {x : Operand} {args : Array Operand} {tys : Array TypeId} {f : FuncId} {cap : List D} {d : D} (hw : Yg ops gd e = some true) (ht : decide (t < n) = true) (hx : ev G e x = .fn f cap) (he : entB P f = true)
 (hc : ∀ h2, Does P G f h2 (args.toList.map (ev G e) ++ cap) (fun h' r => h' = h2 ∧ r = d))
 (k : aeS P G n m0 ops Q (Vs d :: done) rest (upd e t d) h) : aeS P G n m0 ops Q done (⟨some t, .call ⟨.value x, args, tys⟩, ty, pos, aft, gd⟩ :: rest) e h :=
 aS_call (E := Vs d) hw ht hx he ⟨by simp [Vs], fun _ _ _ => rfl⟩ (by simp [Vs, Eff.ok]) (fun h2 _ => by rw [Zi8]; exact hc h2) (by rw [Zi8]; exact k)
theorem Zj6 {x : Operand} {args : Array Operand} {tys : Array TypeId} {f : FuncId} {cap : List D} {d : D} {i : Nat} {ob ob' : Ob} (hw : Yg ops gd e = some true) (ht : decide (t < n) = true) (hx : ev G e x = .fn f cap) (he : entB P f = true) (hi : h[i]? = some ob)
 (hc : ∀ h2, h2[i]? = some ob → Does P G f h2 (args.toList.map (ev G e) ++ cap) (fun h' r => h' = h2.set i ob' ∧ r = d))
 (k : aeS P G n m0 ops Q (V8 i ob ob' d :: done) rest (upd e t d) (h.set i ob')) : aeS P G n m0 ops Q done (⟨some t, .call ⟨.value x, args, tys⟩, ty, pos, aft, gd⟩ :: rest) e h := by
 have hh : ∀ h, (V8 i ob ob' d).heap h = h.set i ob' := fun h => by simp [V8, Eff.heap, Xt]
 exact aS_call (E := V8 i ob ob' d) hw ht hx he ⟨by simp [V8], fun _ _ _ => rfl⟩ (by simpa [V8, Eff.ok] using hi) (fun h2 k2 => by rw [hh]; exact hc h2 (k2 (i, ob) (by simp [V8]))) (by rw [hh]; exact k)
end
section
variable {m0 : Nat} {done : List Eff} {rest : List Oper} {Q : (Nat → D) → List Ob → Prop} {t : Nat} {ty : TypeId} {pos : String} {aft : Array Edge} {gd : Option (Nat × Bool)} {x y : Operand} {u i j m m' e' k' e2 k2 by' : Nat} {xs ys : List (List D)}
theorem src_buf {h2 : List Ob} {d : D} (hy : d = .buf j m') (hj : h2[j]? = some (.buf e2 k2 ys)) (hm : ys.length = m') : srcD P h2 u u d = some ys := by
 subst hy; unfold srcD; simp only [if_true, hj, if_pos hm]
theorem src_any {u' : Nat} {h2 : List Ob} {d : D} (q : srcD P [] u u' d = some ys) : srcD P h2 u u' d = some ys := by
 unfold srcD at q ⊢
 split at q
 · exact q
 · split at q
   · simp at q
   · cases q
 · split at q
   · simp at q
   · cases q
 · exact q
 · exact q
 · cases q
theorem Zd7 (hw : Yg ops gd e = some true) (ht : decide (t < n) = true) (hx : ev G e x = .buf i m) (hy : ev G e y = .buf j m') (hi : h[i]? = some (.buf e' k' xs)) (hm : xs.length = m) (ha : apT P u = some (e', k', by')) (hj : h[j]? = some (.buf e2 k2 ys)) (hm' : ys.length = m')
 (hk : Yz k' ys) (hb : (m + ys.length) * (by' + 1) ≤ 140737488355328)
 (k : aeS P G n m0 ops Q (⟨[(i, .buf e' k' xs), (j, .buf e2 k2 ys)], [(i, .buf e' k' (xs ++ ys))], [], fun _ => .buf i (m + ys.length)⟩ :: done) rest (upd e t (.buf i (m + ys.length))) (h.set i (.buf e' k' (xs ++ ys)))) :
 aeS P G n m0 ops Q done (⟨some t, .call ⟨.builtin .append, #[x, y], #[u, u]⟩, ty, pos, aft, gd⟩ :: rest) e h :=
 aS_app (R := [(j, .buf e2 k2 ys)]) hw ht hx hi hm ha (fun h2 q => src_buf hy (q _ (List.mem_singleton.2 rfl)) hm') (fun q hq => by rw [List.mem_singleton.1 hq]; exact hj) hk hb k
theorem aS_appR {u' : Nat} (hw : Yg ops gd e = some true) (ht : decide (t < n) = true) (hx : ev G e x = .buf i m) (hi : h[i]? = some (.buf e' k' xs)) (hm : xs.length = m) (ha : apT P u = some (e', k', by')) (hs : srcD P [] u u' (ev G e y) = some ys)
 (hk : Yz k' ys) (hb : (m + ys.length) * (by' + 1) ≤ 140737488355328)
 (k : aeS P G n m0 ops Q (⟨[(i, .buf e' k' xs)], [(i, .buf e' k' (xs ++ ys))], [], fun _ => .buf i (m + ys.length)⟩ :: done) rest (upd e t (.buf i (m + ys.length))) (h.set i (.buf e' k' (xs ++ ys)))) :
 aeS P G n m0 ops Q done (⟨some t, .call ⟨.builtin .append, #[x, y], #[u, u']⟩, ty, pos, aft, gd⟩ :: rest) e h :=
 aS_app (R := []) hw ht hx hi hm ha (fun h2 q => src_any hs) (by simp) hk hb k
end
/-! What a function hands back, its own memory being given away. -/
@[go_sem] theorem byD_len {l : List UInt8} : (byD l).length = l.length := by simp [byD]
theorem Jo {l : List UInt8} (a b : Nat) : ((byD l).take b).drop a = byD ((l.take b).drop a) := by simp [byD, List.map_drop, List.map_take]
theorem Xe (l : List UInt8) : Yz 1 (byD l) := fun row hr => by
 obtain ⟨b, _, rfl⟩ := List.mem_map.1 hr
 exact ⟨rfl, by simp [D.one, Value.oneCell']⟩
theorem Vu (k : Nat) : Yz k [] := by simp [Yz]
theorem Does.weak {f : FuncId} {args : List D} {K : List Ob → D → Prop} (q : Does P G f h args (fun h' r => ∃ r', K h' r' ∧ ∀ hd hh W u, rd hd hh W r u → rd hd hh W r' u)) : Does P G f h args K := fun w hd p vs o ha =>
 (q w hd p vs o ha).mono fun _ _ ⟨v, hd', h', r, p', e, ⟨r', hk, hw⟩, o', q', ev⟩ => ⟨v, hd', h', r', p', e, hk, o', hw _ _ _ _ q', ev⟩
theorem nil_sl {k : Nat} : ∀ hd hh W u, rd hd hh W (.v (.slice none 0 0)) u → rd hd hh W (.sl k []) u := fun hd hh W u q => by
 have q : u = .slice none 0 0 := by rw [rd] at q; exact q
 subst q
 rw [rd]
 exact ⟨none, 0, rfl, ⟨fun _ => rfl, Za _⟩, by decide, by rw [W5]; trivial⟩
theorem Yc {P : Program} {G : Nat → D} {c : Code} {Q : Exit → S → Prop} {s : S} (q : aw P G c Q s) : aw P G c Q s := q
theorem Y7 {P : Program} {G : Nat → D} {ops : Array Oper} {l : List Oper} {Q : S → Prop} {s : S} (q : ao P G ops l Q s) : ao P G ops l Q s := q
theorem X6 {P : Program} {G : Nat → D} {n : Nat} {ops : Array Oper} {h : List Ob} {Q : (Nat → D) → Prop} {l : List Oper} {e : Nat → D} (q : aq P G n ops h Q l e) : aq P G n ops h Q l e := q
theorem Up {P : Program} {G : Nat → D} {n m0 : Nat} {ops : Array Oper} {Q : (Nat → D) → List Ob → Prop} {done : List Eff} {l : List Oper} {e : Nat → D} {h : List Ob} (q : aeS P G n m0 ops Q done l e h) : aeS P G n m0 ops Q done l e h := q
theorem Ws {K : S → Prop} {Q : Exit → S → Prop} {x : Exit} {s : S} (q : Zr8 K Q x s) : Zr8 K Q x s := q
theorem Jq {i : Nat} {Q : Exit → S → Prop} {x : Exit} {s : S} (q : J5 i Q x s) : J5 i Q x s := q
@[reducible] def nxA (P : Program) (G : Nat → D) (Q : Exit → S → Prop) (s : S) : Code → Option Prop
 | .seq x y => some (aw P G x (Zr8 (aw P G y Q) Q) s)
 | .region _ ⟨l⟩ false => some (ao P G l.toArray l (Q .normal) s)
 | .block id c => some (aw P G c (J5 id Q) s)
 | .skip => some (Q .normal s)
 | .exit id => some (Q (.exit id) s)
 | .ret => some (Q .ret s)
 | _ => none
theorem sA {P : Program} {G : Nat → D} {c : Code} {Q : Exit → S → Prop} {s : S} {p : Prop} (h : nxA P G Q s c = some p) (k : p) : aw P G c Q s := by
 unfold nxA at h
 split at h
 · cases h; exact Yq k
 · cases h; exact Yd k
 · cases h; exact Yy k
 · cases h; exact Xi k
 · cases h; exact W4 k
 · cases h; exact Xl k
 · cases h
@[reducible] def nxI (P : Program) (G : Nat → D) (Q : Exit → S → Prop) (s : S) (x y : Code) : Bool → Option Prop
 | true => some (aw P G x Q s)
 | false => some (aw P G y Q s)
theorem sI {P : Program} {G : Nat → D} {c : Operand} {x y : Code} {Q : Exit → S → Prop} {s : S} {b : Bool} {p : Prop} (hb : ev G s.env c = .v (.bool b)) (h : nxI P G Q s x y b = some p) (k : p) : aw P G (.cond c x y) Q s := by
 cases b
 · cases h; exact Wh hb k
 · cases h; exact We hb k
@[reducible] def nxT (K : S → Prop) (Q : Exit → S → Prop) (s : S) : Exit → Option Prop
 | .normal => some (K s)
 | .exit i => some (Q (.exit i) s)
 | .ret => some (Q .ret s)
 | _ => none
theorem sT {K : S → Prop} {Q : Exit → S → Prop} {s : S} {x : Exit} {p : Prop} (h : nxT K Q s x = some p) (k : p) : Zr8 K Q x s := by
 cases x <;> first | (cases h; exact k) | cases h
@[reducible] def nxB (i : Nat) (Q : Exit → S → Prop) (s : S) : Exit → Option Prop
 | .normal => some (Q .normal s)
 | .exit j => match Nat.beq j i with
   | true => some (Q .normal s)
   | false => some (Q (.exit j) s)
 | .ret => some (Q .ret s)
 | _ => none
theorem sB {i : Nat} {Q : Exit → S → Prop} {s : S} {x : Exit} {p : Prop} (h : nxB i Q s x = some p) (k : p) : J5 i Q x s := by
 cases x with
 | exit j =>
  simp only [nxB] at h
  split at h
  · rename_i e; cases h; have e := Nat.eq_of_beq_eq_true e; subst e; exact Jk k
  · rename_i e; cases h; exact inB_y (beq_eq_false_iff_ne.2 (Nat.ne_of_beq_eq_false e)) k
 | _ => first | (cases h; exact k) | cases h
theorem endV {P : Program} {res : Array ResultVar} {h0 : List Ob} {K : List Ob → D → Prop} {s : S} {ds : List D} {x : Value} (hl : lowH h0.length h0) (h1 : resD P s res.toList = some ds) (h3 : cvD (fun i => decide (h0.length ≤ i)) s.h (outD ds) = .v x) (hK : K h0 (.v x))
 (h2 : s.h.take h0.length = h0 := by simp) (h4 : h0.length ≤ s.h.length := by simp) : EndD P res h0.length K s := endD hl h1 h2 h4 h3 (by rw [low]; trivial) hK
end
section
variable {P : Program} {G : Nat → D} {n : Nat} {e : Nat → D} {h : List Ob}
theorem Yb4 {j : Nat} : Zm7 (fun i => i == j) h = h.set j .dead := by
 apply List.ext_getElem?
 intro i
 unfold Zm7
 rw [List.getElem?_mapIdx, List.getElem?_set]
 by_cases hij : j = i
 · subst hij
   cases hj : h[j]? with
   | none => rw [if_pos rfl, if_neg (by simpa using hj)]; rfl
   | some ob => rw [if_pos rfl, if_pos (Z1.1 hj).1]; simp
 · rw [if_neg hij]
   cases hi : h[i]? with
   | none => rfl
   | some ob => simp [Ne.symm hij]
theorem Sit_give {B : Base} {a : Act} {w : World} (j t : Nat) (r : Sit G B ⟨n, e, h⟩ a w) : Sit G B ⟨n, upd e t (cvD (fun i => i == j) h (e t)), h.set j .dead⟩ a w := by
 obtain ⟨hd, p, r⟩ := r
 obtain ⟨p', o, ev, q⟩ := Ok.give r.ok (fun i => i == j)
 rw [Yb4] at o ev q
 refine ⟨hd, p', o, r.evo.trans ev, fun t' => ?_, r.size, r.defers⟩
 show rd _ _ _ (upd e t _ t') _
 unfold upd
 by_cases ht : t' = t
 · rw [if_pos ht, ht]; exact q _ _ (r.tmp t)
 · rw [if_neg ht]; exact ev.rd r.ok (r.tmp t')
theorem ao_give {ops : Array Oper} {l : List Oper} {Q : S → Prop} (j t : Nat) (k : ao P G ops l Q ⟨n, upd e t (cvD (fun i => i == j) h (e t)), h.set j .dead⟩) : ao P G ops l Q ⟨n, e, h⟩ := fun B a w r R hR => k B a w (Sit_give j t r) R hR
@[go_sem] theorem buildD_all {parts : List (Nat × D)} {t : TypeId} (q : Zv3 P t = true) : Zv1 P t parts = (Uj P t).bind fun z => Yo8 (plT P t) z parts := by unfold Zv1; rw [if_pos q]
@[go_sem] theorem fillD_nil {pl : Nat → Option (Nat × Nat)} {cs : List D} : Yo8 pl cs [] = some cs := rfl
@[go_sem] theorem fillD_cons {pl : Nat → Option (Nat × Nat)} {cs : List D} {i : Nat} {d : D} {rest : List (Nat × D)} : Yo8 pl cs ((i, d) :: rest) = match pl i, d.cells with
 | some (off, sz), some es => if es.length = sz ∧ off + sz ≤ cs.length then Yo8 pl (putL cs off es) rest else none
 | _, _ => none := rfl
@[go_sem] theorem putL_cons {α : Type} {a b : α} {l m : List α} : putL (a :: l) 0 (b :: m) = b :: putL l 0 m := by simp [putL]
@[go_sem] theorem putL_nil {α : Type} {l : List α} {o : Nat} : putL l o [] = l := by simp [putL]
@[go_sem] theorem putL_suc {α : Type} {a : α} {l m : List α} {o : Nat} : putL (a :: l) (o + 1) m = a :: putL l o m := by simp [putL, Nat.add_right_comm]
attribute [go_sem] litD Wb Option.map_some List.length_cons List.length_nil and_self Option.bind_some
end
section
section
variable {P : Program} {G : Nat → D} {n : Nat} {e : Nat → D} {h : List Ob} {ops : Array Oper} {rest : List Oper} {Q : S → Prop} {t : Nat} {ty : TypeId} {pos : String} {aft : Array Edge} {gd : Option (Nat × Bool)} {x y : Operand} {u u' i j m m' e' k' e2 k2 by' : Nat} {xs ys : List (List D)}
theorem ao_app (hw : Yg ops gd e = some true) (ht : decide (t < n) = true) (hx : ev G e x = .buf i m) (hi : h[i]? = some (.buf e' k' xs)) (hm : xs.length = m) (ha : apT P u = some (e', k', by')) (hs : srcD P h u u' (ev G e y) = some ys) (hk : Yz k' ys) (hb : (m + ys.length) * (by' + 1) ≤ 140737488355328)
 (k : ao P G ops rest Q ⟨n, upd e t (.buf i (m + ys.length)), h.set i (.buf e' k' (xs ++ ys))⟩) : ao P G ops (⟨some t, .call ⟨.builtin .append, #[x, y], #[u, u']⟩, ty, pos, aft, gd⟩ :: rest) Q ⟨n, e, h⟩ := by
 refine ao1 hw ht fun K HK => ?_
 rw [aOp_bi]
 show biA P h .append [u, u'] [ev G e x, ev G e y] K
 rw [hx, biA_append]
 exact ⟨e', k', by', ys, ha, hs, hk, xs, hi, hm, hb, HK _ _ k⟩
theorem ao_appN (hw : Yg ops gd e = some true) (ht : decide (t < n) = true) (hx : ev G e x = .v (.slice none 0 0)) (ha : apT P u = some (e', k', by')) (hs : srcD P h u u' (ev G e y) = some ys) (hk : Yz k' ys) (hb : ys.length * (by' + 1) ≤ 140737488355328)
 (k : ao P G ops rest Q ⟨n, upd e t (.buf h.length ys.length), h ++ [.buf e' k' ys]⟩) : ao P G ops (⟨some t, .call ⟨.builtin .append, #[x, y], #[u, u']⟩, ty, pos, aft, gd⟩ :: rest) Q ⟨n, e, h⟩ := by
 refine ao1 hw ht fun K HK => ?_
 rw [aOp_bi]
 show biA P h .append [u, u'] [ev G e x, ev G e y] K
 rw [hx, biA_append]
 exact ⟨e', k', by', ys, ha, hs, hk, hb, HK _ _ k⟩
theorem Xy (hw : Yg ops gd e = some true) (ht : decide (t < n) = true) (hx : ev G e x = .buf i m) (hy : ev G e y = .buf j m') (hi : h[i]? = some (.buf e' k' xs)) (hm : xs.length = m) (ha : apT P u = some (e', k', by')) (hj : h[j]? = some (.buf e2 k2 ys)) (hm' : ys.length = m') (hk : Yz k' ys) (hb : (m + ys.length) * (by' + 1) ≤ 140737488355328)
 (k : ao P G ops rest Q ⟨n, upd e t (.buf i (m + ys.length)), h.set i (.buf e' k' (xs ++ ys))⟩) : ao P G ops (⟨some t, .call ⟨.builtin .append, #[x, y], #[u, u]⟩, ty, pos, aft, gd⟩ :: rest) Q ⟨n, e, h⟩ := ao_app hw ht hx hi hm ha (src_buf hy hj hm') hk hb k
theorem Ye4 (hw : Yg ops gd e = some true) (ht : decide (t < n) = true) (hx : ev G e x = .buf i m) (hi : h[i]? = some (.buf e' k' xs)) (hm : xs.length = m) (ha : apT P u = some (e', k', by')) (hs : srcD P [] u u' (ev G e y) = some ys) (hk : Yz k' ys) (hb : (m + ys.length) * (by' + 1) ≤ 140737488355328)
 (k : ao P G ops rest Q ⟨n, upd e t (.buf i (m + ys.length)), h.set i (.buf e' k' (xs ++ ys))⟩) : ao P G ops (⟨some t, .call ⟨.builtin .append, #[x, y], #[u, u']⟩, ty, pos, aft, gd⟩ :: rest) Q ⟨n, e, h⟩ := ao_app hw ht hx hi hm ha (src_any hs) hk hb k
theorem Yq8 (hw : Yg ops gd e = some true) (ht : decide (t < n) = true) (hx : ev G e x = .v (.slice none 0 0)) (hy : ev G e y = .buf j m') (ha : apT P u = some (e', k', by')) (hj : h[j]? = some (.buf e2 k2 ys)) (hm' : ys.length = m') (hk : Yz k' ys) (hb : ys.length * (by' + 1) ≤ 140737488355328)
 (k : ao P G ops rest Q ⟨n, upd e t (.buf h.length ys.length), h ++ [.buf e' k' ys]⟩) : ao P G ops (⟨some t, .call ⟨.builtin .append, #[x, y], #[u, u]⟩, ty, pos, aft, gd⟩ :: rest) Q ⟨n, e, h⟩ := ao_appN hw ht hx ha (src_buf hy hj hm') hk hb k
theorem ao_appNR (hw : Yg ops gd e = some true) (ht : decide (t < n) = true) (hx : ev G e x = .v (.slice none 0 0)) (ha : apT P u = some (e', k', by')) (hs : srcD P [] u u' (ev G e y) = some ys) (hk : Yz k' ys) (hb : ys.length * (by' + 1) ≤ 140737488355328)
 (k : ao P G ops rest Q ⟨n, upd e t (.buf h.length ys.length), h ++ [.buf e' k' ys]⟩) : ao P G ops (⟨some t, .call ⟨.builtin .append, #[x, y], #[u, u']⟩, ty, pos, aft, gd⟩ :: rest) Q ⟨n, e, h⟩ := ao_appN hw ht hx ha (src_any hs) hk hb k
end
end
section
mutual
def ren (π : Nat → Nat) : D → D
 | .any => .any
 | .v x => .v x
 | .sl k xs => .sl k (renR π xs)
 | .agg ds => .agg (renL π ds)
 | .tup ds => .tup (renL π ds)
 | .rp ds => .rp (renL π ds)
 | .ptr i o => .ptr (π i) o
 | .buf i n => .buf (π i) n
 | .bp i n r j => .bp (π i) n r j
 | .win i n a b => .win (π i) n a b
 | .arr i o n c k => .arr (π i) o n c k
 | .mp i => .mp (π i)
 | .e0 => .e0
 | .fn f ds => .fn f (renL π ds)
def renL (π : Nat → Nat) : List D → List D
 | [] => []
 | d :: t => ren π d :: renL π t
def renR (π : Nat → Nat) : List (List D) → List (List D)
 | [] => []
 | d :: t => renL π d :: renR π t
end
theorem U2 (π : Nat → Nat) : ∀ l, renL π l = l.map (ren π)
 | [] => by rw [renL]; rfl
 | d :: t => by rw [renL, U2 π t]; rfl
theorem V5 (π : Nat → Nat) : ∀ l, renR π l = l.map (renL π)
 | [] => by rw [renR]; rfl
 | d :: t => by rw [renR, V5 π t]; rfl
def Ve (π : Nat → Nat) : Ob → Ob
 | .cells ds => .cells (renL π ds)
 | .buf e k xs => .buf e k (renR π xs)
 | .map es c => .map (es.map fun e => (e.1, e.2.1, ren π e.2.2)) c
 | .iter m s l a => .iter (π m) s l a
 | .hole => .hole
 | .dead => .dead
theorem J9 {π : Nat → Nat} (ob : Ob) : (Ve π ob).live = ob.live := by cases ob <;> rfl
theorem Yg2 {π : Nat → Nat} (ob : Ob) : (Ve π ob).isHole = ob.isHole := by cases ob <;> rfl
structure Emb (m : Nat) (π : Nat → Nat) (hd : List Value) (h : List Ob) (hd' : List Value) (h' : List Ob) : Prop where
 hd : ∀ i, i < m → ∀ u, hd[i]? = some u → hd'[π i]? = some u
 usd : ∀ i, i < m → used h i → used h' (π i)
 buf : ∀ (i : Nat) e k xs', i < m → used h i → h'[π i]? = some (.buf e k xs') → ∃ e0 xs, h[i]? = some (.buf e0 k xs) ∧ xs.length = xs'.length
section
variable {m : Nat} {π : Nat → Nat} {hd hd' : List Value} {h h' : List Ob} {W W' : World}
mutual
theorem rd_emb (c : Emb m π hd h hd' h') (hl : hd.length = h.length) (s : Sub W W') : ∀ (d : D) (u : Value), low m d → rd hd h W d u → rd hd' h' W' (ren π d) u
 | .any, _, _, _ => by rw [ren, rd]; trivial
 | .v x, u, _, q => by rw [rd] at q; rw [ren, rd]; exact q
 | .sl k xs, u, l, q => by
   rw [low] at l; rw [rd] at q; rw [ren, rd]
   obtain ⟨a, cap, h1, h2, h3, h4⟩ := q
   have e : (renR π xs).length = xs.length := by rw [V5]; simp
   exact ⟨a, cap, by rw [e]; exact h1, by rw [e]; exact h2, h3, Yg5 c hl s k a xs 0 l h4⟩
 | .agg ds, u, l, q => by
   rw [low] at l; rw [rd] at q; rw [ren, rd]
   obtain ⟨cs, h1, h2⟩ := q
   exact ⟨cs, h1, Zl7 c hl s ds _ l h2⟩
 | .tup ds, u, l, q => by
   rw [low] at l; rw [rd] at q; rw [ren, rd]
   obtain ⟨cs, h1, h2⟩ := q
   exact ⟨cs, h1, Zl7 c hl s ds _ l h2⟩
 | .rp ds, u, l, q => by
   rw [low] at l; rw [rd] at q; rw [ren, rd]
   obtain ⟨b, o, h1, h2⟩ := q
   exact ⟨b, o, h1, Ym0 c hl s ds b o l h2⟩
 | .ptr i o, u, l, q => by
   rw [low] at l; rw [rd] at q; rw [ren, rd]
   obtain ⟨B, h1, h2⟩ := q
   exact ⟨B, c.hd i l _ h1, h2⟩
 | .buf i n, u, l, q => by
   rw [low] at l; rw [rd] at q; rw [ren, rd]
   obtain ⟨h0, hi, h2⟩ := q
   refine ⟨h0, c.usd i l hi, fun e k xs hx => ?_⟩
   obtain ⟨e0, xs0, hh0, l0⟩ := c.buf i e k xs l hi hx
   obtain ⟨h3, h4⟩ := h2 e0 k xs0 hh0
   exact ⟨l0 ▸ h3, fun he => c.hd i l _ (h4 (l0.trans he))⟩
 | .bp i n r j, u, l, q => by
   rw [low] at l; rw [rd] at q; rw [ren, rd]
   obtain ⟨h0, hi, h2⟩ := q
   refine ⟨h0, c.usd i l hi, fun e k xs hx => ?_⟩
   obtain ⟨e0, xs0, hh0, l0⟩ := c.buf i e k xs l hi hx
   obtain ⟨h3, h4⟩ := h2 e0 k xs0 hh0
   refine ⟨l0 ▸ h3, fun he => ?_⟩
   obtain ⟨B, cap, h5, h6⟩ := h4 (l0.trans he)
   exact ⟨B, cap, c.hd i l _ h5, h6⟩
 | .win i n a b, u, l, q => by
   rw [low] at l; rw [rd] at q; rw [ren, rd]
   obtain ⟨h0, hi, h2⟩ := q
   refine ⟨h0, c.usd i l hi, fun e k xs hx => ?_⟩
   obtain ⟨e0, xs0, hh0, l0⟩ := c.buf i e k xs l hi hx
   obtain ⟨h3, h4⟩ := h2 e0 k xs0 hh0
   refine ⟨l0 ▸ h3, fun he => ?_⟩
   obtain ⟨h5, h6, h7⟩ := h4 (l0.trans he)
   refine ⟨h5, h6, h7.imp id ?_⟩
   rintro ⟨B, cap, qq, h8, h9⟩
   exact ⟨B, cap, qq, c.hd i l _ h8, h9⟩
 | .arr i o n cc kk, u, l, q => by
   rw [low] at l; rw [rd] at q; rw [ren, rd]
   obtain ⟨B, h1, h2⟩ := q
   exact ⟨B, c.hd i l _ h1, h2⟩
 | .mp i, u, l, q => by
   rw [low] at l; rw [rd] at q; rw [ren, rd]
   obtain ⟨r, h1, h2⟩ := q
   exact ⟨r, c.hd i l _ h1, h2⟩
 | .e0, u, _, q => by rw [rd] at q; rw [ren, rd]; exact q
 | .fn f ds, u, l, q => by
   rw [low] at l; rw [rd] at q; rw [ren, rd]
   obtain ⟨cs, h1, h2⟩ := q
   exact ⟨cs, h1, Zl7 c hl s ds _ l h2⟩
theorem Zl7 (c : Emb m π hd h hd' h') (hl : hd.length = h.length) (s : Sub W W') : ∀ (ds : List D) (us : List Value), lowL m ds → rdL hd h W ds us → rdL hd' h' W' (renL π ds) us
 | [], _, _, q => by rw [rdL] at q; rw [renL, rdL]; exact q
 | d :: ds, us, l, q => by
   rw [lowL] at l; rw [rdL] at q; rw [renL, rdL]
   obtain ⟨u, t, h1, h2, h3⟩ := q
   exact ⟨u, t, h1, rd_emb c hl s d u l.1 h2, Zl7 c hl s ds t l.2 h3⟩
theorem Ym0 (c : Emb m π hd h hd' h') (hl : hd.length = h.length) (s : Sub W W') : ∀ (ds : List D) (b o : Nat), lowL m ds → rdAt hd h W b o ds → rdAt hd' h' W' b o (renL π ds)
 | [], _, _, _, _ => by rw [renL, rdAt]; trivial
 | d :: ds, b, o, l, q => by
   rw [lowL] at l; rw [rdAt] at q; rw [renL, rdAt]
   obtain ⟨⟨u, h1, h2⟩, h3⟩ := q
   exact ⟨⟨u, s _ _ h1, rd_emb c hl s d u l.1 h2⟩, Ym0 c hl s ds b (o + 1) l.2 h3⟩
theorem Yg5 (c : Emb m π hd h hd' h') (hl : hd.length = h.length) (s : Sub W W') (k : Nat) (a : Option Addr) : ∀ (xs : List (List D)) (o : Nat), lowR m xs → W5 hd h W k a o xs → W5 hd' h' W' k a o (renR π xs)
 | [], _, _, _ => by rw [renR, W5]; trivial
 | ds :: t, o, l, q => by
   rw [lowR] at l; rw [W5] at q; rw [renR, W5]
   obtain ⟨⟨b, r, h1, h2⟩, h3, h4⟩ := q
   exact ⟨⟨b, r, h1, Ym0 c hl s ds b (r + o) l.1 h2⟩, by rw [U2, Z6]; exact h3, Yg5 c hl s k a t (o + k) l.2 h4⟩
end
end
structure Une (m : Nat) (π : Nat → Nat) (hd : List Value) (h : List Ob) (hd' : List Value) (h' : List Ob) : Prop where
 hd : ∀ i, i < m → ∀ u, hd[π i]? = some u → hd'[i]? = some u
 usd : ∀ i, i < m → used h (π i) → used h' i
 buf : ∀ (i : Nat) e k xs', i < m → h'[i]? = some (.buf e k xs') → ∃ e0 xs, h[π i]? = some (.buf e0 k xs) ∧ xs.length = xs'.length
section
variable {m : Nat} {π : Nat → Nat} {hd hd' : List Value} {h h' : List Ob} {W W' : World}
mutual
theorem rd_une (c : Une m π hd h hd' h') (hl : hd.length = h.length) (s : Sub W W') : ∀ (d : D) (u : Value), low m d → rd hd h W (ren π d) u → rd hd' h' W' d u
 | .any, _, _, _ => by rw [rd]; trivial
 | .v x, u, _, q => by rw [ren, rd] at q; rw [rd]; exact q
 | .sl k xs, u, l, q => by
   rw [low] at l; rw [ren, rd] at q; rw [rd]
   obtain ⟨a, cap, h1, h2, h3, h4⟩ := q
   have e : (renR π xs).length = xs.length := by rw [V5]; simp
   rw [e] at h1 h2
   exact ⟨a, cap, h1, h2, h3, Yg3 c hl s k a xs 0 l h4⟩
 | .agg ds, u, l, q => by
   rw [low] at l; rw [ren, rd] at q; rw [rd]
   obtain ⟨cs, h1, h2⟩ := q
   exact ⟨cs, h1, Zc0 c hl s ds _ l h2⟩
 | .tup ds, u, l, q => by
   rw [low] at l; rw [ren, rd] at q; rw [rd]
   obtain ⟨cs, h1, h2⟩ := q
   exact ⟨cs, h1, Zc0 c hl s ds _ l h2⟩
 | .rp ds, u, l, q => by
   rw [low] at l; rw [ren, rd] at q; rw [rd]
   obtain ⟨b, o, h1, h2⟩ := q
   exact ⟨b, o, h1, Yl7 c hl s ds b o l h2⟩
 | .ptr i o, u, l, q => by
   rw [low] at l; rw [ren, rd] at q; rw [rd]
   obtain ⟨B, h1, h2⟩ := q
   exact ⟨B, c.hd i l _ h1, h2⟩
 | .buf i n, u, l, q => by
   rw [low] at l; rw [ren, rd] at q; rw [rd]
   obtain ⟨h0, hi, h2⟩ := q
   refine ⟨h0, c.usd i l hi, fun e k xs hx => ?_⟩
   obtain ⟨e0, xs0, hh0, l0⟩ := c.buf i e k xs l hx
   obtain ⟨h3, h4⟩ := h2 e0 k xs0 hh0
   exact ⟨l0 ▸ h3, fun he => c.hd i l _ (h4 (l0.trans he))⟩
 | .bp i n r j, u, l, q => by
   rw [low] at l; rw [ren, rd] at q; rw [rd]
   obtain ⟨h0, hi, h2⟩ := q
   refine ⟨h0, c.usd i l hi, fun e k xs hx => ?_⟩
   obtain ⟨e0, xs0, hh0, l0⟩ := c.buf i e k xs l hx
   obtain ⟨h3, h4⟩ := h2 e0 k xs0 hh0
   refine ⟨l0 ▸ h3, fun he => ?_⟩
   obtain ⟨B, cap, h5, h6⟩ := h4 (l0.trans he)
   exact ⟨B, cap, c.hd i l _ h5, h6⟩
 | .win i n a b, u, l, q => by
   rw [low] at l; rw [ren, rd] at q; rw [rd]
   obtain ⟨h0, hi, h2⟩ := q
   refine ⟨h0, c.usd i l hi, fun e k xs hx => ?_⟩
   obtain ⟨e0, xs0, hh0, l0⟩ := c.buf i e k xs l hx
   obtain ⟨h3, h4⟩ := h2 e0 k xs0 hh0
   refine ⟨l0 ▸ h3, fun he => ?_⟩
   obtain ⟨h5, h6, h7⟩ := h4 (l0.trans he)
   refine ⟨h5, h6, h7.imp id ?_⟩
   rintro ⟨B, cap, qq, h8, h9⟩
   exact ⟨B, cap, qq, c.hd i l _ h8, h9⟩
 | .arr i o n cc kk, u, l, q => by
   rw [low] at l; rw [ren, rd] at q; rw [rd]
   obtain ⟨B, h1, h2⟩ := q
   exact ⟨B, c.hd i l _ h1, h2⟩
 | .mp i, u, l, q => by
   rw [low] at l; rw [ren, rd] at q; rw [rd]
   obtain ⟨r, h1, h2⟩ := q
   exact ⟨r, c.hd i l _ h1, h2⟩
 | .e0, u, _, q => by rw [ren, rd] at q; rw [rd]; exact q
 | .fn f ds, u, l, q => by
   rw [low] at l; rw [ren, rd] at q; rw [rd]
   obtain ⟨cs, h1, h2⟩ := q
   exact ⟨cs, h1, Zc0 c hl s ds _ l h2⟩
theorem Zc0 (c : Une m π hd h hd' h') (hl : hd.length = h.length) (s : Sub W W') : ∀ (ds : List D) (us : List Value), lowL m ds → rdL hd h W (renL π ds) us → rdL hd' h' W' ds us
 | [], _, _, q => by rw [renL, rdL] at q; rw [rdL]; exact q
 | d :: ds, us, l, q => by
   rw [lowL] at l; rw [renL, rdL] at q; rw [rdL]
   obtain ⟨u, t, h1, h2, h3⟩ := q
   exact ⟨u, t, h1, rd_une c hl s d u l.1 h2, Zc0 c hl s ds t l.2 h3⟩
theorem Yl7 (c : Une m π hd h hd' h') (hl : hd.length = h.length) (s : Sub W W') : ∀ (ds : List D) (b o : Nat), lowL m ds → rdAt hd h W b o (renL π ds) → rdAt hd' h' W' b o ds
 | [], _, _, _, _ => by rw [rdAt]; trivial
 | d :: ds, b, o, l, q => by
   rw [lowL] at l; rw [renL, rdAt] at q; rw [rdAt]
   obtain ⟨⟨u, h1, h2⟩, h3⟩ := q
   exact ⟨⟨u, s _ _ h1, rd_une c hl s d u l.1 h2⟩, Yl7 c hl s ds b (o + 1) l.2 h3⟩
theorem Yg3 (c : Une m π hd h hd' h') (hl : hd.length = h.length) (s : Sub W W') (k : Nat) (a : Option Addr) : ∀ (xs : List (List D)) (o : Nat), lowR m xs → W5 hd h W k a o (renR π xs) → W5 hd' h' W' k a o xs
 | [], _, _, _ => by rw [W5]; trivial
 | ds :: t, o, l, q => by
   rw [lowR] at l; rw [renR, W5] at q; rw [W5]
   obtain ⟨⟨b, r, h1, h2⟩, h3, h4⟩ := q
   exact ⟨⟨b, r, h1, Yl7 c hl s ds b (r + o) l.1 h2⟩, by rw [U2, Z6] at h3; exact h3, Yg3 c hl s k a t (o + k) l.2 h4⟩
end
end
mutual
theorem J3 (π : Nat → Nat) : ∀ d, low 0 d → ren π d = d
 | .any, _ => by rw [ren]
 | .v x, _ => by rw [ren]
 | .sl k xs, l => by rw [low] at l; rw [ren, renR_low0 π xs l]
 | .agg ds, l => by rw [low] at l; rw [ren, W0 π ds l]
 | .tup ds, l => by rw [low] at l; rw [ren, W0 π ds l]
 | .rp ds, l => by rw [low] at l; rw [ren, W0 π ds l]
 | .ptr i o, l => by rw [low] at l; omega
 | .buf i n, l => by rw [low] at l; omega
 | .bp i n r j, l => by rw [low] at l; omega
 | .win i n a b, l => by rw [low] at l; omega
 | .arr i o n c k, l => by rw [low] at l; omega
 | .mp i, l => by rw [low] at l; omega
 | .e0, _ => by rw [ren]
 | .fn f ds, l => by rw [low] at l; rw [ren, W0 π ds l]
theorem W0 (π : Nat → Nat) : ∀ d, lowL 0 d → renL π d = d
 | [], _ => by rw [renL]
 | d :: t, l => by rw [lowL] at l; rw [renL, J3 π d l.1, W0 π t l.2]
theorem renR_low0 (π : Nat → Nat) : ∀ d, lowR 0 d → renR π d = d
 | [], _ => by rw [renR]
 | d :: t, l => by rw [lowR] at l; rw [renR, W0 π d l.1, renR_low0 π t l.2]
end
def plc {α : Type} (π : Nat → Nat) (h : List α) : Nat → List α → List α
 | _, [] => h
 | j, ob :: t => plc π (h.set (π j) ob) (j + 1) t
theorem Ym5 {α : Type} {π : Nat → Nat} : ∀ (l : List α) (h : List α) (j : Nat), (plc π h j l).length = h.length
 | [], _, _ => rfl
 | ob :: t, h, j => by rw [plc, Ym5 t]; simp
theorem Zf8 {α : Type} {π : Nat → Nat} {x : Nat} : ∀ (l : List α) (h : List α) (j : Nat), (∀ i, i < l.length → π (j + i) ≠ x) → (plc π h j l)[x]? = h[x]?
 | [], _, _, _ => rfl
 | ob :: t, h, j, q => by
  rw [plc, Zf8 t _ (j + 1) fun i hi => by rw [show j + 1 + i = j + (i + 1) by omega]; exact q (i + 1) (by simp; omega)]
  rw [List.getElem?_set_ne (by have := q 0 (by simp); rwa [Nat.add_zero] at this)]
theorem plc_at {α : Type} {π : Nat → Nat} : ∀ (l : List α) (h : List α) (j i : Nat), (∀ a b, a < l.length → b < l.length → π (j + a) = π (j + b) → a = b) → i < l.length → π (j + i) < h.length → (plc π h j l)[π (j + i)]? = l[i]?
 | [], _, _, _, _, q, _ => by simp at q
 | ob :: t, h, j, 0, inj, q, hl => by
  rw [plc, Zf8 t _ (j + 1) fun i hi he => by
   have := inj (i + 1) 0 (by simp; omega) (by simp) (by rw [← he]; congr 1; omega)
   omega]
  rw [Nat.add_zero] at hl ⊢
  rw [List.getElem?_set_self hl]; rfl
 | ob :: t, h, j, i + 1, inj, q, hl => by
  rw [plc, show j + (i + 1) = j + 1 + i by omega]
  rw [plc_at t _ (j + 1) i (fun a b ha hb he => ?_) (by simpa using q) (by rw [List.length_set, show j + 1 + i = j + (i + 1) by omega]; exact hl)]
  · rfl
  · have := inj (a + 1) (b + 1) (by simp; omega) (by simp; omega) (by rw [show j + (a + 1) = j + 1 + a by omega, show j + (b + 1) = j + 1 + b by omega]; exact he)
    omega
theorem obOk_emb {m : Nat} {π : Nat → Nat} {hd hd' : List Value} {h h' : List Ob} {w : World} {p : Nat → Bool} (c : Emb m π hd h hd' h') (hl : hd.length = h.length) {ob : Ob} {u : Value} (l : Yf1 m ob) (q : obOk w hd h p u ob) : obOk w hd' h' p u (Ve π ob) := by
 have s : Sub (only p w) (only p w) := fun _ _ h => h
 cases ob with
 | dead => trivial
 | hole => exact q
 | cells ds => obtain ⟨B, cs, t, h1, h2, h3, h4⟩ := q; exact ⟨B, cs, t, h1, h2, Zl7 c hl s _ _ l h3, h4⟩
 | buf e k xs =>
  obtain ⟨cs, h1, h2, h3, h4⟩ := q
  have el : (renR π xs).length = xs.length := by rw [V5]; simp
  have ef : (renR π xs).flatten = renL π xs.flatten := by rw [V5, U2, List.map_flatten]; congr 1; apply Zc; intro r _; rw [U2]
  refine ⟨cs, by rw [el]; exact h1, by rw [ef]; exact Zl7 c hl s _ _ (Jy.2 l) h2, fun row hr => ?_, h4⟩
  rw [V5] at hr
  obtain ⟨r0, h5, rfl⟩ := List.mem_map.1 hr
  rw [U2, Z6]; exact h3 r0 h5
 | map es clock =>
  obtain ⟨r, arr, h1, h2, h3, h4, h5⟩ := q
  have e1 : (es.map fun e => (e.1, e.2.1, ren π e.2.2)).map (fun e => (e.1, e.2.1)) = es.map fun e => (e.1, e.2.1) := by rw [Z7]; rfl
  have e2 : (es.map fun e => (e.1, e.2.1, ren π e.2.2)).map (·.2.2) = renL π (es.map (·.2.2)) := by rw [U2, Z7, Z7]; rfl
  exact ⟨r, arr, h1, h2, by rw [e1]; exact h3, by rw [e2]; exact Zl7 c hl s _ _ l h4, h5⟩
 | iter i since seen last =>
  obtain ⟨B, r, h1, h2, h3, h4⟩ := q
  exact ⟨B, r, h1, h2, c.hd i l _ h3, h4⟩
theorem obOk_une {m : Nat} {π : Nat → Nat} {hd hd' : List Value} {h h' : List Ob} {w : World} {p : Nat → Bool} (c : Une m π hd h hd' h') (hl : hd.length = h.length) {ob : Ob} {u : Value} (l : Yf1 m ob) (q : obOk w hd h p u (Ve π ob)) : obOk w hd' h' p u ob := by
 have s : Sub (only p w) (only p w) := fun _ _ h => h
 cases ob with
 | dead => trivial
 | hole => exact q
 | cells ds => obtain ⟨B, cs, t, h1, h2, h3, h4⟩ := q; exact ⟨B, cs, t, h1, h2, Zc0 c hl s _ _ l h3, h4⟩
 | buf e k xs =>
  obtain ⟨cs, h1, h2, h3, h4⟩ := q
  have el : (renR π xs).length = xs.length := by rw [V5]; simp
  have ef : (renR π xs).flatten = renL π xs.flatten := by rw [V5, U2, List.map_flatten]; congr 1; apply Zc; intro r _; rw [U2]
  rw [el] at h1; rw [ef] at h2
  refine ⟨cs, h1, Zc0 c hl s _ _ (Jy.2 l) h2, fun row hr => ?_, h4⟩
  have := h3 (renL π row) (by rw [V5]; exact List.mem_map.2 ⟨row, hr, rfl⟩)
  rwa [U2, Z6] at this
 | map es clock =>
  obtain ⟨r, arr, h1, h2, h3, h4, h5⟩ := q
  have e1 : (es.map fun e => (e.1, e.2.1, ren π e.2.2)).map (fun e => (e.1, e.2.1)) = es.map fun e => (e.1, e.2.1) := by rw [Z7]; rfl
  have e2 : (es.map fun e => (e.1, e.2.1, ren π e.2.2)).map (·.2.2) = renL π (es.map (·.2.2)) := by rw [U2, Z7, Z7]; rfl
  rw [e1] at h3; rw [e2] at h4
  exact ⟨r, arr, h1, h2, h3, Zc0 c hl s _ _ l h4, h5⟩
 | iter i since seen last =>
  obtain ⟨B, r, h1, h2, h3, h4⟩ := q
  exact ⟨B, r, h1, h2, c.hd i l _ h3, h4⟩
def Post (G : Nat → D) (w : World) (hd : List Value) (h : List Ob) (p : Nat → Bool) (K : List Ob → D → Prop) (v : Value) (w' : World) : Prop :=
 ∃ hd' h' r p', K h' r ∧ Ok G w' hd' h' p' ∧ rd hd' h' (only p' w') r v ∧ Evo w hd h p w' hd' h' p'
theorem Post.mono {G : Nat → D} {w w' : World} {hd : List Value} {h : List Ob} {p : Nat → Bool} {K K' : List Ob → D → Prop} {v : Value} (q : Post G w hd h p K v w') (k : ∀ h' r, K h' r → K' h' r) : Post G w hd h p K' v w' := by
 obtain ⟨hd', h', r, p', a, b⟩ := q
 exact ⟨hd', h', r, p', k _ _ a, b⟩
structure Lies (π : Nat → Nat) (h1 h : List Ob) : Prop where
 at_ : ∀ i ob, h1[i]? = some ob → h[π i]? = some (Ve π ob)
 inj : ∀ i j, i < h1.length → j < h1.length → π i = π j → i = j
 lw : lowH h1.length h1
def pull (π : Nat → Nat) (hd : List Value) (m : Nat) : List Value := (List.range m).map fun i => (hd[π i]?).getD .nilFunc
section
variable {G : Nat → D} {w w' : World} {hd : List Value} {h h1 : List Ob} {p : Nat → Bool} {π : Nat → Nat}
theorem Zf7 (o : Ok G w hd h p) (L : Lies π h1 h) {i : Nat} (hi : i < h1.length) : (pull π hd h1.length)[i]? = hd[π i]? := by
 have := L.at_ i _ (Z0 hi)
 have hl : π i < hd.length := by rw [o.len]; exact (Z1.1 this).1
 simp [pull, hi, hl]
theorem Lies.une (o : Ok G w hd h p) (L : Lies π h1 h) : Une h1.length π hd h (pull π hd h1.length) h1 := by
 refine ⟨fun i hi u q => by rw [Zf7 o L hi]; exact q, fun i hi q => ?_, fun i e k xs hi q => ?_⟩
 · obtain ⟨ob, q1, q2⟩ := q
   have := L.at_ i _ (Z0 hi)
   rw [q1] at this; cases this
   exact ⟨_, Z0 hi, by rw [← Yg2 (π := π)]; exact q2⟩
 · exact ⟨e, renR π xs, L.at_ i _ q, by rw [V5]; simp⟩
theorem low_mono0 {m : Nat} {d : D} (q : low 0 d) : low m d := Zp3 (Nat.zero_le m) d q
theorem Lies.ok (o : Ok G w hd h p) (hG : ∀ g, low 0 (G g)) (L : Lies π h1 h) : Ok G w (pull π hd h1.length) h1 p := by
 have c := L.une o
 refine ⟨by simp [pull], fun i ob u q1 q2 => ?_, fun i j oi oj ui uj b q1 q2 l1 l2 r1 r2 b1 b2 => ?_, fun g => ?_, o.ex⟩
 · have hi := (Z1.1 q1).1
   rw [Zf7 o L hi] at q2
   exact obOk_une c o.len (L.lw ob (Zb q1)) (o.ob _ _ _ (L.at_ i ob q1) q2)
 · have hi := (Z1.1 q1).1
   have hj := (Z1.1 q2).1
   rw [Zf7 o L hi] at r1; rw [Zf7 o L hj] at r2
   exact L.inj i j hi hj (o.inj _ _ _ _ _ _ b (L.at_ i _ q1) (L.at_ j _ q2) (by rw [J9]; exact l1) (by rw [J9]; exact l2) r1 r2 b1 b2)
 · have := o.gl g
   rw [← J3 π _ (hG g)] at this
   exact rd_une c o.len (fun _ _ h => h) _ _ (low_mono0 (hG g)) this
theorem Lies.own (o : Ok G w hd h p) (L : Lies π h1 h) {b : Nat} (q : Own (pull π hd h1.length) h1 b) : ∃ i, i < h1.length ∧ ∃ ob u, h[π i]? = some ob ∧ ob.live = true ∧ hd[π i]? = some u ∧ blk u = some b := by
 obtain ⟨i, ob, u, q1, q2, q3, q4⟩ := q
 have hi := (Z1.1 q1).1
 rw [Zf7 o L hi] at q3
 exact ⟨i, hi, _, u, L.at_ i ob q1, by rw [J9]; exact q2, q3, q4⟩
theorem Post.frame (o : Ok G w hd h p) (hG : ∀ g, low 0 (G g)) (L : Lies π h1 h) {K1 : List Ob → D → Prop} (fit : ∀ h1' r1, K1 h1' r1 → (∀ i j, i < h1'.length → j < h1'.length → π i = π j → i = j) ∧ ∀ j, h1.length ≤ j → j < h1'.length → h[π j]? = some .hole)
 {v : Value} (q : Post G w (pull π hd h1.length) h1 p K1 v w') : Post G w hd h p (fun h' r => ∃ h1' r1, K1 h1' r1 ∧ h' = plc π h 0 (h1'.map (Ve π)) ∧ r = ren π r1) v w' := by
 obtain ⟨hd1', h1', r1, p', k, o', qr, e⟩ := q
 obtain ⟨inj, slot⟩ := fit _ _ k
 have hle := e.carry.len
 have hin : ∀ j, j < h1'.length → π j < h.length := fun j hj => by
  rcases Z5 j h1.length with hj' | hj'
  · exact (Z1.1 (L.at_ j _ (Z0 hj'))).1
  · exact (Z1.1 (slot j hj' hj)).1
 have A1 : ∀ j, j < h1'.length → (plc π h 0 (h1'.map (Ve π)))[π j]? = (h1'[j]?).map (Ve π) := fun j hj => by
  have := plc_at (π := π) (h1'.map (Ve π)) h 0 j (fun a b ha hb he => inj a b (by simpa using ha) (by simpa using hb) (by simpa using he)) (by simpa using hj) (by simpa using hin j hj)
  simpa using this
 have A2 : ∀ j, j < h1'.length → (plc π hd 0 hd1')[π j]? = hd1'[j]? := fun j hj => by
  have := plc_at (π := π) hd1' hd 0 j (fun a b ha hb he => inj a b (by rw [← o'.len]; exact ha) (by rw [← o'.len]; exact hb) (by simpa using he)) (by rw [o'.len]; exact hj) (by rw [o.len]; simpa using hin j hj)
  simpa using this
 have O1 : ∀ x, (∀ j, j < h1'.length → π j ≠ x) → (plc π h 0 (h1'.map (Ve π)))[x]? = h[x]? := fun x hx => Zf8 _ _ _ fun i hi => by rw [Zg]; exact hx i (by simpa using hi)
 have O2 : ∀ x, (∀ j, j < h1'.length → π j ≠ x) → (plc π hd 0 hd1')[x]? = hd[x]? := fun x hx => Zf8 _ _ _ fun i hi => by rw [Zg]; exact hx i (by rw [← o'.len]; exact hi)
 have P1 : ∀ j, j < h1.length → (pull π hd h1.length)[j]? = hd[π j]? := fun j hj => Zf7 o L hj
 generalize hh : plc π h 0 (h1'.map (Ve π)) = h' at A1 O1
 generalize hv : plc π hd 0 hd1' = hd' at A2 O2
 have len1 : h'.length = h.length := by rw [← hh, Ym5]
 have len2 : hd'.length = hd.length := by rw [← hv, Ym5]
 have split : ∀ x, (∃ j, j < h1'.length ∧ π j = x) ∨ ∀ j, j < h1'.length → π j ≠ x := fun x => by
  by_cases hx : ∃ j, j < h1'.length ∧ π j = x
  · exact .inl hx
  · exact .inr fun j hj he => hx ⟨j, hj, he⟩
 have emb : Emb h1'.length π hd1' h1' hd' h' := by
  refine ⟨fun i hi u q => by rw [A2 i hi]; exact q, fun i hi ⟨ob, q1, q2⟩ => ⟨Ve π ob, by rw [A1 i hi, q1]; rfl, by rw [Yg2]; exact q2⟩, fun i E k xs hi _ q => ?_⟩
  rw [A1 i hi, Z0 hi] at q
  simp only [Option.map_some, Option.some.injEq] at q
  cases ho : h1'[i] with
  | buf e0 k0 ys => rw [ho] at q; cases q; exact ⟨_, ys, by rw [Z0 hi, ho], by rw [V5]; simp⟩
  | _ => rw [ho] at q; cases q
 have own1 : ∀ b, b < w.heap.size → Own hd1' h1' b → ∃ i, i < h1.length ∧ ∃ ob u, h[π i]? = some ob ∧ ob.live = true ∧ hd[π i]? = some u ∧ blk u = some b := fun b hb ho => L.own o (e.own b hb ho)
 have ownR : ∀ {b : Nat}, Own (pull π hd h1.length) h1 b → Own hd h b := fun ho => by
  obtain ⟨i, _, ob, u, q1, q2, q3, q4⟩ := L.own o ho
  exact ⟨π i, ob, u, q1, q2, q3, q4⟩
 have ownB : ∀ {b x : Nat} {ob : Ob} {u : Value}, h'[x]? = some ob → ob.live = true → hd'[x]? = some u → blk u = some b → (∃ j, j < h1'.length ∧ π j = x) → Own hd1' h1' b := fun {b x ob u} q1 q2 q3 q4 ⟨j, hj, hx⟩ => by
  subst hx
  rw [A1 j hj, Z0 hj] at q1
  cases q1
  rw [A2 j hj] at q3
  exact ⟨j, _, u, Z0 hj, by rw [← J9 (π := π)]; exact q2, q3, q4⟩
 have nohole : ∀ {j : Nat} {u : Value}, h1.length ≤ j → j < h1'.length → hd[π j]? = some u → u = .nilFunc := fun {j u} h2 h3 hu => o.ob _ _ _ (slot j h2 h3) hu
 have E : Evo w hd h p w' hd' h' p' := by
  refine ⟨e.os, e.tape, e.output, e.size, fun b hb hn => e.keep b hb fun ho => hn (ownR ho), e.vis, fun b hb hp => (e.seen b hb hp).imp id ownR, fun b hb ho => ?_, by omega, fun i B q => ?_, fun i B q => ?_, fun i q => ?_, fun i E k xs hu q => ?_⟩
  · obtain ⟨x, ob, u, q1, q2, q3, q4⟩ := ho
    rcases split x with hx | hx
    · exact ownR (e.own b hb (ownB q1 q2 q3 q4 hx))
    · rw [O1 x hx] at q1; rw [O2 x hx] at q3
      exact ⟨x, ob, u, q1, q2, q3, q4⟩
  · rcases split i with ⟨j, hj, rfl⟩ | hx
    · rcases Z5 j h1.length with hj' | hj'
      · rw [A2 j hj]; exact e.carry.ptr j B (by rw [P1 j hj']; exact q)
      · cases nohole hj' hj q
    · rw [O2 i hx]; exact q
  · rcases split i with ⟨j, hj, rfl⟩ | hx
    · rcases Z5 j h1.length with hj' | hj'
      · rw [A2 j hj]; exact e.carry.mp j B (by rw [P1 j hj']; exact q)
      · cases nohole hj' hj q
    · rw [O2 i hx]; exact q
  · rcases split i with ⟨j, hj, rfl⟩ | hx
    · rcases Z5 j h1.length with hj' | hj'
      · exact emb.usd j hj (e.carry.usd j ((L.une o).usd j hj' q))
      · obtain ⟨ob, q1, q2⟩ := q
        rw [slot j hj' hj] at q1; cases q1; cases q2
    · obtain ⟨ob, q1, q2⟩ := q
      exact ⟨ob, by rw [O1 i hx]; exact q1, q2⟩
  · rcases split i with ⟨j, hj, rfl⟩ | hx
    · rcases Z5 j h1.length with hj' | hj'
      · have hu1 := (L.une o).usd j hj' hu
        obtain ⟨e0, ys, g1, g2⟩ := emb.buf j E k xs hj (e.carry.usd j hu1) q
        obtain ⟨e1, zs, g3, g4, g5⟩ := e.carry.buf j e0 k ys hu1 g1
        refine ⟨e1, renR π zs, L.at_ j _ g3, by rw [V5, Z6]; omega, fun he => ?_⟩
        rw [V5, Z6] at he
        rw [A2 j hj, g5 (by omega), P1 j hj']
      · obtain ⟨ob, q1, q2⟩ := hu
        rw [slot j hj' hj] at q1; cases q1; cases q2
    · rw [O1 i hx] at q
      exact ⟨E, xs, q, Za _, fun _ => O2 i hx⟩
 have outB : ∀ {x : Nat} {ob : Ob} {u : Value} {b : Nat}, (∀ j, j < h1'.length → π j ≠ x) → h[x]? = some ob → ob.live = true → hd[x]? = some u → blk u = some b → ¬ Own (pull π hd h1.length) h1 b := fun {x ob u b} hx q1 q2 q3 q4 ho => by
  obtain ⟨i, hi, ob', u', g1, g2, g3, g4⟩ := L.own o ho
  exact hx i (by omega) (o.inj _ _ _ _ _ _ b g1 q1 g2 q2 g3 q3 g4 q4)
 refine ⟨hd', h', ren π r1, p', ⟨h1', r1, k, hh.symm, rfl⟩, ⟨by rw [len1, len2]; exact o.len, fun i ob u q1 q2 => ?_, fun i j oi oj ui uj b q1 q2 l1 l2 r1' r2 b1 b2 => ?_, Zg6 E o, Zg8 E o⟩, rd_emb emb o'.len (fun _ _ h => h) _ _ (rd_low o'.len _ _ qr) qr, E⟩
 · rcases split i with ⟨j, hj, rfl⟩ | hx
   · rw [A1 j hj, Z0 hj] at q1
     rw [A2 j hj] at q2
     cases q1
     exact obOk_emb emb o'.len (o'.allLow _ (List.getElem_mem hj)) (o'.ob j _ u (Z0 hj) q2)
   · rw [O1 i hx] at q1; rw [O2 i hx] at q2
     refine (o.ob i ob u q1 q2).move E o (fun hl b hb => e.keep b (o.lt ⟨i, ob, u, q1, hl, q2, hb⟩) (outB hx q1 hl q2 hb)) fun hl b hb hp => ?_
     cases hp' : p' b with
     | false => rfl
     | true =>
      rcases e.seen b (o.lt ⟨i, ob, u, q1, hl, q2, hb⟩) hp' with h2 | h2
      · rw [hp] at h2; cases h2
      · exact absurd h2 (outB hx q1 hl q2 hb)
 · have mix : ∀ {x y : Nat} {ox oy : Ob} {ux uy : Value}, h'[x]? = some ox → h'[y]? = some oy → ox.live = true → oy.live = true → hd'[x]? = some ux → hd'[y]? = some uy → blk ux = some b → blk uy = some b → (∃ j, j < h1'.length ∧ π j = x) → (∀ j, j < h1'.length → π j ≠ y) → False := fun {x y ox oy ux uy} q1 q2 l1 l2 r1 r2 b1 b2 hx hy => by
    rw [O1 y hy] at q2; rw [O2 y hy] at r2
    have hb := o.lt ⟨y, oy, uy, q2, l2, r2, b2⟩
    exact outB hy q2 l2 r2 b2 (e.own b hb (ownB q1 l1 r1 b1 hx))
   rcases split i with hi | hi <;> rcases split j with hj | hj
   · obtain ⟨a, ha, rfl⟩ := hi
     obtain ⟨c, hc, rfl⟩ := hj
     rw [A1 a ha, Z0 ha] at q1
     rw [A1 c hc, Z0 hc] at q2
     rw [A2 a ha] at r1'; rw [A2 c hc] at r2
     cases q1; cases q2
     rw [o'.inj a c _ _ ui uj b (Z0 ha) (Z0 hc) (by rw [← J9 (π := π)]; exact l1) (by rw [← J9 (π := π)]; exact l2) r1' r2 b1 b2]
   · exact (mix q1 q2 l1 l2 r1' r2 b1 b2 hi hj).elim
   · exact (mix q2 q1 l2 l1 r2 r1' b2 b1 hj hi).elim
   · rw [O1 i hi] at q1; rw [O2 i hi] at r1'
     rw [O1 j hj] at q2; rw [O2 j hj] at r2
     exact o.inj i j oi oj ui uj b q1 q2 l1 l2 r1' r2 b1 b2
end
end
section
variable {P : Program} {G : Nat → D} {n : Nat} {e : Nat → D} {h h1 : List Ob} {ops : Array Oper} {md : Region.Mode}
def opds (o : Op) : List Operand := o.operands.toList
def OpTri (P : Program) (G : Nat → D) (o : Oper) (args : List D) (h : List Ob) (K : List Ob → D → Prop) : Prop :=
 ∀ (a : Act) w hd p (R : Exit → Act → World → Prop), a.defers = [] → Ok G w hd h p → rdL hd h (only p w) args ((opds o.op).map a.eval) → o.wp P a w (fun a' w' => ∃ v, a' = a.put o.dst v ∧ Post G w hd h p K v w') R
theorem OpTri.mono {o : Oper} {args : List D} {K K' : List Ob → D → Prop} (q : OpTri P G o args h K) (k : ∀ h' r, K h' r → K' h' r) : OpTri P G o args h K' := fun a w hd p R hd0 ok ha =>
 Oper.wp_mono (fun _ _ ⟨v, e, q⟩ => ⟨v, e, q.mono k⟩) (q a w hd p R hd0 ok ha)
theorem opds_env {a : Act} {w : World} {hd : List Value} {W : World} (op : Op) (ha : rdL hd h W ((opds op).map (ev G e)) ((opds op).map a.eval)) : ∀ t, Operand.tmp t ∈ opds op → rd hd h W (e t) (a.tmps.getD t undef) := fun t ht => by
 obtain ⟨j, hj, hx⟩ := List.getElem_of_mem ht
 obtain ⟨u, h1, h2⟩ := ((Xg _ _).1 ha).2 j (e t) (by rw [List.getElem?_map, Z0 hj, hx]; rfl)
 rw [List.getElem?_map, Z0 hj, hx] at h1
 cases h1; exact h2
open Classical in
theorem Za4 {K : List Ob → D → Prop} {o : Oper} (q : aOp P G e h K o.op) : OpTri P G o ((opds o.op).map (ev G e)) h K := fun a w hd p R hdf ok ha => by
 obtain ⟨dst, op, ty, pos, aft, gd⟩ := o
 have r : Sat G ⟨w, hd, h, p⟩ ⟨a.tmps.size, fun t => if Operand.tmp t ∈ opds op then e t else .any, h⟩ a w hd p := ⟨ok, .refl _ _ _ _, fun t => by
  show rd _ _ _ (if _ then _ else _) _
  split
  · rename_i ht; exact opds_env (w := w) op ha t ht
  · rw [rd]; trivial, rfl, hdf⟩
 have q2 : aOp P G (fun t => if Operand.tmp t ∈ opds op then e t else .any) h K op := Zr7 (fun x hx => by
  cases x with
  | tmp t => show (if Operand.tmp t ∈ opds op then e t else .any) = e t; rw [if_pos (by unfold opds; simpa using hx)]
  | _ => rfl) q
 obtain ⟨v, w', hd', h', p', d, hr, k, o', q', ev'⟩ := Zr6 (dst := dst) (ty := ty) (pos := pos) (aft := aft) (gd := gd) r q2
 unfold Oper.wp
 rcases hr with hr | ⟨hr, rfl⟩
 · rw [hr]; exact ⟨v, rfl, hd', h', d, p', k, o', q', ev'⟩
 · rw [hr]; exact ⟨undef, rfl, hd', h', d, p', k, o', q', ev'⟩
theorem Jn {f : FuncId} {args : List D} {K : List Ob → D → Prop} : Does P G f h args K ↔ ∀ w hd p vs, Ok G w hd h p → rdL hd h (only p w) args vs → Calls P f vs.toArray w fun e w' => ∃ v, e = .returned v ∧ Post G w hd h p K v w' := by
 constructor
 · exact fun q w hd p vs o ha => (q w hd p vs o ha).mono fun _ _ ⟨v, hd', h', r, p', e, k, o', q', ev⟩ => ⟨v, e, hd', h', r, p', k, o', q', ev⟩
 · exact fun q w hd p vs o ha => (q w hd p vs o ha).mono fun _ _ ⟨v, e, hd', h', r, p', k, o', q', ev⟩ => ⟨v, hd', h', r, p', e, k, o', q', ev⟩
theorem Zx6 {K : List Ob → D → Prop} {dst : Option Nat} {x : Operand} {args : Array Operand} {tys : Array TypeId} {ty : TypeId} {pos : String} {aft : Array Edge} {gd : Option (Nat × Bool)} {f : FuncId} {cap xs : List D} (he : entB P f = true) (hc : Does P G f h (xs ++ cap) K) :
 OpTri P G ⟨dst, .call ⟨.value x, args, tys⟩, ty, pos, aft, gd⟩ (.fn f cap :: xs) h K := fun a w hd p R hdf ok ha => by
 have ho : opds (.call ⟨.value x, args, tys⟩) = x :: args.toList := by simp [opds, Op.operands, Call.operands]
 rw [ho, List.map_cons, rdL] at ha
 obtain ⟨u, t, e0, q, ha⟩ := ha
 cases e0
 rw [rd] at q
 obtain ⟨cs, e1, q⟩ := q
 have hrun : (execOp a.eval ⟨dst, .call ⟨.value x, args, tys⟩, ty, pos, aft, gd⟩).run P w = .ok (.enter f (args.map a.eval ++ cs)) w := by
  simp [execOp, resolve, e1, Deferred.ofValue, invoke, Zo2 he]
 unfold Oper.wp
 rw [hrun, Oper.upon_enter]
 have := Jn.1 hc w hd p _ ok (Wr ha q)
 rw [show (args.toList.map a.eval ++ cs.toList).toArray = args.map a.eval ++ cs by apply Array.ext'; simp] at this
 refine this.mono ?_
 rintro e w' ⟨v, rfl, q⟩
 exact ⟨v, rfl, q⟩
section
variable {π : Nat → Nat} {args : List D} {K1 : List Ob → D → Prop}
def Fits (π : Nat → Nat) (m : Nat) (h : List Ob) (K1 : List Ob → D → Prop) : Prop := ∀ h1' r1, K1 h1' r1 → (∀ i j, i < h1'.length → j < h1'.length → π i = π j → i = j) ∧ ∀ j, m ≤ j → j < h1'.length → h[π j]? = some .hole
def inGreat (π : Nat → Nat) (h : List Ob) (K1 : List Ob → D → Prop) (h' : List Ob) (r : D) : Prop := ∃ h1' r1, K1 h1' r1 ∧ h' = plc π h 0 (h1'.map (Ve π)) ∧ r = ren π r1
theorem OpTri.frame (hG : ∀ g, low 0 (G g)) (L : Lies π h1 h) (la : lowL h1.length args) (fit : Fits π h1.length h K1) {o : Oper} (q : OpTri P G o args h1 K1) : OpTri P G o (renL π args) h (inGreat π h K1) := fun a w hd p R hdf ok ha =>
 Oper.wp_mono (fun _ _ ⟨v, e, q⟩ => ⟨v, e, q.frame ok hG L fit⟩) (q a w _ p R hdf (L.ok ok hG) (Zc0 (L.une ok) ok.len (fun _ _ h => h) _ _ la ha))
theorem Does.frame (hG : ∀ g, low 0 (G g)) (L : Lies π h1 h) (la : lowL h1.length args) (fit : Fits π h1.length h K1) {f : FuncId} (q : Does P G f h1 args K1) : Does P G f h (renL π args) (inGreat π h K1) := Jn.2 fun w hd p vs ok ha =>
 (Jn.1 q w _ p vs (L.ok ok hG) (Zc0 (L.une ok) ok.len (fun _ _ h => h) _ _ la ha)).mono fun _ _ ⟨v, e, q⟩ => ⟨v, e, q.frame ok hG L fit⟩
end
def holes (c : Nat) : List Ob := Z8 c .hole
theorem Ok.holes {w : World} {hd : List Value} {p : Nat → Bool} (o : Ok G w hd h p) (c : Nat) : Ok G w (hd ++ Z8 c .nilFunc) (h ++ Go.Proofs.YtbhkcbidcfofiaaGreat.holes c) p ∧ Evo w hd h p w (hd ++ Z8 c .nilFunc) (h ++ Go.Proofs.YtbhkcbidcfofiaaGreat.holes c) p := by
 have hol : ∀ {i : Nat} {ob : Ob}, (h ++ Go.Proofs.YtbhkcbidcfofiaaGreat.holes c)[i]? = some ob → h[i]? = some ob ∨ (h.length ≤ i ∧ ob = .hole) := fun {i ob} q => by
  rcases Z5 i h.length with hi | hi
  · rw [Z2 hi] at q; exact .inl q
  · rw [Zd hi] at q
    exact .inr ⟨hi, (List.mem_replicate.1 (Zb q)).2⟩
 have old : ∀ {i : Nat} {ob : Ob} {u : Value}, (h ++ Go.Proofs.YtbhkcbidcfofiaaGreat.holes c)[i]? = some ob → ob.live = true → (hd ++ Z8 c Value.nilFunc)[i]? = some u → h[i]? = some ob ∧ hd[i]? = some u := fun {i ob u} q l r => by
  rcases hol q with h' | ⟨_, rfl⟩
  · exact ⟨h', by rwa [Z2 (by rw [o.len]; exact (Z1.1 h').1)] at r⟩
  · cases l
 have e : Evo w hd h p w (hd ++ Z8 c .nilFunc) (h ++ Go.Proofs.YtbhkcbidcfofiaaGreat.holes c) p := by
  refine ⟨⟨rfl, Za _⟩, rfl, rfl, Za _, fun _ _ _ => rfl, fun _ _ q => q, fun _ _ q => .inl q, fun b _ ⟨i, ob, u, q1, q2, q3, q4⟩ => ?_, by simp, fun i B q => ?_, fun i B q => ?_, fun _ q => q.app, fun i E k xs hu q => ?_⟩
  · obtain ⟨h1, h2⟩ := old q1 q2 q3
    exact ⟨i, ob, u, h1, q2, h2, q4⟩
  · rw [Z2 (Z1.1 q).1]; exact q
  · rw [Z2 (Z1.1 q).1]; exact q
  · rw [Z2 hu.lt] at q
    exact ⟨E, xs, q, Za _, fun _ => by rw [Z2 (by rw [o.len]; exact hu.lt)]⟩
 refine ⟨⟨by simp [o.len, Go.Proofs.YtbhkcbidcfofiaaGreat.holes], fun i ob u q1 q2 => ?_, fun i j oi oj ui uj b q1 q2 l1 l2 r1 r2 => ?_, Zg6 e o, Zg8 e o⟩, e⟩
 · rcases hol q1 with h' | ⟨hi, rfl⟩
   · rw [Z2 (by rw [o.len]; exact (Z1.1 h').1)] at q2
     exact (o.ob i ob u h' q2).move e o (fun _ _ _ => rfl) fun _ _ _ q => q
   · rw [Zd (by rw [o.len]; exact hi)] at q2
     exact (List.mem_replicate.1 (Zb q2)).2
 · obtain ⟨a1, a2⟩ := old q1 l1 r1
   obtain ⟨c1, c2⟩ := old q2 l2 r2
   exact o.inj i j oi oj ui uj b a1 c1 l1 l2 a2 c2
theorem Post.before {w w' : World} {hd hd' : List Value} {h h' : List Ob} {p p' : Nat → Bool} (e : Evo w hd h p w hd' h' p') {K : List Ob → D → Prop} {v : Value} (q : Post G w hd' h' p' K v w') : Post G w hd h p K v w' := by
 obtain ⟨hd2, h2, r, p2, k, o, q, e2⟩ := q
 exact ⟨hd2, h2, r, p2, k, o, q, e.trans e2⟩
theorem Does.holes {f : FuncId} {args : List D} {K : List Ob → D → Prop} (c : Nat) (q : Does P G f (h ++ Go.Proofs.YtbhkcbidcfofiaaGreat.holes c) args K) : Does P G f h args K := Jn.2 fun w hd p vs ok ha => by
 obtain ⟨ok2, e⟩ := ok.holes c
 exact (Jn.1 q w _ p vs ok2 (e.rdL ok ha)).mono fun _ _ ⟨v, e1, q⟩ => ⟨v, e1, q.before e⟩
theorem Sit_holes {B : Base} {a : Act} {w : World} (c : Nat) (r : Sit G B ⟨n, e, h⟩ a w) : Sit G B ⟨n, e, h ++ holes c⟩ a w := by
 obtain ⟨hd, p, r⟩ := r
 obtain ⟨o, ev⟩ := r.ok.holes c
 exact ⟨_, p, o, r.evo.trans ev, fun t => ev.rd r.ok (r.tmp t), r.size, r.defers⟩
structure Ef where
 R : List (Nat × Ob)
 W : List (Nat × Ob)
 d : D
def Ef.ok (E : Ef) (h : List Ob) : Prop := ∀ x ∈ E.R, h[x.1]? = some x.2
def Ef.heap (E : Ef) (h : List Ob) : List Ob := Xt h E.W
def Ef.fit (E : Ef) : Prop := ∀ x ∈ E.W, ∃ y ∈ E.R, y.1 = x.1
def nopF : Ef := ⟨[], [], .v undef⟩
def YT (P : Program) (G : Nat → D) (o : Oper) (args : List D) (E : Ef) : Prop := E.fit ∧ ∀ h, E.ok h → OpTri P G o args h (fun h' r => h' = E.heap h ∧ r = E.d)
def YDT (P : Program) (G : Nat → D) (ops : Array Oper) (o : Oper) (E : Ef) (e : Nat → D) : Prop := (Yg ops o.guard e = some true ∧ YT P G o ((opds o.op).map (ev G e)) E) ∨ (Yg ops o.guard e = some false ∧ E = nopF)
theorem YDT.fit {o : Oper} {E : Ef} (q : YDT P G ops o E e) : E.fit := by
 rcases q with ⟨_, q⟩ | ⟨_, rfl⟩
 · exact q.1
 · simp [nopF, Ef.fit]
theorem YDT.congr {o : Oper} {E : Ef} {dst : Option Nat} {v : D} (q : ∀ t, dst = some t → t ∉ o.looksAt ops) : YDT P G ops o E (putE n e dst v) ↔ YDT P G ops o E e := by
 have key : (opds o.op).map (ev G (putE n e dst v)) = (opds o.op).map (ev G e) := Zc fun x hx => Yo9 fun t ht => Zj1 (q t ht) x (by unfold opds at hx; simpa using hx)
 unfold YDT
 rw [Zb4 q, key]
def compF (E F : Ef) : Prop := (∀ x ∈ E.W, ∀ y ∈ F.R, x.1 ≠ y.1) ∧ (∀ x ∈ F.W, ∀ y ∈ E.R, x.1 ≠ y.1)
theorem compF.symm {E F : Ef} (q : compF E F) : compF F E := ⟨q.2, q.1⟩
theorem Ef.ok_after {E F : Ef} (c : compF E F) : F.ok (E.heap h) ↔ F.ok h := by
 constructor <;> intro q y hy <;> have := q y hy <;> unfold Ef.heap at * <;> rw [Zi2 _ _ fun x hx => c.1 x hx y hy] at * <;> exact this
theorem Ef.heap_comm {E F : Ef} (c : compF E F) (fF : F.fit) : F.heap (E.heap h) = E.heap (F.heap h) := Zl3 E.W F.W h fun x hx y hy => by
 obtain ⟨z, hz, he⟩ := fF y hy
 rw [← he]; exact c.1 x hx z hz
def afOp (P : Program) (G : Nat → D) (n : Nat) (ops : Array Oper) (ef : Nat → Ef) (i : Nat) (K : (Nat → D) → List Ob → Prop) (e : Nat → D) (h : List Ob) : Prop := match ops[i]? with
 | none => K e h
 | some o => YDT P G ops o (ef i) e ∧ (ef i).ok h ∧ K (putE n e o.dst (ef i).d) ((ef i).heap h)
def afAny (P : Program) (G : Nat → D) (n : Nat) (md : Region.Mode) (ops : Array Oper) (ef : Nat → Ef) (Q : (Nat → D) → List Ob → Prop) : Nat → Array Bool → (Nat → D) → List Ob → Prop
 | 0, listed, e, h => Region.ready md ops listed = [] ∧ Q e h
 | fuel + 1, listed, e, h => (Region.ready md ops listed = [] → Q e h) ∧ ∀ i ∈ Region.ready md ops listed, afOp P G n ops ef i (afAny P G n md ops ef Q fuel (listed.setIfInBounds i true)) e h
theorem afAny_first {ef : Nat → Ef} {Q : (Nat → D) → List Ob → Prop} {i : Nat} {oi : Oper} (hi : ops[i]? = some oi) : ∀ (fuel : Nat) (listed : Array Bool) (e : Nat → D) (h : List Ob), Closed md ops listed →
 (∀ j oj, ops[j]? = some oj → j ≠ i → listed.getD j true = false → (∀ e ∈ oj.after, Region.binds md e = true → e.on ≠ i) → (∀ k, twB md ops k j i = false) → oi.apart ops oj = true ∧ compF (ef i) (ef j)) →
 i ∈ Region.ready md ops listed → YDT P G ops oi (ef i) e → (ef i).ok h → afAny P G n md ops ef Q fuel (listed.setIfInBounds i true) (putE n e oi.dst (ef i).d) ((ef i).heap h) → afAny P G n md ops ef Q (fuel + 1) listed e h := by
  intro fuel
  induction fuel with
  | zero =>
    intro listed a h _ _ hr hy hk H
    refine ⟨fun h => (by rw [h] at hr; cases hr), fun j hj => ?_⟩
    by_cases hji : j = i
    · subst hji; unfold afOp; simp only [hi]; exact ⟨hy, hk, H⟩
    · have := ready_mono hj hji
      rw [H.1] at this
      cases this
  | succ fuel ih =>
    intro listed a h hcl hfree hr hy hk H
    refine ⟨fun h => (by rw [h] at hr; cases hr), fun j hj => ?_⟩
    by_cases hji : j = i
    · subst hji; unfold afOp; simp only [hi]; exact ⟨hy, hk, H⟩
    · have h1 := H.2 j (ready_mono hj hji)
      obtain ⟨hjun, oj, hoj, hall⟩ := mem_ready.1 hj
      have hnot : ∀ e ∈ oj.after, Region.binds md e = true → e.on ≠ i := fun e he hb heq => by
        have h1 := hall e he hb
        have h0 := (mem_ready.1 hr).1
        rw [heq] at h1
        rcases Z5 i listed.size with h' | h'
        · simp [h'] at h0 h1; rw [h0] at h1; cases h1
        · simp [Array.getElem?_eq_none h'] at h1
      have hnt : ∀ k, twB md ops k j i = false := fun k => by
       cases ht : twB md ops k j i with
       | false => rfl
       | true =>
        have h1 := Yk1 hcl (Z4.1 hi).1 k j oj hoj hall ht
        have h0 := (mem_ready.1 hr).1
        rw [Z3] at h0 h1
        cases hl : listed[i]? with
        | none => rw [hl] at h0; cases h0
        | some b => rw [hl] at h0 h1; simp at h0 h1; rw [h0] at h1; cases h1
      obtain ⟨hap, hc⟩ := hfree j oj hoj hji hjun hnot hnt
      obtain ⟨a1, a2, a3⟩ := Oper.apart_spec hap
      unfold afOp at h1 ⊢
      simp only [hoj] at h1 ⊢
      obtain ⟨y1, y2, y3⟩ := h1
      have yj : YDT P G ops oj (ef j) a := (YDT.congr a1).1 y1
      have kj : (ef j).ok h := (Ef.ok_after hc).1 y2
      have ki : (ef i).ok ((ef j).heap h) := (Ef.ok_after hc.symm).2 hk
      have hfree' : ∀ k ok, ops[k]? = some ok → k ≠ i → (listed.setIfInBounds j true).getD k true = false →
          (∀ e ∈ ok.after, Region.binds md e = true → e.on ≠ i) → (∀ f, twB md ops f k i = false) → oi.apart ops ok = true ∧ compF (ef i) (ef k) := fun k ok hk hki hun hno hnt => by
        refine hfree k ok hk hki ?_ hno hnt
        by_cases hjk : j = k
        · subst hjk; exact hjun
        · rw [getD_set_ne true hjk] at hun; exact hun
      refine ⟨yj, kj, ih (listed.setIfInBounds j true) _ _ (hcl.set hj) hfree' (ready_mono hr (Ne.symm hji)) ((YDT.congr a3).2 hy) ki ?_⟩
      rw [Array.setIfInBounds_comm _ _ hji]
      rw [← Ef.heap_comm hc yj.fit, ← Zz6 a2]
      exact y3
def efOk (md : Region.Mode) (ops : Array Oper) (ef : Nat → Ef) : Prop := ∀ i j oj, i < j → ops[j]? = some oj → (∀ e ∈ oj.after, Region.binds md e = true → e.on ≠ i) → (∀ k, twB md ops k j i = false) → compF (ef i) (ef j)
def af (P : Program) (G : Nat → D) (n : Nat) (ops : Array Oper) (ef : Nat → Ef) (Q : (Nat → D) → List Ob → Prop) : Nat → List Oper → (Nat → D) → List Ob → Prop
 | _, [], e, h => Q e h
 | k, o :: rest, e, h => YDT P G ops o (ef k) e ∧ (ef k).ok h ∧ af P G n ops ef Q (k + 1) rest (putE n e o.dst (ef k).d) ((ef k).heap h)
theorem afAny_lex {ef : Nat → Ef} {Q : (Nat → D) → List Ob → Prop} (hE : efOk md ops ef) : ∀ (l : List Oper) (k : Nat) (listed : Array Bool) (e : Nat → D) (h : List Ob), Closed md ops listed → (∀ j, j < k → listed.getD j true = true) → (∀ j, l[j]? = ops[k + j]?) → Region.lexFrom md ops l.length k listed = true → af P G n ops ef Q k l e h → afAny P G n md ops ef Q l.length listed e h
 | [], _, _, _, _, _, _, _, hB, q => ⟨by simpa [Region.lexFrom] using hB, q⟩
 | o :: l, k, listed, e, h, hcl, hdone, hl, hB, q => by
    have h0 : ops[k]? = some o := by simpa using (hl 0).symm
    simp only [List.length_cons, Region.lexFrom, Zf] at hB
    obtain ⟨⟨hr, hf⟩, hB'⟩ := hB
    obtain ⟨hy, hk, hK⟩ := q
    have hfr := Region.free_spec h0 hf
    refine afAny_first h0 l.length listed e h hcl (fun j oj hj hjk hun hno hnt => ⟨hfr j oj hj hjk hun hno, ?_⟩) (by simpa using hr) hy hk
      (afAny_lex hE l (k + 1) _ _ _ (hcl.set (by simpa using hr)) (fun j hj => ?_) (fun j => by have := hl (j + 1); simpa [Nat.add_assoc, Nat.add_comm 1 j] using this) hB' hK)
    · have hlt : k < j := by
       rcases Z5 j k with h' | h'
       · rw [hdone j h'] at hun; cases hun
       · omega
      exact hE k j oj hlt hj hno hnt
    · by_cases hjk : k = j
      · subst hjk
        rw [Z3, Array.getElem?_setIfInBounds]
        simp only [if_true]
        split <;> rfl
      · rw [getD_set_ne true hjk]; exact hdone j (by omega)
section
variable {B : Base} {a : Act} {w : World}
theorem tri_sound {o : Oper} {h' : List Ob} {d : D} {K : Act → World → Prop} {R : Exit → Act → World → Prop} (q : OpTri P G o ((opds o.op).map (ev G e)) h (fun h1 d1 => h1 = h' ∧ d1 = d)) (r : Sit G B ⟨n, e, h⟩ a w) (k : ∀ a' w', Sit G B ⟨n, putE n e o.dst d, h'⟩ a' w' → K a' w') : o.wp P a w K R := by
 obtain ⟨hd, p, r⟩ := r
 refine Oper.wp_mono ?_ (q a w hd p R r.defers r.ok (Zs2 r _))
 rintro a' w' ⟨v, rfl, hd', h'', d', p', ⟨rfl, rfl⟩, o', q', ev'⟩
 have := r.put o' ev' q' o.dst
 rw [Zc1] at this
 exact k _ _ ⟨hd', p', this⟩
theorem Zd4 {ef : Nat → Ef} {Q : (Nat → D) → List Ob → Prop} {R : Exit → Act → World → Prop} (k : ∀ e h a w, Q e h → Sit G B ⟨n, e, h⟩ a w → R .normal a w) : ∀ (fuel : Nat) (listed : Array Bool) (e : Nat → D) (h : List Ob) (a : Act) (w : World), Sit G B ⟨n, e, h⟩ a w → afAny P G n md ops ef Q fuel listed e h → wpAny P md ops R fuel listed a w
 | 0, _, _, _, _, _, r, q => ⟨q.1, k _ _ _ _ q.2 r⟩
 | fuel + 1, listed, e, h, a, w, r, q => ⟨fun h0 => k _ _ _ _ (q.1 h0) r, fun i hi => by
   have q2 := q.2 i hi
   unfold afOp at q2
   unfold wpOp
   split
   · rename_i ho; rw [ho] at q2; exact Zd4 k fuel _ _ _ _ _ r q2
   · rename_i o ho
     rw [ho] at q2
     obtain ⟨hy, hk, hn⟩ := q2
     obtain ⟨hd, p, r'⟩ := id r
     rcases hy with ⟨hw, _, hs⟩ | ⟨hw, hE⟩
     · have hw' := Xf (o := o) r' hw
       rw [if_pos hw']
       exact .inl (tri_sound (hs h hk) r fun a' w' r2 => Zd4 k fuel _ _ _ _ _ r2 hn)
     · have hw' := Xf (o := o) r' hw
       rw [if_neg (by rw [hw']; decide)]
       rw [hE] at hn
       have r3 := r'.put0 (d := .v undef) (v := undef) (by rw [rd]) o.dst
       rw [Zc1] at r3
       exact Zd4 k fuel _ _ _ _ _ ⟨hd, p, r3⟩ hn⟩
end
theorem aw_drawF {id : Nat} {l : List Oper} {Q : Exit → S → Prop} {ef : Nat → Ef} (hm : P.follows .mixedOrders = true) (hB : Region.lexB .any l.toArray = true) (hE : efOk .any l.toArray ef) (H : af P G n l.toArray ef (fun e h => Q .normal ⟨n, e, h⟩) 0 l e h) : aw P G (.region id l.toArray true) Q ⟨n, e, h⟩ := fun B a w r => by
 obtain ⟨hd, p, r⟩ := r
 have hdr := r.ok.drew
 have r' : Sit G B ⟨n, e, h⟩ a { w with drawn := w.drawn + 1 } := ⟨hd, p, hdr.1, r.evo.trans hdr.2, fun t => hdr.2.rd r.ok (r.tmp t), r.size, r.defers⟩
 simp only [Region.lexB, Zf] at hB
 refine wp_region_any hm (Zd4 (ef := ef) (Q := fun e h => Q .normal ⟨n, e, h⟩) (fun e h a w q r => ⟨_, q, r⟩) _ _ _ _ _ _ r' ?_)
 have := afAny_lex (P := P) (G := G) (n := n) (md := .any) (ops := l.toArray) (Q := fun e h => Q .normal ⟨n, e, h⟩) hE l 0 (Array.replicate l.toArray.size false) e h (fun j oj hj hl => by
  have hlt := (Z4.1 hj).1
  rw [Z3, Ze, if_pos hlt] at hl
  cases hl) (fun j hj => by omega) (by simp) (by simpa using hB.2) H
 simpa using this
theorem aw_holes {c : Code} {Q : Exit → S → Prop} (k : Nat) (q : aw P G c Q ⟨n, e, h ++ holes k⟩) : aw P G c Q ⟨n, e, h⟩ := fun B a w r => q B a w (Sit_holes k r)
theorem ao_tri {o : Oper} {rest : List Oper} {Q : S → Prop} {h' : List Ob} {d : D} (hw : Yg ops o.guard e = some true) (q : OpTri P G o ((opds o.op).map (ev G e)) h (fun h1 d1 => h1 = h' ∧ d1 = d)) (k : ao P G ops rest Q ⟨n, putE n e o.dst d, h'⟩) : ao P G ops (o :: rest) Q ⟨n, e, h⟩ := by
 rintro B a w r R hR
 obtain ⟨hd, p, r'⟩ := id r
 unfold wpList
 rw [if_pos (Xf (o := o) r' hw)]
 exact .inl (tri_sound q r fun a' w' r2 => k B a' w' r2 R hR)
end
end Go.Proofs.YtbhkcbidcfofiaaGreat
