/-
  What the statements of the chapter share, part 06: D8, D9, D10, DTab.
-/
import Derived.Test.YtmdjnaobllajmaaGreatDoorY05
set_option linter.unusedVariables false
set_option linter.unusedSimpArgs false
set_option maxRecDepth 100000
set_option maxHeartbeats 8000000
namespace Go.Proofs.YtmdjnaobllajmaaGreatDoor
open _root_.Array renaming getD_eq_getD_getElem? → Z2, getElem?_eq_getElem → Z9, replicate → Ze
open _root_.Bool renaming and_eq_true → Zb
open _root_.ByteArray renaming toList → Z4
open _root_.List renaming map_congr_left → Z1, length_set → Z3, getElem?_append_right → Z6, getElem?_eq_some_iff → Z7, getElem?_append_left → Z8, mem_toArray → Zc, map_cons → Zf
open _root_.Option renaming map_some → Z5, isSome_iff_exists → Za, map_eq_some_iff → Zd
open _root_.Go.Proofs.Tryz renaming prog → Z0
open Go.RowKit
section
variable {P : Program} {G : Nat → D} {B : Base} {s : S} {a : Act} {w w' : World} {hd hd' : List Value} {h h' : List Ob} {p p' : Nat → Bool}
def Yo (ops : Array Oper) (gd : Option (Nat × Bool)) (env : Nat → D) : Option Bool := match gd with
 | none => some true
 | some (j, b) => match (ops[j]?).bind (·.dst) with
  | none => some false
  | some t => match env t with
   | .v (.bool c) => some (c == b)
   | .v (.tuple _) => some false
   | _ => none
theorem Xo {ops : Array Oper} {o : Oper} {b : Bool} (r : Sat G B s a w hd p) (q : Yo ops o.guard s.env = some b) : Region.wanted o (yielded ops a.tmps) = b := by
 unfold Yo at q
 unfold Region.wanted
 cases hg : o.guard with
 | none => rw [hg] at q; cases q; rfl
 | some g =>
  obtain ⟨j, c⟩ := g
  rw [hg] at q
  simp only at q ⊢
  unfold yielded
  cases hd' : (ops[j]?).bind (·.dst) with
  | none => rw [hd'] at q; cases q; rfl
  | some t =>
   rw [hd'] at q
   simp only at q
   have ht := r.tmp t
   have hx : a.tmps[t]? = none ∨ a.tmps[t]? = some (a.tmps.getD t undef) := by
    rw [Z2]
    cases a.tmps[t]? <;> simp
   split at q
   · rename_i c' he
     rw [he, rd] at ht
     cases q
     rcases hx with h | h
     · rw [Z2, h] at ht; cases ht
     · rw [ht] at h
       simp only [Option.bind_some, h]
       cases c' <;> cases c <;> rfl
   · rename_i vs he
     rw [he, rd] at ht
     cases q
     rcases hx with h | h
     · simp [h]
     · rw [ht] at h
       simp [h]
   · cases q
section
variable {ops : Array Oper} {rest : List Oper} {Q : S → Prop} {dst : Option Nat} {op : Op} {ty : TypeId} {pos : String} {aft : Array Edge} {gd : Option (Nat × Bool)}
theorem Yr (hq : Q s) : ao P G ops [] Q s := fun _ _ _ r _ k => k s _ _ hq r
theorem ao_cons (hw : Yo ops gd s.env = some true) (H : ∀ K : List Ob → D → Prop, (∀ h' d, ao P G ops rest Q (({ s with h := h' } : S).put dst d) → K h' d) → aOp P G s.env s.h K op) : ao P G ops (⟨dst, op, ty, pos, aft, gd⟩ :: rest) Q s := by
 rintro B a w ⟨hd, p, r⟩ R hR
 have g := Zn0 (dst := dst) (ty := ty) (pos := pos) (aft := aft) (gd := gd) r (H _ fun _ _ h => h)
 have hw' := Xo (o := ⟨dst, op, ty, pos, aft, gd⟩) r hw
 unfold wpList
 rw [if_pos hw']
 left
 unfold Oper.wp
 obtain ⟨v, w', hd', h', p', d, e, hk, o, q, ev⟩ := g
 rcases e with e | ⟨e, rfl⟩
 · rw [e]; exact hk B _ w' ⟨hd', p', r.put o ev q dst⟩ R hR
 · rw [e]; exact hk B _ w' ⟨hd', p', r.put o ev q dst⟩ R hR
theorem ao_skip (hw : Yo ops gd s.env = some false) (H : ao P G ops rest Q (s.put dst (.v undef))) : ao P G ops (⟨dst, op, ty, pos, aft, gd⟩ :: rest) Q s := by
 rintro B a w ⟨hd, p, r⟩ R hR
 have hw' := Xo (o := ⟨dst, op, ty, pos, aft, gd⟩) r hw
 unfold wpList
 rw [if_neg (by rw [hw']; decide)]
 exact H B _ w ⟨hd, p, r.put0 (by rw [rd]) dst⟩ R hR
def Does (P : Program) (G : Nat → D) (f : FuncId) (h : List Ob) (args : List D) (K : List Ob → D → Prop) : Prop :=
 ∀ w hd p vs, Ok G w hd h p → rdL hd h (only p w) args vs → Calls P f vs.toArray w fun e w' => ∃ v hd' h' r p', e = .returned v ∧ K h' r ∧ Ok G w' hd' h' p' ∧ rd hd' h' (only p' w') r v ∧ Evo w hd h p w' hd' h' p'
theorem Does.mono {f : FuncId} {args : List D} {K K' : List Ob → D → Prop} (q : Does P G f h args K) (k : ∀ h' r, K h' r → K' h' r) : Does P G f h args K' := fun w hd p vs o ha =>
 (q w hd p vs o ha).mono fun _ _ ⟨v, hd', h', r, p', e, hk, rest⟩ => ⟨v, hd', h', r, p', e, k _ _ hk, rest⟩
def entB (P : Program) (f : FuncId) : Bool := match P.funcs[f]? with
 | some fn => fn.name != "runtime.NumGoroutine" && fn.body.isSome
 | none => false
theorem Zk1 {f : FuncId} {args : Array Value} (he : entB P f = true) : (callFunc f args).run P w = .ok (.enter f args) w := by
 unfold entB at he
 cases hf : P.funcs[f]? with
 | none => rw [hf] at he; cases he
 | some fn =>
  rw [hf] at he
  simp only [Zb, bne_iff_ne, ne_eq] at he
  cases hb : fn.body with
  | none => rw [hb] at he; simp at he
  | some c => simp [callFunc, hf, he.1, hb]
theorem Zv3 (r : Sat G B s a w hd p) : ∀ l : List Operand, rdL hd s.h (only p w) (l.map (ev G s.env)) (l.map a.eval)
 | [] => by rw [List.map_nil, List.map_nil, rdL]
 | x :: t => by rw [Zf, Zf, rdL]; exact ⟨_, _, rfl, r.ev x, Zv3 r t⟩
theorem ao_call {x : Operand} {args : Array Operand} {tys : Array TypeId} {f : FuncId} {cap : List D} {R : List Ob → D → Prop} (hw : Yo ops gd s.env = some true) (hx : ev G s.env x = .fn f cap) (he : entB P f = true)
 (hc : Does P G f s.h (args.toList.map (ev G s.env) ++ cap) R) (H : ∀ h' r, R h' r → ao P G ops rest Q (({ s with h := h' } : S).put dst r)) : ao P G ops (⟨dst, .call ⟨.value x, args, tys⟩, ty, pos, aft, gd⟩ :: rest) Q s := by
 rintro B a w ⟨hd, p, r⟩ T hT
 have hw' := Xo (o := ⟨dst, .call ⟨.value x, args, tys⟩, ty, pos, aft, gd⟩) r hw
 unfold wpList
 rw [if_pos hw']
 left
 have q := r.ev x
 rw [hx, rd] at q
 obtain ⟨cs, e1, q⟩ := q
 have hrun : (execOp a.eval ⟨dst, .call ⟨.value x, args, tys⟩, ty, pos, aft, gd⟩).run P w = .ok (.enter f (args.map a.eval ++ cs)) w := by
  simp [execOp, resolve, e1, Deferred.ofValue, invoke, Zk1 he]
 unfold Oper.wp
 rw [hrun, Oper.upon_enter]
 have hargs : rdL hd s.h (only p w) (args.toList.map (ev G s.env) ++ cap) (args.toList.map a.eval ++ cs.toList) := Ww (Zv3 r _) q
 have := hc w hd p _ r.ok hargs
 rw [show (args.toList.map a.eval ++ cs.toList).toArray = args.map a.eval ++ cs by apply Array.ext'; simp] at this
 refine this.mono ?_
 rintro e w' ⟨v, hd', h', d, p', rfl, hk, o, q2, ev⟩
 exact H h' d hk B _ w' ⟨hd', p', r.put o ev q2 dst⟩ T hT
theorem aw_region {id : Nat} {l : List Oper} {Q : Exit → S → Prop} (H : ∀ K : S → Prop, (∀ s, Q .normal s → K s) → ao P G l.toArray l K s) : aw P G (.region id l.toArray false) Q s := fun B a w r =>
 wp_region_lit (H _ (fun _ h => h) B a w r _ fun s' _ _ q r' => ⟨s', q, r'⟩)
end
def resD (P : Program) (s : S) : List ResultVar → Option (List D)
 | [] => some []
 | .tmp t :: l => (resD P s l).map (s.env t :: ·)
 | .cell c t :: l => match Uy P s.h t (s.env c), resD P s l with
  | some d, some ds => some (d :: ds)
  | _, _ => none
def outD : List D → D
 | [d] => d
 | ds => .tup ds
def EndD (P : Program) (res : Array ResultVar) (m0 : Nat) (K : List Ob → D → Prop) (s : S) : Prop := ∃ ds m, resD P s res.toList = some ds ∧ m0 ≤ m ∧ m ≤ s.h.length ∧ lowH m (s.h.take m) ∧
 low m (cvD (fun i => decide (m ≤ i)) s.h (outD ds)) ∧ K (s.h.take m) (cvD (fun i => decide (m ≤ i)) s.h (outD ds))
def resF (tmps : Array Value) : ResultVar → Sem Value
 | .tmp t => pure (tmps.getD t undef)
 | .cell c t => do loadVar t (← asAddr (tmps.getD c undef))
theorem mapM_run {α β : Type} {f : α → Sem β} {x : α} {l : List α} {u : β} {vs : List β} (h1 : (f x).run P w = .ok u w) (h2 : (l.mapM f).run P w = .ok vs w) : ((x :: l).mapM f).run P w = .ok (u :: vs) w := by
 simp only [List.mapM_cons, Sem.run_bind, h1, Result.andThen_ok, h2, Sem.run_pure]
theorem Yf6 (r : Sat G B s a w hd p) : ∀ (l : List ResultVar) (ds : List D), resD P s l = some ds → ∃ vs, (l.mapM (resF a.tmps)).run P w = .ok vs w ∧ rdL hd s.h (only p w) ds vs
 | [], ds, q => by cases q; exact ⟨[], by simp, by rw [rdL]⟩
 | .tmp t :: l, ds, q => by
  simp only [resD, Zd] at q
  obtain ⟨ds', h1, rfl⟩ := q
  obtain ⟨vs, e, q⟩ := Yf6 r l ds' h1
  exact ⟨_ :: vs, mapM_run (by rfl) e, by rw [rdL]; exact ⟨_, _, rfl, r.tmp t, q⟩⟩
 | .cell c t :: l, ds, q => by
  simp only [resD] at q
  split at q
  · rename_i d ds' h1 h2
    cases q
    obtain ⟨vs, e, q⟩ := Yf6 r l ds' h2
    obtain ⟨u, e2, q2⟩ := run_loadD r.ok (r.tmp c) h1
    refine ⟨u :: vs, mapM_run ?_ e, by rw [rdL]; exact ⟨_, _, rfl, q2, q⟩⟩
    show (do loadVar t (← asAddr (a.tmps.getD c undef)) : Sem Value).run P w = .ok u w
    unfold Instr.loadAt Instr.sureAddr at e2
    cases hv : a.tmps.getD c undef with
    | pointer x => cases x with
      | some ad => rw [hv] at e2; simpa [asAddr] using e2
      | none => rw [hv] at e2; simp at e2
    | _ => rw [hv] at e2; simp at e2
  · cases q
theorem Yb4 (fn : Func) (tmps : Array Value) : results fn tmps = (do let vs ← fn.results.mapM (resF tmps); pure (if h : vs.size = 1 then vs[0] else .tuple vs)) := by
 have : (fun | .tmp t => pure (tmps.getD t undef) | .cell a t => do loadVar t (← asAddr (tmps.getD a undef)) : ResultVar → Sem Value) = resF tmps := by funext x; cases x <;> rfl
 unfold results
 rw [← this]
 rfl
def Zq6 (args : List D) : Nat → D := fun t => (args[t]?).getD .any
theorem Y5 {f : FuncId} {fn : Func} {c : Code} {args : List D} {K : List Ob → D → Prop} (hf : P.funcs[f]? = some fn) (hb : fn.body = some c) (hn : args.length ≤ fn.ntmps) (hG : ∀ g, low 0 (G g))
 (H : lowH h.length h → lowL h.length args → aw P G c (fun e s => (e = .normal ∨ e = .ret) ∧ EndD P fn.results h.length K s) ⟨fn.ntmps, Zq6 args, h⟩) : Does P G f h args K := by
 intro w hd p vs o ha
 have hlen := Vy ha
 refine calls_of_wp hf hb (Code.wp_mono ?_ (H o.allLow (Zc9 o.len _ _ ha) ⟨w, hd, h, p⟩ { tmps := vs.toArray ++ Ze (fn.ntmps - vs.toArray.size) undef, defers := [] } w ⟨hd, p, o, .refl _ _ _ _, fun t => ?_, by simp; omega, rfl⟩))
 · rintro e a' w' ⟨s', ⟨he, ds, m, h1, h2, h3, h4, h5, h6⟩, hd', p', r⟩
   have fin : ∃ v, (results fn a'.tmps).run P w' = .ok v w' ∧ rd hd' s'.h (only p' w') (outD ds) v := by
    obtain ⟨vs', e1, q1⟩ := Yf6 r _ _ h1
    have hl := Vy q1
    have e2 : (results fn a'.tmps).run P w' = .ok (if h : vs'.toArray.size = 1 then vs'.toArray[0] else .tuple vs'.toArray) w' := by
     rw [Yb4, Array.mapM_eq_mapM_toList]
     simp only [Sem.run_bind, Sem.run_map, e1, Result.andThen_ok]
     rfl
    refine ⟨_, e2, ?_⟩
    match ds, vs', q1, hl with
    | [], vs', q1, hl => 
     have : vs' = [] := List.eq_nil_of_length_eq_zero hl.symm
     subst this
     simp only [outD]; rw [rd]; exact ⟨#[], rfl, q1⟩
    | [d], vs', q1, hl =>
     rw [rdL] at q1; obtain ⟨u, t, rfl, q2, q3⟩ := q1
     rw [rdL] at q3; subst q3
     exact q2
    | d :: d2 :: ds, vs', q1, hl =>
     simp only [outD]
     have : ¬ vs'.toArray.size = 1 := by simp at hl ⊢; omega
     rw [dif_neg this, rd]; exact ⟨_, rfl, q1⟩
   obtain ⟨v, e2, q2⟩ := fin
   obtain ⟨p2, o2, ev2, cv⟩ := r.ok.give fun i => decide (m ≤ i)
   have htk : (Zi0 (fun i => decide (m ≤ i)) s'.h).take m = s'.h.take m := by
    apply List.ext_getElem?
    intro i
    rw [List.getElem?_take, List.getElem?_take]
    split
    · rename_i hi
      unfold Zi0
      rw [List.getElem?_mapIdx]
      cases s'.h[i]? with
      | none => rfl
      | some ob => simp [show ¬ m ≤ i by omega]
    · rfl
   have hlk : (Zi0 (fun i => decide (m ≤ i)) s'.h).length = s'.h.length := by simp [Zi0]
   have o3 := o2.take (m := m) (by rw [htk]; exact h4) fun g => Zl7 (Nat.zero_le _) _ (hG g)
   have ev3 := (r.evo.trans ev2).take o h2 (by rw [hlk]; exact h3)
   have q3 := Zo0 (m := m) (by rw [hlk, r.ok.len]) _ _ h5 (cv _ _ q2)
   rw [htk] at o3 ev3 q3
   rcases he with rfl | rfl
   · exact ⟨r.defers, v, e2, v, _, _, _, _, rfl, h6, o3, q3, ev3⟩
   · exact ⟨r.defers, v, e2, v, _, _, _, _, rfl, h6, o3, q3, ev3⟩
 · show rd hd h (only p w) ((args[t]?).getD .any) _
   obtain ⟨_, q⟩ := (Xa _ _).1 ha
   cases hd' : args[t]? with
   | none => show rd hd h (only p w) .any _; rw [rd]; trivial
   | some d =>
    show rd hd h (only p w) d _
    obtain ⟨u, h1, h2⟩ := q t d hd'
    have : (vs.toArray ++ Ze (fn.ntmps - vs.toArray.size) undef).getD t undef = u := by
     rw [Z2, Array.getElem?_append_left (by simpa using (Z7.1 h1).1)]
     simp [h1]
    rw [this]
    exact h2
end
section
variable {P : Program} {G : Nat → D} {n : Nat} {e : Nat → D} {h : List Ob}
section
variable {x y : Code} {Q : Exit → S → Prop} {s : S} {c : Operand}
theorem aw_seq' (k : aw P G x (thenS (aw P G y Q) Q) s) : aw P G (.seq x y) Q s := aw_seq fun _ q => Zi6 k fun e s r => by cases e <;> first | exact q _ r | exact r
theorem Yd9 {id : Nat} {l : List Oper} (k : ao P G l.toArray l (Q .normal) s) : aw P G (.region id l.toArray false) Q s := aw_region fun _ q => fun B a w r R hR => k B a w r R fun s' a' w' t => hR s' a' w' (q _ t)
theorem aw_if1 (k : ev G s.env c = .v (.bool true)) (h1 : aw P G x Q s) : aw P G (.cond c x y) Q s := aw_cond true k (fun _ => h1) fun h => by cases h
theorem aw_if0 (k : ev G s.env c = .v (.bool false)) (h1 : aw P G y Q s) : aw P G (.cond c x y) Q s := aw_cond false k (fun h => by cases h) fun _ => h1
end
section
variable {ops : Array Oper} {rest : List Oper} {Q : S → Prop} {t : Nat} {op : Op} {ty : TypeId} {pos : String} {aft : Array Edge} {gd : Option (Nat × Bool)}
theorem ao1 (hw : Yo ops gd e = some true) (ht : decide (t < n) = true) (H : ∀ K : List Ob → D → Prop, (∀ h' d, ao P G ops rest Q ⟨n, upd e t d, h'⟩ → K h' d) → aOp P G e h K op) : ao P G ops (⟨some t, op, ty, pos, aft, gd⟩ :: rest) Q ⟨n, e, h⟩ :=
 ao_cons hw fun K k => H K fun h' d q => k h' d (by unfold S.put; simp only [if_pos (of_decide_eq_true ht)]; exact q)
theorem ao1' (hw : Yo ops gd e = some true) (H : ∀ K : List Ob → D → Prop, (∀ h' d, ao P G ops rest Q ⟨n, e, h'⟩ → K h' d) → aOp P G e h K op) : ao P G ops (⟨none, op, ty, pos, aft, gd⟩ :: rest) Q ⟨n, e, h⟩ := ao_cons hw H
theorem ao0 (hw : Yo ops gd e = some false) (ht : decide (t < n) = true) (H : ao P G ops rest Q ⟨n, upd e t (.v undef), h⟩) : ao P G ops (⟨some t, op, ty, pos, aft, gd⟩ :: rest) Q ⟨n, e, h⟩ :=
 ao_skip hw (by unfold S.put; simp only [if_pos (of_decide_eq_true ht)]; exact H)
theorem ao0' (hw : Yo ops gd e = some false) (H : ao P G ops rest Q ⟨n, e, h⟩) : ao P G ops (⟨none, op, ty, pos, aft, gd⟩ :: rest) Q ⟨n, e, h⟩ := ao_skip hw H
theorem ao2 {x : Operand} {args : Array Operand} {tys : Array TypeId} {f : FuncId} {cap : List D} {R : List Ob → D → Prop} (hw : Yo ops gd e = some true) (ht : decide (t < n) = true) (hx : ev G e x = .fn f cap) (he : entB P f = true)
 (hc : Does P G f h (args.toList.map (ev G e) ++ cap) R) (H : ∀ h' r, R h' r → ao P G ops rest Q ⟨n, upd e t r, h'⟩) : ao P G ops (⟨some t, .call ⟨.value x, args, tys⟩, ty, pos, aft, gd⟩ :: rest) Q ⟨n, e, h⟩ :=
 ao_call hw hx he hc fun h' r q => by unfold S.put; simp only [if_pos (of_decide_eq_true ht)]; exact H h' r q
end
@[go_sem] theorem upd_app (t : Nat) (d : D) (x : Nat) : upd e t d x = if x = t then d else e x := rfl
@[go_sem] theorem ev_tmp (t : Nat) : ev G e (.tmp t) = e t := rfl
@[go_sem] theorem ev_const (v : Value) : ev G e (.const v) = .v v := rfl
@[go_sem] theorem ev_func (f : FuncId) : ev G e (.func f) = .fn f [] := rfl
@[go_sem] theorem ev_global (g : Nat) : ev G e (.global g) = G g := rfl
section
variable {K : List Ob → D → Prop} {x y z : Operand} {t u : TypeId}
@[go_sem] theorem aOp_move : aOp P G e h K (.move x) = K h (ev G e x) := rfl
@[go_sem] theorem aOp_assign : aOp P G e h K (.assign x) = K h (ev G e x) := rfl
theorem Yh {b : Bool} (k : ev G e x = .v (.bool b)) (q : K h (if b then ev G e y else ev G e z)) : aOp P G e h K (.pick x y z) := ⟨b, k, q⟩
@[go_sem] theorem aOp_bin {op : BinOp} : aOp P G e h K (.binOp op t x y u) = on (binD P op t x y (ev G e x) (ev G e y)) (K h) := rfl
@[go_sem] theorem aOp_un {op : UnOp} : aOp P G e h K (.unOp op t x) = on (unD P op (ev G e x)) (K h) := rfl
@[go_sem] theorem aOp_conv : aOp P G e h K (.convert t u x) = cvA P h t u (ev G e x) K := rfl
@[go_sem] theorem aOp_build {parts : Array (Nat × Operand)} : aOp P G e h K (.build t parts) = on (Zq5 P t (parts.toList.map fun q => (q.1, ev G e q.2))) fun ds => K h (.agg ds) := rfl
@[go_sem] theorem aOp_lit {parts : Array (Nat × Operand)} {len : Nat} : aOp P G e h K (.buildSlice t len parts) = on (litD P t len (parts.toList.map fun q => (q.1, ev G e q.2))) fun r => K (h ++ [.buf r.1 r.2.1 r.2.2]) (.buf h.length len) := rfl
@[go_sem] theorem aOp_slice {lo hi : Option Operand} : aOp P G e h K (.slice t x lo hi none) = slcA P t (ev G e x) (lo.map (ev G e)) (hi.map (ev G e)) (K h) := rfl
@[go_sem] theorem aOp_index : aOp P G e h K (.index t x y) = indA P t (ev G e x) (ev G e y) (K h) := rfl
@[go_sem] theorem aOp_extract {i : Nat} : aOp P G e h K (.extract x i) = on (extrD i (ev G e x)) (K h) := rfl
@[go_sem] theorem aOp_field {f : Nat} : aOp P G e h K (.field t x f) = on (fieldD P t f (ev G e x)) (K h) := rfl
@[go_sem] theorem aOp_load : aOp P G e h K (.load t x) = on (Uy P h t (ev G e x)) (K h) := rfl
@[go_sem] theorem aOp_store : aOp P G e h K (.store t x y) = on (Zb9 P h t (ev G e x) (ev G e y)) fun h' => K h' (.v undef) := rfl
@[go_sem] theorem aOp_faddr {f : Nat} : aOp P G e h K (.fieldAddr t x f) = on (Zy1 P t f (ev G e x)) (K h) := rfl
@[go_sem] theorem aOp_iaddr : aOp P G e h K (.indexAddr t x y) = idxA P h t (ev G e x) (ev G e y) (K h) := rfl
@[go_sem] theorem aOp_nil : aOp P G e h K (.nilCheck x) = (isPtr (ev G e x) = true ∧ K h (ev G e x)) := rfl
@[go_sem] theorem aOp_box : aOp P G e h K (.box t x) = on (ev G e x).cells fun ds => K (h ++ [.cells ds]) (.ptr h.length 0) := rfl
@[go_sem] theorem aOp_alloc : aOp P G e h K (.alloc t) = on (Ur P t) fun ds => K (h ++ [.cells ds]) (.ptr h.length 0) := rfl
end
@[go_sem] theorem on_some' {α : Type} {a : α} {K : α → Prop} : on (some a) K = K a := rfl
section
variable {t : TypeId} {x y : Operand} {k : IntKind} {a b : Int}
@[go_sem] theorem binD_v {op : BinOp} {X Y : Value} : binD P op t x y (.v X) (.v Y) = binV P op t x y X Y := rfl
@[go_sem] theorem b_eql : binV P .eql t x y (.int k a) (.int k b) = some (.v (.bool (decide (a = b)))) := by cases k <;> rfl
@[go_sem] theorem b_neq : binV P .neq t x y (.int k a) (.int k b) = some (.v (.bool (!decide (a = b)))) := by cases k <;> rfl
@[go_sem] theorem b_lss : binV P .lss t x y (.int k a) (.int k b) = some (.v (.bool (decide (a < b)))) := by cases k <;> rfl
@[go_sem] theorem b_leq : binV P .leq t x y (.int k a) (.int k b) = some (.v (.bool (decide (a ≤ b)))) := by cases k <;> rfl
@[go_sem] theorem b_gtr : binV P .gtr t x y (.int k a) (.int k b) = some (.v (.bool (decide (b < a)))) := by cases k <;> rfl
@[go_sem] theorem b_geq : binV P .geq t x y (.int k a) (.int k b) = some (.v (.bool (decide (b ≤ a)))) := by cases k <;> rfl
@[go_sem] theorem b_add : binV P .add t x y (.int k a) (.int k b) = some (.v (.int k (k.wrap (a + b)))) := by cases k <;> rfl
@[go_sem] theorem b_sub : binV P .sub t x y (.int k a) (.int k b) = some (.v (.int k (k.wrap (a - b)))) := by cases k <;> rfl
@[go_sem] theorem b_mul : binV P .mul t x y (.int k a) (.int k b) = some (.v (.int k (k.wrap (a * b)))) := by cases k <;> rfl
@[go_sem] theorem u_neg {op : IntKind} : unD P .neg (.v (.int k a)) = some (.v (.int k (k.wrap (0 - a)))) := rfl
@[go_sem] theorem u_not {c : Bool} : unD P .not (.v (.bool c)) = some (.v (.bool (!c))) := rfl
end
@[go_sem] theorem extrD_tup {i : Nat} {ds : List D} : extrD i (.tup ds) = ds[i]? := rfl
section
variable {K : List Ob → D → Prop} {t u : TypeId}
@[go_sem] theorem aOp_bi {b : Builtin} {args : Array Operand} {tys : Array TypeId} : aOp P G e h K (.call ⟨.builtin b, args, tys⟩) = biA P h b tys.toList (args.toList.map (ev G e)) K := rfl
@[go_sem] theorem biA_len {x : D} : biA P h .len [t] [x] K = on (lenD P t x) (K h) := rfl
@[go_sem] theorem biA_append {x y : D} : biA P h .append [t, u] [x, y] K = apA P h t u x y K := rfl
@[go_sem] theorem lenD_sl {k : Nat} {xs : List (List D)} (q : slT P t = true) : lenD P t (.sl k xs) = some (.v (.int .i64 xs.length)) := by simp only [lenD, q, if_true]
@[go_sem] theorem lenD_buf {i n : Nat} (q : slT P t = true) : lenD P t (.buf i n) = some (.v (.int .i64 n)) := by simp only [lenD, q, if_true]
@[go_sem] theorem lenD_nil (q : slT P t = true) : lenD P t (.v (.slice none 0 0)) = some (.v (.int .i64 0)) := by
 unfold slT at q
 split at q
 · rename_i e he
   unfold lenD Builtin.len_ Go.underlying
   simp [V7, bind, Sem.bind, program, he, pure, goInt]
 · cases q
@[go_sem] theorem lenD_str {s : ByteArray} (q : strT P t = true) : lenD P t (.v (.string s)) = some (.v (.int .i64 s.size)) := by
 unfold strT at q
 split at q
 · rename_i he
   unfold lenD Builtin.len_ Go.underlying
   simp [V7, bind, Sem.bind, program, he, pure, goInt]
 · cases q
@[go_sem] theorem idxA_sl {k : Nat} {xs : List (List D)} {κ : IntKind} {m : Int} {K : D → Prop} : idxA P h t (.sl k xs) (.v (.int κ m)) K = (((elT P t).bind (szT P)) = some k ∧ 0 ≤ m ∧ m < (xs.length : Int) ∧ ∀ row, xs[m.toNat]? = some row → K (.rp row)) := rfl
@[go_sem] theorem idxA_buf {i n : Nat} {κ : IntKind} {m : Int} {K : D → Prop} : idxA P h t (.buf i n) (.v (.int κ m)) K = (∃ e k xs, h[i]? = some (.buf e k xs) ∧ xs.length = n ∧ ((elT P t).bind (szT P)) = some k ∧ 0 ≤ m ∧ m < (n : Int) ∧ K (.bp i n m.toNat 0)) := rfl
@[go_sem] theorem idxA_win {i n a b : Nat} {κ : IntKind} {m : Int} {K : D → Prop} : idxA P h t (.win i n a b) (.v (.int κ m)) K = (∃ e k xs, h[i]? = some (.buf e k xs) ∧ xs.length = n ∧ ((elT P t).bind (szT P)) = some k ∧ 0 ≤ m ∧ m < ((b - a : Nat) : Int) ∧ K (.bp i n (a + m.toNat) 0)) := rfl
@[go_sem] theorem getD_one {ds : List D} {o : Nat} (q : aggT P t = some false) : getD P t ds o = ds[o]? := by simp only [getD, q]
theorem getD_agg {ds : List D} {o m : Nat} (q : aggT P t = some true) (r : szT P t = some m) (l : o + m ≤ ds.length) : getD P t ds o = some (.agg ((ds.drop o).take m)) := by simp only [getD, q, r, if_pos l]
@[go_sem] theorem loadD_rp {ds : List D} : Uy P h t (.rp ds) = getD P t ds 0 := rfl
@[go_sem] theorem faddr_eq {f : Nat} {x : D} : Zy1 P t f x = (fldT P t f).bind fun q => if nzT P q.2 = true then addD q.1 x else none := rfl
@[go_sem] theorem addD_ptr {i o q : Nat} : addD o (.ptr i q) = some (.ptr i (q + o)) := rfl
@[go_sem] theorem addD_rp {o : Nat} {ds : List D} : addD o (.rp ds) = some (.rp (ds.drop o)) := rfl
@[go_sem] theorem addD_bp {i o n r j : Nat} : addD o (.bp i n r j) = some (.bp i n r (j + o)) := rfl
@[go_sem] theorem getD_agg' {ds : List D} {o : Nat} (q : aggT P t = some true) : getD P t ds o = match szT P t with
 | some n => if o + n ≤ ds.length then some (.agg ((ds.drop o).take n)) else none
 | none => none := by unfold getD; rw [q]; cases szT P t <;> rfl
end
theorem W9 {α : Type} {f : α → List D} {l : List α} {i : Nat} {a : α} {K : List D → Prop} (q : l[i]? = some a) (k : K (f a)) : ∀ row, (l.map f)[i]? = some row → K row := fun row hr => by
 rw [List.getElem?_map, q] at hr; cases hr; exact k
theorem Ui {α : Type} {f : α → List D} {l : List α} {i : Nat} {row : List D} (q : (l.map f)[i]? = some row) : ∃ a, l[i]? = some a ∧ f a = row := by
 rw [List.getElem?_map, Zd] at q; exact q
section
variable {K : S → Prop} {Q : Exit → S → Prop} {s : S} {i j : Nat}
theorem inB_x (q : Q .normal s) : Zm3 i Q (.exit i) s := by
 show if i = i then _ else _
 rw [if_pos rfl]; exact q
theorem inB_y (hne : (j == i) = false) (q : Q (.exit j) s) : Zm3 i Q (.exit j) s := by
 show if j = i then _ else _
 rw [if_neg (by simpa using hne)]; exact q
end
theorem X1 {K : List Ob → D → Prop} {q : Prop} [Decidable q] (h1 : q → K h (.v (.bool true))) (h0 : ¬ q → K h (.v (.bool false))) : K h (.v (.bool (decide q))) := by
 by_cases hq : q
 · rw [decide_eq_true hq]; exact h1 hq
 · rw [decide_eq_false hq]; exact h0 hq
theorem Zu2 {K : List Ob → D → Prop} {q : Prop} [Decidable q] (h1 : q → K h (.v (.bool false))) (h0 : ¬ q → K h (.v (.bool true))) : K h (.v (.bool (!decide q))) := by
 by_cases hq : q
 · rw [decide_eq_true hq]; exact h1 hq
 · rw [decide_eq_false hq]; exact h0 hq
theorem Yn {c : Code} {Q : Exit → S → Prop} (I : Nat → (Nat → D) → List Ob → Prop) (m : Nat) (h0 : I m e h) (round : ∀ m e h, I m e h → aw P G c (thenS (fun s' => s'.n = n ∧ ∃ m', m' < m ∧ I m' s'.env s'.h) Q) ⟨n, e, h⟩) : aw P G (.loop c) Q ⟨n, e, h⟩ :=
 aw_loop (fun m s => s.n = n ∧ I m s.env s.h) m ⟨rfl, h0⟩ fun m ⟨n', e', h'⟩ ⟨hn, hI⟩ => by
  have hn : n' = n := hn
  subst hn
  exact Zi6 (round m e' h' hI) fun ex s q => by
   cases ex <;> first | (obtain ⟨q1, m', q2, q3⟩ := q; exact ⟨m', q2, q1, q3⟩) | exact q
section
variable {K : List Ob → D → Prop} {t u : TypeId} {k κ : IntKind} {m : Int} {x : D} {b : List UInt8}
@[go_sem] theorem cv_int (q : (intT P t).isSome = true) (r : (intT P u).isSome = true) : cvA P h t u (.v (.int κ m)) K = on ((intT P u).map fun k => D.v (.int k (k.wrap m))) (K h) := by
 obtain ⟨κ', q⟩ := Za.1 q
 obtain ⟨k, r⟩ := Za.1 r
 have h1 := Zx3 q
 have h2 := Zx3 r
 have e : V7 P (convert t u (.int κ m)) = some (.int k (k.wrap m)) := by
  unfold convert Go.underlying
  simp [bind, Sem.bind, program, V7, h1, h2, pure, Conv.intToInt]
 unfold cvA convD
 simp only [e, Z5, on, r]
@[go_sem] theorem cv_sl {n : Nat} {xs : List (List D)} : cvA P h t u (.sl n xs) K = bstD P t u h (.sl n xs) (K h) := rfl
@[go_sem] theorem cv_buf {i n : Nat} : cvA P h t u (.buf i n) K = bstD P t u h (.buf i n) (K h) := rfl
theorem cv_by {s : ByteArray} (hb : byT P u = true) (ht : (P.underlying t).isSome = true) (hs : s.size ≤ 140737488355328) (q : K h (.sl 1 (byD s.data.toList))) : cvA P h t u (.v (.string s)) K := .inl ⟨hb, ht, hs, q⟩
theorem bst_by {K : D → Prop} {n : Nat} (h1 : byT P t = true) (h2 : strT P u = true) (q : K (.v (.string ⟨b.toArray⟩))) : bstD P t u h (.sl n (byD b)) K := ⟨h1, h2, b, rfl, q⟩
theorem Ya8 {K : D → Prop} {n : Nat} {xs : List (List D)} {lo hi : Option D} {l r : Int} (h1 : (elT P t).bind (szT P) = some n) (hl : bndD 0 lo = some l) (hr : bndD xs.length hi = some r) (h2 : 0 ≤ l) (h3 : l ≤ r) (h4 : r ≤ xs.length) (q : K (.sl n ((xs.take r.toNat).drop l.toNat))) : slcA P t (.sl n xs) lo hi K := ⟨l, r, h1, hl, hr, h2, h3, h4, q⟩
theorem ind_str {K : D → Prop} {s : ByteArray} (h1 : strT P t = true) (h2 : 0 ≤ m) (h3 : m < (s.size : Int)) (q : ∀ b, s.data[m.toNat]? = some b → K (.v (.int .u8 b.toNat))) : indA P t (.v (.string s)) (.v (.int κ m)) K := ⟨h1, h2, h3, q⟩
@[go_sem] theorem b_quo {x y : Operand} {a c : Int} (q : (c == 0) = false) : binV P .quo t x y (.int k a) (.int k c) = some (.v (.int k (k.wrap (a.tdiv c)))) := by
 have q : c ≠ 0 := by simpa using q
 cases k <;> simp [binV, binOp, Op.intDiv, eqGuard, q, bind, Sem.bind, pure, V7]
@[go_sem] theorem b_rem {x y : Operand} {a c : Int} (q : (c == 0) = false) : binV P .rem t x y (.int k a) (.int k c) = some (.v (.int k (a.tmod c))) := by
 have q : c ≠ 0 := by simpa using q
 cases k <;> simp [binV, binOp, Op.intDiv, eqGuard, q, bind, Sem.bind, pure, V7]
@[go_sem] theorem b_shl {x y : Operand} {a c : Int} (q : decide (0 ≤ c) = true) : binV P .shl t x y (.int k a) (.int κ c) = some (.v (.int k (k.wrap (a * 2 ^ min c.toNat k.bits)))) := by
 have q : ¬ c < 0 := by have := of_decide_eq_true q; omega
 simp [binV, binOp, Op.shift, eqGuard, q, bind, Sem.bind, pure, V7]
@[go_sem] theorem b_shr {x y : Operand} {a c : Int} (q : decide (0 ≤ c) = true) : binV P .shr t x y (.int k a) (.int κ c) = some (.v (.int k (a.fdiv (2 ^ min c.toNat k.bits)))) := by
 have q : ¬ c < 0 := by have := of_decide_eq_true q; omega
 simp [binV, binOp, Op.shift, eqGuard, q, bind, Sem.bind, pure, V7]
@[go_sem] theorem b_xor {x y : Operand} {a c : Int} : binV P .xor t x y (.int k a) (.int k c) = some (.v (.int k (k.wrap (BitVec.ofInt k.bits a ^^^ BitVec.ofInt k.bits c).toNat))) := by cases k <;> rfl
@[go_sem] theorem b_and {x y : Operand} {a c : Int} : binV P .and t x y (.int k a) (.int k c) = some (.v (.int k (k.wrap (BitVec.ofInt k.bits a &&& BitVec.ofInt k.bits c).toNat))) := by cases k <;> rfl
@[go_sem] theorem b_or {x y : Operand} {a c : Int} : binV P .or t x y (.int k a) (.int k c) = some (.v (.int k (k.wrap (BitVec.ofInt k.bits a ||| BitVec.ofInt k.bits c).toNat))) := by cases k <;> rfl
theorem ba_loop (s : ByteArray) : ∀ (k i : Nat) (r : List UInt8), s.size - i = k → Z4.loop s i r = r.reverse ++ s.data.toList.drop i
 | 0, i, r, hk => by
  rw [Z4.loop, if_neg (by omega), List.drop_eq_nil_of_le (by show s.data.toList.length ≤ i; rw [Array.length_toList]; exact (show s.size ≤ i by omega)), List.append_nil]
 | k + 1, i, r, hk => by
  have hi : i < s.size := by omega
  have hi' : i < s.data.toList.length := by rw [Array.length_toList]; exact hi
  rw [Z4.loop, if_pos hi, ba_loop s k (i + 1) _ (by omega), List.drop_eq_getElem_cons hi']
  have : s.get! i = s.data.toList[i] := by
   unfold ByteArray.get!
   rw [Array.getElem_toList]
   exact getElem!_pos s.data i hi
  rw [this]; simp
theorem Jx (s : ByteArray) : s.toList = s.data.toList := by
 unfold Z4
 rw [ba_loop s _ 0 [] rfl]; simp
theorem Zf1 (a b : ByteArray) : (a.toList == b.toList) = decide (a = b) := by
 rw [Bool.eq_iff_iff, decide_eq_true_eq, beq_iff_eq]
 exact ⟨fun q => ByteArray.ext (Array.ext' (by rw [← Jx, ← Jx]; exact q)), fun q => by rw [q]⟩
@[go_sem] theorem b_seql {x y : Operand} {a c : ByteArray} : binV P .eql t x y (.string a) (.string c) = some (.v (.bool (decide (a = c)))) := by
 rw [← Zf1]; rfl
@[go_sem] theorem b_sneq {x y : Operand} {a c : ByteArray} : binV P .neq t x y (.string a) (.string c) = some (.v (.bool (!decide (a = c)))) := by
 rw [← Zf1]; rfl
@[go_sem] theorem b_slss {x y : Operand} {a c : ByteArray} : binV P .lss t x y (.string a) (.string c) = some (.v (.bool (Op.bytesLess a.toList c.toList))) := rfl
@[go_sem] theorem b_sgeq {x y : Operand} {a c : ByteArray} : binV P .geq t x y (.string a) (.string c) = some (.v (.bool (!Op.bytesLess a.toList c.toList))) := rfl
@[go_sem] theorem b_sgtr {x y : Operand} {a c : ByteArray} : binV P .gtr t x y (.string a) (.string c) = some (.v (.bool (!(Op.bytesLess a.toList c.toList || decide (a = c))))) := by
 rw [← Zf1]; rfl
@[go_sem] theorem b_sleq {x y : Operand} {a c : ByteArray} : binV P .leq t x y (.string a) (.string c) = some (.v (.bool (Op.bytesLess a.toList c.toList || decide (a = c)))) := by
 rw [← Zf1]; rfl
end
section
variable {h : List Ob} {t : TypeId} {i o k : Nat} {y : D} {a : Ob} {l : List Ob}
@[go_sem] theorem loadD_ptr : Uy P h t (.ptr i o) = match h[i]? with
 | some (.cells ds) => getD P t ds o
 | _ => none := rfl
@[go_sem] theorem storeD_ptr : Zb9 P h t (.ptr i o) y = match y.cells with
 | none => none
 | some es => if es.all D.one && szT P t == some es.length then match h[i]? with
  | some (.cells ds) => if o + es.length ≤ ds.length then some (h.set i (.cells (putL ds o es))) else none
  | _ => none
  else none := by unfold Zb9; rfl
theorem hp_get0 : (h ++ l)[h.length]? = l[0]? := by rw [Z6 (Nat.le_refl _), Nat.sub_self]
theorem hp_getk : (h ++ l)[h.length + k]? = l[k]? := by rw [Z6 (by omega)]; congr 1; omega
theorem hp_set0 {x : Ob} : (h ++ l).set h.length x = h ++ l.set 0 x := by rw [List.set_append_right _ _ (Nat.le_refl _), Nat.sub_self]
theorem hp_setk {x : Ob} : (h ++ l).set (h.length + k) x = h ++ l.set k x := by rw [List.set_append_right _ _ (by omega)]; congr 2; omega
theorem hps_get0 {x : Ob} : (h.set i x ++ l)[h.length]? = l[0]? := by have := hp_get0 (h := h.set i x) (l := l); rwa [Z3] at this
theorem hps_getk {x : Ob} : (h.set i x ++ l)[h.length + k]? = l[k]? := by have := hp_getk (h := h.set i x) (l := l) (k := k); rwa [Z3] at this
theorem hps_set0 {x y : Ob} : (h.set i x ++ l).set h.length y = h.set i x ++ l.set 0 y := by have := hp_set0 (h := h.set i x) (l := l) (x := y); rwa [Z3] at this
theorem hps_setk {x y : Ob} : (h.set i x ++ l).set (h.length + k) y = h.set i x ++ l.set k y := by have := hp_setk (h := h.set i x) (l := l) (k := k) (x := y); rwa [Z3] at this
theorem Wf {ob : Ob} (hi : h[i]? = some ob) : (∀ x : Ob, (h.set i x)[i]? = some x) ∧ (∀ (x : Ob) (l : List Ob), (h.set i x ++ l)[i]? = some x) ∧ (∀ l : List Ob, (h ++ l)[i]? = some ob) ∧ (∀ (x : Ob) (l : List Ob), (h ++ l).set i x = h.set i x ++ l) ∧ (∀ (x y : Ob) (l : List Ob), (h.set i x ++ l).set i y = h.set i y ++ l) := by
 have hil := (Z7.1 hi).1
 refine ⟨fun x => List.getElem?_set_self hil, fun x l => ?_, fun l => ?_, fun x l => ?_, fun x y l => ?_⟩
 · rw [Z8 (by simpa using hil)]; exact List.getElem?_set_self hil
 · rw [Z8 hil]; exact hi
 · rw [List.set_append_left _ _ hil]
 · rw [List.set_append_left _ _ (by simpa using hil), List.set_set]
end
@[go_sem] theorem argEnv_zero {a : D} {l : List D} : Zq6 (a :: l) 0 = a := rfl
@[go_sem] theorem argEnv_succ {a : D} {l : List D} {k : Nat} : Zq6 (a :: l) (k + 1) = Zq6 l k := by simp [Zq6]
@[go_sem] theorem cells_int {k : IntKind} {m : Int} : (D.v (.int k m)).cells = some [.v (.int k m)] := rfl
@[go_sem] theorem cells_bool {b : Bool} : (D.v (.bool b)).cells = some [.v (.bool b)] := rfl
@[go_sem] theorem cells_str {s : ByteArray} : (D.v (.string s)).cells = some [.v (.string s)] := rfl
@[go_sem] theorem cells_nsl : (D.v (.slice none 0 0)).cells = some [.v (.slice none 0 0)] := rfl
@[go_sem] theorem cells_sl {k : Nat} {xs : List (List D)} : (D.sl k xs).cells = some [.sl k xs] := rfl
@[go_sem] theorem cells_buf {i m : Nat} : (D.buf i m).cells = some [.buf i m] := rfl
@[go_sem] theorem cells_ptr {i m : Nat} : (D.ptr i m).cells = some [.ptr i m] := rfl
@[go_sem] theorem cells_agg {ds : List D} : (D.agg ds).cells = some ds := rfl
@[go_sem] theorem one_int {k : IntKind} {m : Int} : (D.v (.int k m)).one = true := rfl
@[go_sem] theorem one_bool {b : Bool} : (D.v (.bool b)).one = true := rfl
@[go_sem] theorem one_str {s : ByteArray} : (D.v (.string s)).one = true := rfl
@[go_sem] theorem one_nsl : (D.v (.slice none 0 0)).one = true := rfl
@[go_sem] theorem one_sl {k : Nat} {xs : List (List D)} : (D.sl k xs).one = true := rfl
@[go_sem] theorem one_buf {i m : Nat} : (D.buf i m).one = true := rfl
@[go_sem] theorem one_ptr {i m : Nat} : (D.ptr i m).one = true := rfl
@[go_sem] theorem putL_zero {α : Type} {a b : α} {l : List α} : putL (a :: l) 0 [b] = b :: l := rfl
@[go_sem] theorem putL_succ {α : Type} {a b : α} {l : List α} {o : Nat} : putL (a :: l) (o + 1) [b] = a :: putL l o [b] := by simp [putL, Nat.add_right_comm]
@[go_sem] theorem isPtr_ptr {i m : Nat} : isPtr (.ptr i m) = true := rfl
@[go_sem] theorem isPtr_rp {ds : List D} : isPtr (.rp ds) = true := rfl
attribute [go_sem] Option.isSome_some Z5 List.take_succ_cons List.take_zero List.all_cons List.all_nil Bool.and_true Bool.true_and List.append_assoc List.cons_append List.nil_append List.length_append Z3 List.set_set Nat.add_zero Nat.zero_add hp_get0 hp_getk hp_set0 hp_setk hps_get0 hps_getk hps_set0 hps_setk List.set_cons_zero List.set_cons_succ beq_self_eq_true Zf List.map_nil List.length_map List.length_cons List.length_nil Option.bind_some true_and and_true List.drop_zero List.getElem?_cons_zero List.getElem?_cons_succ List.drop_succ_cons Bool.not_true Bool.not_false
theorem endD {res : Array ResultVar} {h0 : List Ob} {K : List Ob → D → Prop} {s : S} {ds : List D} {r : D} (hl : lowH h0.length h0) (h1 : resD P s res.toList = some ds) (h2 : s.h.take h0.length = h0) (h4 : h0.length ≤ s.h.length)
 (h3 : cvD (fun i => decide (h0.length ≤ i)) s.h (outD ds) = r) (h5 : low h0.length r) (hK : K h0 r) : EndD P res h0.length K s := ⟨ds, h0.length, h1, Nat.le_refl _, h4, by rw [h2]; exact hl, by rw [h3]; exact h5, by rw [h2, h3]; exact hK⟩
end
section
variable {P : Program} {G : Nat → D} {n : Nat} {e : Nat → D} {h : List Ob} {ops : Array Oper} {md : Region.Mode}
def putE (n : Nat) (e : Nat → D) (dst : Option Nat) (d : D) : Nat → D := match dst with
 | some t => if t < n then upd e t d else e
 | none => e
theorem Za6 {dst : Option Nat} {d : D} : S.put ⟨n, e, h⟩ dst d = ⟨n, putE n e dst d, h⟩ := by
 unfold S.put putE
 cases dst with
 | none => rfl
 | some t => simp only; split <;> rfl
def Yl (P : Program) (G : Nat → D) (op : Op) (e : Nat → D) (h : List Ob) (d : D) : Prop := aOp P G e h (fun h' d' => h' = h ∧ d' = d) op ∨
 ∃ x args tys f cap, op = .call ⟨.value x, args, tys⟩ ∧ ev G e x = .fn f cap ∧ entB P f = true ∧ Does P G f h (args.toList.map (ev G e) ++ cap) (fun h' r => h' = h ∧ r = d)
theorem Zn1 {e' : Nat → D} {K : List Ob → D → Prop} {op : Op} (q : ∀ x ∈ op.operands, ev G e' x = ev G e x) (k : aOp P G e h K op) : aOp P G e' h K op := by
 cases op <;> try exact k
 case call c =>
  obtain ⟨cal, args, tys⟩ := c
  cases cal with
  | builtin b =>
   have : args.toList.map (ev G e') = args.toList.map (ev G e) := Z1 fun x hx => q x (by simp only [Op.operands, Call.operands]; simpa using hx)
   show biA P h b tys.toList (args.toList.map (ev G e')) K
   rw [this]; exact k
  | _ => exact k
 case build t parts =>
  have : (parts.toList.map fun q => (q.1, ev G e' q.2)) = parts.toList.map fun q => (q.1, ev G e q.2) := Z1 fun x hx => by rw [q x.2 (by simp only [Op.operands, Zc]; exact List.mem_map.2 ⟨x, hx, rfl⟩)]
  show on (Zq5 P t (parts.toList.map fun q => (q.1, ev G e' q.2))) _
  rw [this]; exact k
 case buildSlice t len parts =>
  have : (parts.toList.map fun q => (q.1, ev G e' q.2)) = parts.toList.map fun q => (q.1, ev G e q.2) := Z1 fun x hx => by rw [q x.2 (by simp only [Op.operands, Zc]; exact List.mem_map.2 ⟨x, hx, rfl⟩)]
  show on (litD P t len (parts.toList.map fun q => (q.1, ev G e' q.2))) _
  rw [this]; exact k
 case slice t x lo hi mx =>
  cases mx with
  | some m => exact k
  | none =>
   have hx := q x (by simp [Op.operands])
   have hlo : lo.map (ev G e') = lo.map (ev G e) := by
    cases lo with
    | none => rfl
    | some y => simp only [Z5]; rw [q y (by simp [Op.operands])]
   have hhi : hi.map (ev G e') = hi.map (ev G e) := by
    cases hi with
    | none => rfl
    | some y => simp only [Z5]; rw [q y (by simp [Op.operands])]
   show slcA P t (ev G e' x) (lo.map (ev G e')) (hi.map (ev G e')) _
   rw [hx, hlo, hhi]; exact k
 all_goals
  simp only [Op.operands, Zc, Array.mem_def, List.mem_cons, List.not_mem_nil, or_false, forall_eq_or_imp, forall_eq] at q
  simp only [aOp] at k ⊢
  first | (simp only [q]; exact k) | (simp only [q.1, q.2]; exact k) | (simp only [q.1, q.2.1, q.2.2]; exact k)
theorem Yj1 {dst : Option Nat} {v : D} {x : Operand} (q : ∀ t, dst = some t → x ≠ .tmp t) : ev G (putE n e dst v) x = ev G e x := by
 cases dst with
 | none => rfl
 | some t =>
  unfold putE
  simp only
  split
  · cases x with
    | tmp u =>
     have : u ≠ t := fun h => q t rfl (by rw [h])
     show upd e t v u = e u
     unfold upd; rw [if_neg this]
    | _ => rfl
  · rfl
theorem Zf9 {o : Oper} {d : Nat} (q : d ∉ o.looksAt ops) : ∀ x ∈ o.op.operands, x ≠ .tmp d := fun x hx he => q (by
 subst he
 unfold Oper.looksAt
 exact List.mem_append_left _ (List.mem_filterMap.2 ⟨.tmp d, by simpa using hx, rfl⟩))
theorem Yl_put {o : Oper} {dst : Option Nat} {v d : D} (q : ∀ t, dst = some t → t ∉ o.looksAt ops) (k : Yl P G o.op e h d) : Yl P G o.op (putE n e dst v) h d := by
 have key : ∀ x ∈ o.op.operands, ev G (putE n e dst v) x = ev G e x := fun x hx => Yj1 fun t ht => Zf9 (q t ht) x hx
 rcases k with k | ⟨x, args, tys, f, cap, e1, e2, e3, e4⟩
 · exact .inl (Zn1 key k)
 · rw [e1] at key
   have h1 : ev G (putE n e dst v) x = ev G e x := key x (by simp [Op.operands, Call.operands])
   have h2 : args.toList.map (ev G (putE n e dst v)) = args.toList.map (ev G e) := Z1 fun y hy => key y (by simp [Op.operands, Call.operands]; exact .inr (by simpa using hy))
   exact .inr ⟨x, args, tys, f, cap, e1, h1.trans e2, e3, by rw [h2]; exact e4⟩
theorem Yl_put' {o : Oper} {dst : Option Nat} {v d : D} (q : ∀ t, dst = some t → t ∉ o.looksAt ops) (k : Yl P G o.op (putE n e dst v) h d) : Yl P G o.op e h d := by
 have key : ∀ x ∈ o.op.operands, ev G e x = ev G (putE n e dst v) x := fun x hx => (Yj1 fun t ht => Zf9 (q t ht) x hx).symm
 rcases k with k | ⟨x, args, tys, f, cap, e1, e2, e3, e4⟩
 · exact .inl (Zn1 key k)
 · rw [e1] at key
   have h1 := key x (by simp [Op.operands, Call.operands])
   have h2 : args.toList.map (ev G e) = args.toList.map (ev G (putE n e dst v)) := Z1 fun y hy => key y (by simp [Op.operands, Call.operands]; exact .inr (by simpa using hy))
   exact .inr ⟨x, args, tys, f, cap, e1, h1.trans e2, e3, by rw [h2]; exact e4⟩
theorem Jy {o : Oper} {dst : Option Nat} {v : D} (q : ∀ t, dst = some t → t ∉ o.looksAt ops) : Yo ops o.guard (putE n e dst v) = Yo ops o.guard e := by
 cases dst with
 | none => rfl
 | some d =>
  unfold Yo
  cases hg : o.guard with
  | none => rfl
  | some g =>
   obtain ⟨j, w⟩ := g
   simp only
   cases ht : (ops[j]?).bind (·.dst) with
   | none => rfl
   | some t =>
    have hne : t ≠ d := fun e => q d rfl (by subst e; simp [Oper.looksAt, hg, ht])
    have : putE n e (some d) v t = e t := by
     unfold putE
     simp only
     split
     · unfold upd; rw [if_neg hne]
     · rfl
    simp only [this]
theorem Zw5 {x y : Option Nat} {v u : D} (q : ∀ d, x = some d → y ≠ some d) : putE n (putE n e x v) y u = putE n (putE n e y u) x v := by
 cases x with
 | none => rfl
 | some a =>
  cases y with
  | none => rfl
  | some b =>
   have hab : a ≠ b := fun h => q a rfl (by rw [h])
   unfold putE
   simp only
   split <;> split <;> first | rfl | skip
   funext t
   unfold upd
   by_cases h1 : t = b
   · rw [if_pos h1, if_neg (by rw [h1]; exact Ne.symm hab), if_pos h1]
   · rw [if_neg h1, if_neg h1]
def aqOp (P : Program) (G : Nat → D) (n : Nat) (ops : Array Oper) (h : List Ob) (i : Nat) (K : (Nat → D) → Prop) (e : Nat → D) : Prop := match ops[i]? with
 | none => K e
 | some o => match Yo ops o.guard e with
  | some true => ∃ d, Yl P G o.op e h d ∧ K (putE n e o.dst d)
  | some false => K (putE n e o.dst (.v undef))
  | none => False
theorem aqOp_mono {i : Nat} {K K' : (Nat → D) → Prop} (k : ∀ e, K e → K' e) (q : aqOp P G n ops h i K e) : aqOp P G n ops h i K' e := by
 unfold aqOp at *
 split
 · rename_i ho; rw [ho] at q; exact k _ q
 · rename_i o ho
   rw [ho] at q
   simp only at q
   split
   · rename_i hw; rw [hw] at q; obtain ⟨d, h1, h2⟩ := q; exact ⟨d, h1, k _ h2⟩
   · rename_i hw; rw [hw] at q; exact k _ q
   · rename_i hw; rw [hw] at q; exact q
def aqAny (P : Program) (G : Nat → D) (n : Nat) (md : Region.Mode) (ops : Array Oper) (h : List Ob) (Q : (Nat → D) → Prop) : Nat → Array Bool → (Nat → D) → Prop
 | 0, listed, e => Region.ready md ops listed = [] ∧ Q e
 | fuel + 1, listed, e => (Region.ready md ops listed = [] → Q e) ∧ ∀ i ∈ Region.ready md ops listed, aqOp P G n ops h i (aqAny P G n md ops h Q fuel (listed.setIfInBounds i true)) e
def YD (P : Program) (G : Nat → D) (ops : Array Oper) (h : List Ob) (o : Oper) (d : D) (e : Nat → D) : Prop := (Yo ops o.guard e = some true ∧ Yl P G o.op e h d) ∨ (Yo ops o.guard e = some false ∧ d = .v undef)
theorem YD.aqOp {i : Nat} {o : Oper} {d : D} (hi : ops[i]? = some o) (hy : YD P G ops h o d e) {K : (Nat → D) → Prop} (k : K (putE n e o.dst d)) : aqOp P G n ops h i K e := by
 unfold Go.Proofs.YtmdjnaobllajmaaGreatDoor.aqOp
 simp only [hi]
 rcases hy with ⟨hw, hv⟩ | ⟨hw, rfl⟩
 · simp only [hw]; exact ⟨d, hv, k⟩
 · simp only [hw]; exact k
theorem YD.put {o : Oper} {dst : Option Nat} {d v : D} (hy : YD P G ops h o d e) (q : ∀ t, dst = some t → t ∉ o.looksAt ops) : YD P G ops h o d (putE n e dst v) := by
 unfold YD
 rw [Jy q]
 exact hy.imp (fun ⟨a, b⟩ => ⟨a, Yl_put q b⟩) id
theorem YD_of {i : Nat} {o : Oper} {K : (Nat → D) → Prop} (hi : ops[i]? = some o) (q : Go.Proofs.YtmdjnaobllajmaaGreatDoor.aqOp P G n ops h i K e) : ∃ d, YD P G ops h o d e ∧ K (putE n e o.dst d) := by
 unfold Go.Proofs.YtmdjnaobllajmaaGreatDoor.aqOp at q
 simp only [hi] at q
 split at q
 · rename_i hw; obtain ⟨d, h1, h2⟩ := q; exact ⟨d, .inl ⟨hw, h1⟩, h2⟩
 · rename_i hw; exact ⟨_, .inr ⟨hw, rfl⟩, q⟩
 · exact q.elim
theorem aqOp_put {j : Nat} {oi oj : Oper} {v : D} (hj : ops[j]? = some oj) (hap : oi.apart ops oj = true) {K : (Nat → D) → Prop} (hy : YD P G ops h oi v e) (q : Go.Proofs.YtmdjnaobllajmaaGreatDoor.aqOp P G n ops h j K (putE n e oi.dst v)) :
 Go.Proofs.YtmdjnaobllajmaaGreatDoor.aqOp P G n ops h j (fun e' => YD P G ops h oi v e' ∧ K (putE n e' oi.dst v)) e := by
 obtain ⟨h1, h2, h3⟩ := Oper.apart_spec hap
 obtain ⟨d, hd, hk⟩ := YD_of hj q
 have hd' : YD P G ops h oj d e := by
  unfold YD at hd ⊢
  rw [Jy h1] at hd
  exact hd.imp (fun ⟨a, b⟩ => ⟨a, Yl_put' h1 b⟩) id
 exact hd'.aqOp hj ⟨hy.put h3, by rw [← Zw5 h2]; exact hk⟩
theorem aqAny_first {Q : (Nat → D) → Prop} {i : Nat} {oi : Oper} {v : D} (hi : ops[i]? = some oi) : ∀ (fuel : Nat) (listed : Array Bool) (e : Nat → D),
 (∀ j oj, ops[j]? = some oj → j ≠ i → listed.getD j true = false → (∀ e ∈ oj.after, Region.binds md e = true → e.on ≠ i) → oi.apart ops oj = true) →
 i ∈ Region.ready md ops listed → YD P G ops h oi v e → aqAny P G n md ops h Q fuel (listed.setIfInBounds i true) (putE n e oi.dst v) → aqAny P G n md ops h Q (fuel + 1) listed e := by
  intro fuel
  induction fuel with
  | zero =>
    intro listed a _ hr hy H
    refine ⟨fun h => (by rw [h] at hr; cases hr), fun j hj => ?_⟩
    by_cases hji : j = i
    · subst hji; exact hy.aqOp hi H
    · have := ready_mono hj hji
      rw [H.1] at this
      cases this
  | succ fuel ih =>
    intro listed a hfree hr hy H
    refine ⟨fun h => (by rw [h] at hr; cases hr), fun j hj => ?_⟩
    by_cases hji : j = i
    · subst hji; exact hy.aqOp hi H
    · have h1 := H.2 j (ready_mono hj hji)
      obtain ⟨hjun, oj, hoj, hall⟩ := mem_ready.1 hj
      have hnot : ∀ e ∈ oj.after, Region.binds md e = true → e.on ≠ i := fun e he hb heq => by
        have h1 := hall e he hb
        have h0 := (mem_ready.1 hr).1
        rw [heq] at h1
        rcases Nat.lt_or_ge i listed.size with h' | h'
        · simp [h'] at h0 h1; rw [h0] at h1; cases h1
        · simp [Array.getElem?_eq_none h'] at h1
      have h2 := aqOp_put hoj (hfree j oj hoj hji hjun hnot) hy h1
      have hfree' : ∀ k ok, ops[k]? = some ok → k ≠ i → (listed.setIfInBounds j true).getD k true = false →
          (∀ e ∈ ok.after, Region.binds md e = true → e.on ≠ i) → oi.apart ops ok = true := fun k ok hk hki hun hno => by
        refine hfree k ok hk hki ?_ hno
        by_cases hjk : j = k
        · subst hjk; exact hjun
        · rw [getD_set_ne true hjk] at hun; exact hun
      refine aqOp_mono (fun a' h3 => ih (listed.setIfInBounds j true) a' hfree' (ready_mono hr (Ne.symm hji)) h3.1 ?_) h2
      rw [Array.setIfInBounds_comm _ _ hji]
      exact h3.2
def aq (P : Program) (G : Nat → D) (n : Nat) (ops : Array Oper) (h : List Ob) (Q : (Nat → D) → Prop) : List Oper → (Nat → D) → Prop
 | [], e => Q e
 | o :: rest, e => ∃ d, YD P G ops h o d e ∧ aq P G n ops h Q rest (putE n e o.dst d)
theorem aqAny_lex {Q : (Nat → D) → Prop} : ∀ (l : List Oper) (k : Nat) (listed : Array Bool) (e : Nat → D), (∀ j, l[j]? = ops[k + j]?) → Region.lexFrom md ops l.length k listed = true → aq P G n ops h Q l e → aqAny P G n md ops h Q l.length listed e
 | [], _, _, _, _, hB, q => ⟨by simpa [Region.lexFrom] using hB, q⟩
 | o :: l, k, listed, e, hl, hB, q => by
    have h0 : ops[k]? = some o := by simpa using (hl 0).symm
    simp only [List.length_cons, Region.lexFrom, Zb] at hB
    obtain ⟨⟨hr, hf⟩, hB'⟩ := hB
    obtain ⟨v, hy, hK⟩ := q
    exact aqAny_first h0 l.length listed e (Region.free_spec h0 hf) (by simpa using hr) hy
      (aqAny_lex l (k + 1) _ _ (fun j => by have := hl (j + 1); simpa [Nat.add_assoc, Nat.add_comm 1 j] using this) hB' hK)
variable {B : Base} {a : Act} {w : World}
theorem Yl_sound {o : Oper} {d : D} {K : Act → World → Prop} {R : Exit → Act → World → Prop} (q : Yl P G o.op e h d) (r : Sit G B ⟨n, e, h⟩ a w) (k : ∀ a' w', Sit G B ⟨n, putE n e o.dst d, h⟩ a' w' → K a' w') : o.wp P a w K R := by
 obtain ⟨hd, p, r⟩ := r
 obtain ⟨dst, op, ty, pos, aft, gd⟩ := o
 have fin : ∀ (s' : S), s' = S.put ⟨n, e, h⟩ dst d → s' = ⟨n, putE n e dst d, h⟩ := fun s' hs => by rw [hs, Za6]
 rcases q with q | ⟨x, args, tys, f, cap, rfl, e2, e3, e4⟩
 · obtain ⟨v, w', hd', h', p', d', hr, ⟨rfl, rfl⟩, o', q', ev'⟩ := Zn0 (dst := dst) (ty := ty) (pos := pos) (aft := aft) (gd := gd) r q
   unfold Oper.wp
   have := r.put o' ev' q' dst
   rw [fin _ rfl] at this
   rcases hr with hr | ⟨hr, rfl⟩
   · rw [hr]; exact k _ _ ⟨hd', p', this⟩
   · rw [hr]; exact k _ _ ⟨hd', p', this⟩
 · have q0 := r.ev x
   rw [e2, rd] at q0
   obtain ⟨cs, e1, q0⟩ := q0
   have hrun : (execOp a.eval ⟨dst, .call ⟨.value x, args, tys⟩, ty, pos, aft, gd⟩).run P w = .ok (.enter f (args.map a.eval ++ cs)) w := by
    simp [execOp, resolve, e1, Deferred.ofValue, invoke, Zk1 e3]
   unfold Oper.wp
   rw [hrun, Oper.upon_enter]
   have hargs : rdL hd h (only p w) (args.toList.map (ev G e) ++ cap) (args.toList.map a.eval ++ cs.toList) := Ww (Zv3 r _) q0
   have := e4 w hd p _ r.ok hargs
   rw [show (args.toList.map a.eval ++ cs.toList).toArray = args.map a.eval ++ cs by apply Array.ext'; simp] at this
   refine this.mono ?_
   rintro e' w' ⟨v, hd', h', d', p', rfl, ⟨rfl, rfl⟩, o, q2, ev'⟩
   have := r.put o ev' q2 dst
   rw [fin _ rfl] at this
   exact k _ _ ⟨hd', p', this⟩
theorem Zb5 {Q : (Nat → D) → Prop} {R : Exit → Act → World → Prop} (k : ∀ e a w, Q e → Sit G B ⟨n, e, h⟩ a w → R .normal a w) : ∀ (fuel : Nat) (listed : Array Bool) (e : Nat → D) (a : Act) (w : World), Sit G B ⟨n, e, h⟩ a w → aqAny P G n md ops h Q fuel listed e → wpAny P md ops R fuel listed a w
 | 0, _, _, _, _, r, q => ⟨q.1, k _ _ _ q.2 r⟩
 | fuel + 1, listed, e, a, w, r, q => ⟨fun h0 => k _ _ _ (q.1 h0) r, fun i hi => by
   have q2 := q.2 i hi
   unfold aqOp at q2
   unfold wpOp
   split
   · rename_i ho; rw [ho] at q2; exact Zb5 k fuel _ _ _ _ r q2
   · rename_i o ho
     rw [ho] at q2
     simp only at q2
     split at q2
     · rename_i hw
       obtain ⟨hd, p, r'⟩ := id r
       have hw' := Xo (o := o) r' hw
       rw [if_pos hw']
       obtain ⟨d, h1, h2⟩ := q2
       exact .inl (Yl_sound h1 r fun a' w' r2 => Zb5 k fuel _ _ _ _ r2 h2)
     · rename_i hw
       obtain ⟨hd, p, r'⟩ := id r
       have hw' := Xo (o := o) r' hw
       rw [if_neg (by rw [hw']; decide)]
       have r3 := r'.put0 (d := .v undef) (v := undef) (by rw [rd]) o.dst
       rw [Za6] at r3
       exact Zb5 k fuel _ _ _ _ ⟨hd, p, r3⟩ q2
     · exact q2.elim⟩
theorem Yb {id : Nat} {l : List Oper} {Q : Exit → S → Prop} (hm : P.follows .mixedOrders = true) (hB : Region.lexB .any l.toArray = true) (H : aq P G n l.toArray h (fun e => Q .normal ⟨n, e, h⟩) l e) : aw P G (.region id l.toArray true) Q ⟨n, e, h⟩ := fun B a w r => by
 obtain ⟨hd, p, r⟩ := r
 have hdr := r.ok.drew
 have r' : Sit G B ⟨n, e, h⟩ a { w with drawn := w.drawn + 1 } := ⟨hd, p, hdr.1, r.evo.trans hdr.2, fun t => hdr.2.rd r.ok (r.tmp t), r.size, r.defers⟩
 simp only [Region.lexB, Zb] at hB
 refine wp_region_any hm (Zb5 (Q := fun e => Q .normal ⟨n, e, h⟩) (fun e a w q r => ⟨_, q, r⟩) _ _ _ _ _ r' ?_)
 have := aqAny_lex (P := P) (G := G) (n := n) (h := h) (md := .any) (ops := l.toArray) (Q := fun e => Q .normal ⟨n, e, h⟩) l 0 (Ze l.toArray.size false) e (by simp) (by simpa using hB.2) H
 simpa using this
section
variable {rest : List Oper} {Q : (Nat → D) → Prop} {t : Nat} {op : Op} {ty : TypeId} {pos : String} {aft : Array Edge} {gd : Option (Nat × Bool)}
theorem Jd (q : Q e) : aq P G n ops h Q [] e := q
theorem aOp_det {K : List Ob → D → Prop} (q : aOp P G e h K op) (k : ∀ h' d, K h' d → h' = h) : ∃ d, aOp P G e h (fun h' d' => h' = h ∧ d' = d) op ∧ K h d := by
 have one : ∀ {x : Option D}, on x (K h) → ∃ d, on x (fun d' => h = h ∧ d' = d) ∧ K h d := fun {x} q => by
  obtain ⟨d, h1, h2⟩ := Xh.1 q
  exact ⟨d, Xh.2 ⟨d, h1, rfl, rfl⟩, h2⟩
 cases op <;> try exact q.elim
 case move x => exact ⟨_, ⟨rfl, rfl⟩, q⟩
 case assign x => exact ⟨_, ⟨rfl, rfl⟩, q⟩
 case pick c x y => obtain ⟨t, h1, h2⟩ := q; exact ⟨_, ⟨t, h1, rfl, rfl⟩, h2⟩
 case binOp => exact one q
 case unOp => exact one q
 case convert t u x =>
  have q : cvA P h t u (ev G e x) K := q
  suffices ∃ d, cvA P h t u (ev G e x) (fun h' d' => h' = h ∧ d' = d) ∧ K h d from this
  unfold cvA at q ⊢
  split at q
  · exact one q
  · rcases q with ⟨q1, q2, q3, q4⟩ | ⟨q1, q2, q4⟩
    · exact ⟨_, .inl ⟨q1, q2, q3, rfl, rfl⟩, q4⟩
    · exact ⟨_, .inr ⟨q1, q2, rfl, rfl⟩, q4⟩
  · obtain ⟨q1, q2, q3⟩ := q
    unfold bstD
    split at q3
    · obtain ⟨bs, q4, q5⟩ := q3; exact ⟨_, ⟨q1, q2, bs, q4, rfl, rfl⟩, q5⟩
    · obtain ⟨a, b, c, q4, q5, q6, q7⟩ := q3; exact ⟨_, ⟨q1, q2, a, b, c, q4, q5, q6, rfl, rfl⟩, q7⟩
    · exact ⟨_, ⟨q1, q2, rfl, rfl⟩, q3⟩
    · exact q3.elim
 case build t parts =>
  obtain ⟨ds, h1, h2⟩ := Xh.1 q
  exact ⟨_, Xh.2 ⟨ds, h1, rfl, rfl⟩, h2⟩
 case buildSlice t len parts =>
  obtain ⟨ds, h1, h2⟩ := Xh.1 q
  exact absurd (congrArg List.length (k _ _ h2)) (by simp)
 case slice t x lo hi mx =>
  cases mx with
  | some m => exact q.elim
  | none =>
   have q : slcA P t (ev G e x) (lo.map (ev G e)) (hi.map (ev G e)) (K h) := q
   suffices ∃ d, slcA P t (ev G e x) (lo.map (ev G e)) (hi.map (ev G e)) (fun d' => h = h ∧ d' = d) ∧ K h d from this
   unfold slcA at q ⊢
   split at q
   · obtain ⟨l, r, a, b, c, d, e, f, g⟩ := q; exact ⟨_, ⟨l, r, a, b, c, d, e, f, rfl, rfl⟩, g⟩
   · obtain ⟨l, r, a, b, c, d, e, f, g⟩ := q; exact ⟨_, ⟨l, r, a, b, c, d, e, f, rfl, rfl⟩, g⟩
   · exact q.elim
 case index t x i =>
  have q : indA P t (ev G e x) (ev G e i) (K h) := q
  suffices ∃ d, indA P t (ev G e x) (ev G e i) (fun d' => h = h ∧ d' = d) ∧ K h d from this
  unfold indA at q ⊢
  split at q
  · rename_i s κ n _ _
    obtain ⟨a, b, c, d⟩ := q
    have hlt : n.toNat < s.data.size := by have : s.data.size = s.size := rfl; omega
    exact ⟨_, ⟨a, b, c, fun b hb => ⟨rfl, by rw [Z9 hlt] at hb; cases hb; rfl⟩⟩, d _ (Z9 hlt)⟩
  · obtain ⟨l, e, z, d, h1, h2, h3, h4, h5, h6⟩ := q; exact ⟨_, ⟨l, e, z, d, h1, h2, h3, h4, h5, rfl, rfl⟩, h6⟩
  · exact q.elim
 case extract => exact one q
 case field => exact one q
 case load => exact one q
 case fieldAddr => exact one q
 case store t x y =>
  obtain ⟨h', h1, h2⟩ := Xh.1 q
  have := k _ _ h2
  subst this
  exact ⟨_, Xh.2 ⟨_, h1, rfl, rfl⟩, h2⟩
 case nilCheck x => exact ⟨_, ⟨q.1, rfl, rfl⟩, q.2⟩
 case box t x =>
  obtain ⟨ds, h1, h2⟩ := Xh.1 q
  exact absurd (congrArg List.length (k _ _ h2)) (by simp)
 case alloc t =>
  obtain ⟨ds, h1, h2⟩ := Xh.1 q
  exact absurd (congrArg List.length (k _ _ h2)) (by simp)
 case indexAddr t x i =>
  have q : idxA P h t (ev G e x) (ev G e i) (K h) := q
  suffices ∃ d, idxA P h t (ev G e x) (ev G e i) (fun d' => h = h ∧ d' = d) ∧ K h d from this
  unfold idxA at q ⊢
  generalize ev G e x = X at q ⊢
  generalize ev G e i = I at q ⊢
  cases I <;> try exact q.elim
  case v I =>
  cases I <;> try exact q.elim
  case int κ m =>
  cases X <;> try exact q.elim
  case sl kk xs =>
   obtain ⟨h1, h2, h3, h4⟩ := q
   have hr : xs[m.toNat]? = some (xs[m.toNat]'(by omega)) := List.getElem?_eq_getElem (by omega)
   exact ⟨_, ⟨h1, h2, h3, fun row hrow => ⟨rfl, by rw [hr] at hrow; cases hrow; rfl⟩⟩, h4 _ hr⟩
  case buf i' n' => obtain ⟨a, b, c, h1, h2, h3, h4, h5, h6⟩ := q; exact ⟨_, ⟨a, b, c, h1, h2, h3, h4, h5, rfl, rfl⟩, h6⟩
  case win i' n' a' b' => obtain ⟨a, b, c, h1, h2, h3, h4, h5, h6⟩ := q; exact ⟨_, ⟨a, b, c, h1, h2, h3, h4, h5, rfl, rfl⟩, h6⟩
  case ptr i' n' => obtain ⟨a, b, c, h1, h2, h3, h4, h5⟩ := q; exact ⟨_, ⟨a, b, c, h1, h2, h3, h4, rfl, rfl⟩, h5⟩
  case rp ds => obtain ⟨a, b, c, h1, h2, h3, h4, h5⟩ := q; exact ⟨_, ⟨a, b, c, h1, h2, h3, h4, rfl, rfl⟩, h5⟩
 case call c =>
  obtain ⟨cal, args, tys⟩ := c
  cases cal with
  | builtin b =>
   have q : biA P h b tys.toList (args.toList.map (ev G e)) K := q
   suffices ∃ d, biA P h b tys.toList (args.toList.map (ev G e)) (fun h' d' => h' = h ∧ d' = d) ∧ K h d from this
   unfold biA at q ⊢
   split at q
   · exact one q
   · obtain ⟨a, b, c, ys, h1, h2, h3, h4⟩ := q
     split at h4
     · rename_i i' n' _
       obtain ⟨xs, g1, g2, g3, g4⟩ := h4
       exact ⟨_, ⟨a, b, c, ys, h1, h2, h3, xs, g1, g2, g3, k _ _ g4, rfl⟩, by rw [← k _ _ g4]; exact (k _ _ g4).symm ▸ g4⟩
     · exact absurd (congrArg List.length (k _ _ h4.2)) (by simp)
     · exact h4.elim
   · exact q.elim
  | _ => exact q.elim
theorem aq1 (hw : Yo ops gd e = some true) (ht : decide (t < n) = true) (H : ∀ K : List Ob → D → Prop, (∀ h' d, h' = h → aq P G n ops h Q rest (upd e t d) → K h' d) → aOp P G e h K op) : aq P G n ops h Q (⟨some t, op, ty, pos, aft, gd⟩ :: rest) e := by
 obtain ⟨d, h1, _, h2⟩ := aOp_det (H (fun h' d => h' = h ∧ aq P G n ops h Q rest (upd e t d)) fun h' d q1 q2 => ⟨q1, q2⟩) fun h' d q => q.1
 exact ⟨d, .inl ⟨hw, .inl h1⟩, by unfold putE; simp only [if_pos (of_decide_eq_true ht)]; exact h2⟩
theorem aq0 (hw : Yo ops gd e = some false) (ht : decide (t < n) = true) (k : aq P G n ops h Q rest (upd e t (.v undef))) : aq P G n ops h Q (⟨some t, op, ty, pos, aft, gd⟩ :: rest) e :=
 ⟨.v undef, .inr ⟨hw, rfl⟩, by unfold putE; simp only [if_pos (of_decide_eq_true ht)]; exact k⟩
theorem aq2 {x : Operand} {args : Array Operand} {tys : Array TypeId} {f : FuncId} {cap : List D} {d : D} (hw : Yo ops gd e = some true) (ht : decide (t < n) = true) (hx : ev G e x = .fn f cap) (he : entB P f = true)
 (hc : Does P G f h (args.toList.map (ev G e) ++ cap) (fun h' r => h' = h ∧ r = d)) (k : aq P G n ops h Q rest (upd e t d)) : aq P G n ops h Q (⟨some t, .call ⟨.value x, args, tys⟩, ty, pos, aft, gd⟩ :: rest) e :=
 ⟨d, .inl ⟨hw, .inr ⟨x, args, tys, f, cap, rfl, hx, he, hc⟩⟩, by unfold putE; simp only [if_pos (of_decide_eq_true ht)]; exact k⟩
end
end
section
@[go_sem] theorem aggT_2 : aggT Z0 2 = some false := by kernel_rfl
@[go_sem] theorem aggT_3 : aggT Z0 3 = some false := by kernel_rfl
@[go_sem] theorem aggT_4 : aggT Z0 4 = some false := by kernel_rfl
@[go_sem] theorem aggT_5 : aggT Z0 5 = some false := by kernel_rfl
@[go_sem] theorem aggT_9 : aggT Z0 9 = some false := by kernel_rfl
@[go_sem] theorem aggT_22 : aggT Z0 22 = some false := by kernel_rfl
@[go_sem] theorem aggT_23 : aggT Z0 23 = some false := by kernel_rfl
@[go_sem] theorem aggT_24 : aggT Z0 24 = some false := by kernel_rfl
@[go_sem] theorem aggT_26 : aggT Z0 26 = some true := by kernel_rfl
@[go_sem] theorem aggT_27 : aggT Z0 27 = some false := by kernel_rfl
@[go_sem] theorem aggT_28 : aggT Z0 28 = some false := by kernel_rfl
@[go_sem] theorem aggT_30 : aggT Z0 30 = some true := by kernel_rfl
@[go_sem] theorem aggT_34 : aggT Z0 34 = some false := by kernel_rfl
@[go_sem] theorem aggT_41 : aggT Z0 41 = some false := by kernel_rfl
@[go_sem] theorem aggT_43 : aggT Z0 43 = some true := by kernel_rfl
@[go_sem] theorem aggT_46 : aggT Z0 46 = some false := by kernel_rfl
@[go_sem] theorem aggT_99 : aggT Z0 99 = some true := by kernel_rfl
@[go_sem] theorem aggT_131 : aggT Z0 131 = some true := by kernel_rfl
@[go_sem] theorem allSz_26 : Ya4 Z0 26 = true := by kernel_rfl
@[go_sem] theorem allSz_30 : Ya4 Z0 30 = true := by kernel_rfl
@[go_sem] theorem allSz_43 : Ya4 Z0 43 = true := by kernel_rfl
@[go_sem] theorem allSz_80 : Ya4 Z0 80 = true := by kernel_rfl
@[go_sem] theorem allSz_87 : Ya4 Z0 87 = true := by kernel_rfl
@[go_sem] theorem allSz_99 : Ya4 Z0 99 = true := by kernel_rfl
@[go_sem] theorem allSz_112 : Ya4 Z0 112 = true := by kernel_rfl
@[go_sem] theorem apT_22 : apT Z0 22 = some (9, 1, 16) := by kernel_rfl
@[go_sem] theorem apT_23 : apT Z0 23 = some (26, 6, 96) := by kernel_rfl
@[go_sem] theorem apT_27 : apT Z0 27 = some (30, 4, 80) := by kernel_rfl
@[go_sem] theorem apT_28 : apT Z0 28 = some (43, 2, 40) := by kernel_rfl
@[go_sem] theorem apT_41 : apT Z0 41 = some (99, 2, 16) := by kernel_rfl
@[go_sem] theorem apT_46 : apT Z0 46 = some (5, 1, 1) := by kernel_rfl
@[go_sem] theorem apT_94 : apT Z0 94 = some (3, 1, 8) := by kernel_rfl
@[go_sem] theorem apT_149 : apT Z0 149 = some (34, 1, 8) := by kernel_rfl
@[go_sem] theorem apT_164 : apT Z0 164 = some (2, 1, 8) := by kernel_rfl
@[go_sem] theorem byT_46 : byT Z0 46 = true := by kernel_rfl
@[go_sem] theorem elT_22 : elT Z0 22 = some 9 := by kernel_rfl
@[go_sem] theorem elT_23 : elT Z0 23 = some 26 := by kernel_rfl
@[go_sem] theorem elT_24 : elT Z0 24 = some 131 := by kernel_rfl
@[go_sem] theorem elT_27 : elT Z0 27 = some 30 := by kernel_rfl
@[go_sem] theorem elT_28 : elT Z0 28 = some 43 := by kernel_rfl
@[go_sem] theorem elT_41 : elT Z0 41 = some 99 := by kernel_rfl
@[go_sem] theorem elT_46 : elT Z0 46 = some 5 := by kernel_rfl
@[go_sem] theorem elT_94 : elT Z0 94 = some 3 := by kernel_rfl
@[go_sem] theorem elT_149 : elT Z0 149 = some 34 := by kernel_rfl
@[go_sem] theorem elT_164 : elT Z0 164 = some 2 := by kernel_rfl
@[go_sem] theorem fldT_26_0 : fldT Z0 26 0 = some (0, 3) := by kernel_rfl
@[go_sem] theorem fldT_26_1 : fldT Z0 26 1 = some (1, 2) := by kernel_rfl
@[go_sem] theorem fldT_26_2 : fldT Z0 26 2 = some (2, 2) := by kernel_rfl
@[go_sem] theorem fldT_26_3 : fldT Z0 26 3 = some (3, 22) := by kernel_rfl
@[go_sem] theorem fldT_26_4 : fldT Z0 26 4 = some (4, 23) := by kernel_rfl
@[go_sem] theorem fldT_26_5 : fldT Z0 26 5 = some (5, 24) := by kernel_rfl
@[go_sem] theorem fldT_30_0 : fldT Z0 30 0 = some (0, 2) := by kernel_rfl
@[go_sem] theorem fldT_30_1 : fldT Z0 30 1 = some (1, 22) := by kernel_rfl
@[go_sem] theorem fldT_30_2 : fldT Z0 30 2 = some (2, 27) := by kernel_rfl
@[go_sem] theorem fldT_30_3 : fldT Z0 30 3 = some (3, 28) := by kernel_rfl
@[go_sem] theorem fldT_43_0 : fldT Z0 43 0 = some (0, 41) := by kernel_rfl
@[go_sem] theorem fldT_43_1 : fldT Z0 43 1 = some (1, 9) := by kernel_rfl
@[go_sem] theorem fldT_69_0 : fldT Z0 69 0 = some (0, 46) := by kernel_rfl
@[go_sem] theorem fldT_80_0 : fldT Z0 80 0 = some (0, 46) := by kernel_rfl
@[go_sem] theorem fldT_80_1 : fldT Z0 80 1 = some (1, 3) := by kernel_rfl
@[go_sem] theorem fldT_80_2 : fldT Z0 80 2 = some (2, 3) := by kernel_rfl
@[go_sem] theorem fldT_80_3 : fldT Z0 80 3 = some (3, 4) := by kernel_rfl
@[go_sem] theorem fldT_87_0 : fldT Z0 87 0 = some (0, 3) := by kernel_rfl
@[go_sem] theorem fldT_99_0 : fldT Z0 99 0 = some (0, 3) := by kernel_rfl
@[go_sem] theorem fldT_99_1 : fldT Z0 99 1 = some (1, 2) := by kernel_rfl
@[go_sem] theorem fldT_112_0 : fldT Z0 112 0 = some (0, 46) := by kernel_rfl
@[go_sem] theorem fldT_112_1 : fldT Z0 112 1 = some (1, 3) := by kernel_rfl
@[go_sem] theorem fldT_112_2 : fldT Z0 112 2 = some (2, 3) := by kernel_rfl
@[go_sem] theorem fldT_112_3 : fldT Z0 112 3 = some (3, 34) := by kernel_rfl
@[go_sem] theorem fldT_131_0 : fldT Z0 131 0 = some (0, 22) := by kernel_rfl
@[go_sem] theorem fldT_131_1 : fldT Z0 131 1 = some (1, 9) := by kernel_rfl
@[go_sem] theorem intT_2 : intT Z0 2 = some IntKind.i64 := by kernel_rfl
@[go_sem] theorem intT_3 : intT Z0 3 = some IntKind.i64 := by kernel_rfl
@[go_sem] theorem intT_5 : intT Z0 5 = some IntKind.u8 := by kernel_rfl
@[go_sem] theorem intT_105 : intT Z0 105 = some IntKind.u64 := by kernel_rfl
@[go_sem] theorem intT_135 : intT Z0 135 = some IntKind.u64 := by kernel_rfl
@[go_sem] theorem nzT_2 : nzT Z0 2 = true := by kernel_rfl
@[go_sem] theorem nzT_3 : nzT Z0 3 = true := by kernel_rfl
@[go_sem] theorem nzT_4 : nzT Z0 4 = true := by kernel_rfl
@[go_sem] theorem nzT_9 : nzT Z0 9 = true := by kernel_rfl
@[go_sem] theorem nzT_22 : nzT Z0 22 = true := by kernel_rfl
@[go_sem] theorem nzT_23 : nzT Z0 23 = true := by kernel_rfl
@[go_sem] theorem nzT_24 : nzT Z0 24 = true := by kernel_rfl
@[go_sem] theorem nzT_27 : nzT Z0 27 = true := by kernel_rfl
@[go_sem] theorem nzT_28 : nzT Z0 28 = true := by kernel_rfl
@[go_sem] theorem nzT_34 : nzT Z0 34 = true := by kernel_rfl
@[go_sem] theorem nzT_41 : nzT Z0 41 = true := by kernel_rfl
@[go_sem] theorem nzT_46 : nzT Z0 46 = true := by kernel_rfl
@[go_sem] theorem plT_26_0 : plT Z0 26 0 = some (0, 1) := by kernel_rfl
@[go_sem] theorem plT_26_2 : plT Z0 26 2 = some (2, 1) := by kernel_rfl
@[go_sem] theorem plT_26_3 : plT Z0 26 3 = some (3, 1) := by kernel_rfl
@[go_sem] theorem plT_26_4 : plT Z0 26 4 = some (4, 1) := by kernel_rfl
@[go_sem] theorem plT_30_0 : plT Z0 30 0 = some (0, 1) := by kernel_rfl
@[go_sem] theorem plT_30_1 : plT Z0 30 1 = some (1, 1) := by kernel_rfl
@[go_sem] theorem plT_30_2 : plT Z0 30 2 = some (2, 1) := by kernel_rfl
@[go_sem] theorem plT_80_0 : plT Z0 80 0 = some (0, 1) := by kernel_rfl
@[go_sem] theorem plT_99_0 : plT Z0 99 0 = some (0, 1) := by kernel_rfl
@[go_sem] theorem plT_99_1 : plT Z0 99 1 = some (1, 1) := by kernel_rfl
@[go_sem] theorem plT_112_0 : plT Z0 112 0 = some (0, 1) := by kernel_rfl
@[go_sem] theorem slT_22 : slT Z0 22 = true := by kernel_rfl
@[go_sem] theorem slT_23 : slT Z0 23 = true := by kernel_rfl
@[go_sem] theorem slT_24 : slT Z0 24 = true := by kernel_rfl
@[go_sem] theorem slT_27 : slT Z0 27 = true := by kernel_rfl
@[go_sem] theorem slT_28 : slT Z0 28 = true := by kernel_rfl
@[go_sem] theorem slT_41 : slT Z0 41 = true := by kernel_rfl
@[go_sem] theorem slT_46 : slT Z0 46 = true := by kernel_rfl
@[go_sem] theorem slT_94 : slT Z0 94 = true := by kernel_rfl
@[go_sem] theorem slT_149 : slT Z0 149 = true := by kernel_rfl
@[go_sem] theorem slT_164 : slT Z0 164 = true := by kernel_rfl
@[go_sem] theorem strT_9 : strT Z0 9 = true := by kernel_rfl
@[go_sem] theorem szT_2 : szT Z0 2 = some 1 := by kernel_rfl
@[go_sem] theorem szT_3 : szT Z0 3 = some 1 := by kernel_rfl
@[go_sem] theorem szT_4 : szT Z0 4 = some 1 := by kernel_rfl
@[go_sem] theorem szT_5 : szT Z0 5 = some 1 := by kernel_rfl
@[go_sem] theorem szT_9 : szT Z0 9 = some 1 := by kernel_rfl
@[go_sem] theorem szT_22 : szT Z0 22 = some 1 := by kernel_rfl
@[go_sem] theorem szT_23 : szT Z0 23 = some 1 := by kernel_rfl
@[go_sem] theorem szT_24 : szT Z0 24 = some 1 := by kernel_rfl
@[go_sem] theorem szT_26 : szT Z0 26 = some 6 := by kernel_rfl
@[go_sem] theorem szT_27 : szT Z0 27 = some 1 := by kernel_rfl
@[go_sem] theorem szT_28 : szT Z0 28 = some 1 := by kernel_rfl
@[go_sem] theorem szT_30 : szT Z0 30 = some 4 := by kernel_rfl
@[go_sem] theorem szT_34 : szT Z0 34 = some 1 := by kernel_rfl
@[go_sem] theorem szT_41 : szT Z0 41 = some 1 := by kernel_rfl
@[go_sem] theorem szT_43 : szT Z0 43 = some 2 := by kernel_rfl
@[go_sem] theorem szT_46 : szT Z0 46 = some 1 := by kernel_rfl
@[go_sem] theorem szT_87 : szT Z0 87 = some 1 := by kernel_rfl
@[go_sem] theorem szT_99 : szT Z0 99 = some 2 := by kernel_rfl
@[go_sem] theorem szT_131 : szT Z0 131 = some 2 := by kernel_rfl
@[go_sem] theorem zeroD_26 : Ur Z0 26 = some [D.v (Value.int IntKind.i64 (0)), D.v (Value.int IntKind.i64 (0)), D.v (Value.int IntKind.i64 (0)), D.v (Value.slice none 0 0), D.v (Value.slice none 0 0), D.v (Value.slice none 0 0)] := by kernel_rfl
@[go_sem] theorem zeroD_30 : Ur Z0 30 = some [D.v (Value.int IntKind.i64 (0)), D.v (Value.slice none 0 0), D.v (Value.slice none 0 0), D.v (Value.slice none 0 0)] := by kernel_rfl
@[go_sem] theorem zeroD_43 : Ur Z0 43 = some [D.v (Value.slice none 0 0), D.v (Value.string { data := { toList := [] } })] := by kernel_rfl
@[go_sem] theorem zeroD_69 : Ur Z0 69 = some [D.v (Value.slice none 0 0)] := by kernel_rfl
@[go_sem] theorem zeroD_80 : Ur Z0 80 = some [D.v (Value.slice none 0 0), D.v (Value.int IntKind.i64 (0)), D.v (Value.int IntKind.i64 (0)), D.v (Value.bool false)] := by kernel_rfl
@[go_sem] theorem zeroD_87 : Ur Z0 87 = some [D.v (Value.int IntKind.i64 (0))] := by kernel_rfl
@[go_sem] theorem zeroD_99 : Ur Z0 99 = some [D.v (Value.int IntKind.i64 (0)), D.v (Value.int IntKind.i64 (0))] := by kernel_rfl
@[go_sem] theorem zeroD_112 : Ur Z0 112 = some [D.v (Value.slice none 0 0), D.v (Value.int IntKind.i64 (0)), D.v (Value.int IntKind.i64 (0)), D.v (Value.int IntKind.i64 (0))] := by kernel_rfl
@[go_sem] theorem zeroD_131 : Ur Z0 131 = some [D.v (Value.slice none 0 0), D.v (Value.string { data := { toList := [] } })] := by kernel_rfl
theorem ent_3 : entB Z0 3 = true := by kernel_rfl
theorem ent_14 : entB Z0 14 = true := by kernel_rfl
theorem ent_15 : entB Z0 15 = true := by kernel_rfl
theorem ent_19 : entB Z0 19 = true := by kernel_rfl
theorem ent_20 : entB Z0 20 = true := by kernel_rfl
theorem ent_21 : entB Z0 21 = true := by kernel_rfl
theorem ent_22 : entB Z0 22 = true := by kernel_rfl
theorem ent_24 : entB Z0 24 = true := by kernel_rfl
theorem ent_26 : entB Z0 26 = true := by kernel_rfl
theorem ent_27 : entB Z0 27 = true := by kernel_rfl
theorem ent_28 : entB Z0 28 = true := by kernel_rfl
theorem ent_31 : entB Z0 31 = true := by kernel_rfl
theorem Zy7 : entB Z0 36 = true := by kernel_rfl
theorem Zm5 : entB Z0 37 = true := by kernel_rfl
theorem Zy6 : entB Z0 38 = true := by kernel_rfl
theorem ent_41 : entB Z0 41 = true := by kernel_rfl
theorem ent_42 : entB Z0 42 = true := by kernel_rfl
theorem ent_43 : entB Z0 43 = true := by kernel_rfl
theorem ent_44 : entB Z0 44 = true := by kernel_rfl
theorem ent_45 : entB Z0 45 = true := by kernel_rfl
theorem ent_46 : entB Z0 46 = true := by kernel_rfl
theorem Yd2 : entB Z0 47 = true := by kernel_rfl
theorem ent_48 : entB Z0 48 = true := by kernel_rfl
theorem ent_49 : entB Z0 49 = true := by kernel_rfl
theorem ent_50 : entB Z0 50 = true := by kernel_rfl
theorem ent_51 : entB Z0 51 = true := by kernel_rfl
theorem ent_53 : entB Z0 53 = true := by kernel_rfl
theorem ent_54 : entB Z0 54 = true := by kernel_rfl
theorem ent_55 : entB Z0 55 = true := by kernel_rfl
theorem Zy5 : entB Z0 56 = true := by kernel_rfl
theorem ent_57 : entB Z0 57 = true := by kernel_rfl
theorem ent_60 : entB Z0 60 = true := by kernel_rfl
theorem ent_61 : entB Z0 61 = true := by kernel_rfl
theorem ent_62 : entB Z0 62 = true := by kernel_rfl
theorem ent_63 : entB Z0 63 = true := by kernel_rfl
theorem Zc0 : entB Z0 64 = true := by kernel_rfl
theorem ent_65 : entB Z0 65 = true := by kernel_rfl
theorem ent_66 : entB Z0 66 = true := by kernel_rfl
theorem ent_67 : entB Z0 67 = true := by kernel_rfl
theorem Zy4 : entB Z0 68 = true := by kernel_rfl
theorem ent_69 : entB Z0 69 = true := by kernel_rfl
theorem ent_70 : entB Z0 70 = true := by kernel_rfl
theorem ent_74 : entB Z0 74 = true := by kernel_rfl
theorem ent_75 : entB Z0 75 = true := by kernel_rfl
theorem ent_76 : entB Z0 76 = true := by kernel_rfl
theorem ent_77 : entB Z0 77 = true := by kernel_rfl
theorem ent_78 : entB Z0 78 = true := by kernel_rfl
theorem ent_79 : entB Z0 79 = true := by kernel_rfl
theorem ent_80 : entB Z0 80 = true := by kernel_rfl
theorem ent_81 : entB Z0 81 = true := by kernel_rfl
theorem Zd7 : entB Z0 82 = true := by kernel_rfl
theorem ent_83 : entB Z0 83 = true := by kernel_rfl
theorem ent_88 : entB Z0 88 = true := by kernel_rfl
theorem ent_89 : entB Z0 89 = true := by kernel_rfl
theorem ent_90 : entB Z0 90 = true := by kernel_rfl
theorem Zq3 : entB Z0 91 = true := by kernel_rfl
theorem ent_92 : entB Z0 92 = true := by kernel_rfl
theorem ent_93 : entB Z0 93 = true := by kernel_rfl
theorem ent_94 : entB Z0 94 = true := by kernel_rfl
theorem ent_95 : entB Z0 95 = true := by kernel_rfl
theorem ent_96 : entB Z0 96 = true := by kernel_rfl
theorem ent_97 : entB Z0 97 = true := by kernel_rfl
theorem Zy3 : entB Z0 98 = true := by kernel_rfl
theorem Yd1 : entB Z0 99 = true := by kernel_rfl
theorem ent_106 : entB Z0 106 = true := by kernel_rfl
theorem ent_107 : entB Z0 107 = true := by kernel_rfl
theorem ent_108 : entB Z0 108 = true := by kernel_rfl
theorem ent_109 : entB Z0 109 = true := by kernel_rfl
theorem ent_110 : entB Z0 110 = true := by kernel_rfl
theorem ent_111 : entB Z0 111 = true := by kernel_rfl
theorem ent_112 : entB Z0 112 = true := by kernel_rfl
theorem Ze1 : entB Z0 113 = true := by kernel_rfl
theorem Uk : entB Z0 114 = true := by kernel_rfl
theorem Ze0 : entB Z0 115 = true := by kernel_rfl
theorem Zo7 : entB Z0 116 = true := by kernel_rfl
theorem Uj : entB Z0 117 = true := by kernel_rfl
theorem ent_118 : entB Z0 118 = true := by kernel_rfl
theorem Zd9 : entB Z0 119 = true := by kernel_rfl
theorem Zi3 : entB Z0 120 = true := by kernel_rfl
theorem ent_121 : entB Z0 121 = true := by kernel_rfl
theorem Zb2 : entB Z0 122 = true := by kernel_rfl
theorem Yj5 : entB Z0 123 = true := by kernel_rfl
theorem ent_124 : entB Z0 124 = true := by kernel_rfl
theorem ent_127 : entB Z0 127 = true := by kernel_rfl
theorem ent_128 : entB Z0 128 = true := by kernel_rfl
theorem ent_129 : entB Z0 129 = true := by kernel_rfl
theorem U5 : entB Z0 130 = true := by kernel_rfl
theorem ent_131 : entB Z0 131 = true := by kernel_rfl
theorem Zi2 : entB Z0 132 = true := by kernel_rfl
theorem ent_133 : entB Z0 133 = true := by kernel_rfl
theorem ent_134 : entB Z0 134 = true := by kernel_rfl
theorem ent_135 : entB Z0 135 = true := by kernel_rfl
theorem Zi1 : entB Z0 136 = true := by kernel_rfl
theorem ent_137 : entB Z0 137 = true := by kernel_rfl
theorem ent_138 : entB Z0 138 = true := by kernel_rfl
theorem ent_144 : entB Z0 144 = true := by kernel_rfl
theorem Yj4 : entB Z0 146 = true := by kernel_rfl
theorem ent_147 : entB Z0 147 = true := by kernel_rfl
theorem Yj3 : entB Z0 148 = true := by kernel_rfl
theorem Zy9 : entB Z0 149 = true := by kernel_rfl
theorem ent_150 : entB Z0 150 = true := by kernel_rfl
theorem Yj2 : entB Z0 151 = true := by kernel_rfl
theorem ent_152 : entB Z0 152 = true := by kernel_rfl
theorem ent_153 : entB Z0 153 = true := by kernel_rfl
theorem ent_154 : entB Z0 154 = true := by kernel_rfl
theorem ent_155 : entB Z0 155 = true := by kernel_rfl
theorem ent_156 : entB Z0 156 = true := by kernel_rfl
theorem ent_159 : entB Z0 159 = true := by kernel_rfl
theorem Zd8 : entB Z0 166 = true := by kernel_rfl
theorem Zo6 : entB Z0 167 = true := by kernel_rfl
theorem Zy8 : entB Z0 168 = true := by kernel_rfl
theorem ent_169 : entB Z0 169 = true := by kernel_rfl
theorem ent_170 : entB Z0 170 = true := by kernel_rfl
theorem ent_171 : entB Z0 171 = true := by kernel_rfl
theorem ent_172 : entB Z0 172 = true := by kernel_rfl
theorem ent_180 : entB Z0 180 = true := by kernel_rfl
theorem mixd : Z0.follows .mixedOrders = true := by kernel_rfl
end
end Go.Proofs.YtmdjnaobllajmaaGreatDoor
