/-
  What the statements of the chapter share, part 03: D3, D4.
-/
import Derived.Test.YtbhkcbidcfofiaaGreatY02
import Derived.LoopN
import Derived.Scope
set_option linter.unusedVariables false
set_option linter.unusedSimpArgs false
set_option maxRecDepth 100000
set_option maxHeartbeats 8000000
namespace Go.Proofs.YtbhkcbidcfofiaaGreat
open _root_.List renaming getElem?_eq_some_iff → Z0, getElem?_eq_getElem → Z1
open Go.RowKit
section
structure S where
 n : Nat
 env : Nat → D
 h : List Ob
def upd (e : Nat → D) (t : Nat) (d : D) : Nat → D := fun x => if x = t then d else e x
def S.put (s : S) (dst : Option Nat) (d : D) : S := match dst with
 | some t => if t < s.n then { s with env := upd s.env t d } else s
 | none => s
def ev (G : Nat → D) (e : Nat → D) : Operand → D
 | .tmp t => e t
 | .const v => .v v
 | .global g => G g
 | .func f => .fn f []
structure Base where
 w : World
 hd : List Value
 h : List Ob
 p : Nat → Bool
structure Sat (G : Nat → D) (B : Base) (s : S) (a : Act) (w : World) (hd : List Value) (p : Nat → Bool) : Prop where
 ok : Ok G w hd s.h p
 evo : Evo B.w B.hd B.h B.p w hd s.h p
 tmp : ∀ t, rd hd s.h (only p w) (s.env t) (a.tmps.getD t undef)
 size : a.tmps.size = s.n
 defers : a.defers = []
def Sit (G : Nat → D) (B : Base) (s : S) (a : Act) (w : World) : Prop := ∃ hd p, Sat G B s a w hd p
variable {P : Program} {G : Nat → D} {B : Base} {s : S} {a : Act} {w : World} {hd : List Value} {p : Nat → Bool}
theorem Sat.ev (r : Sat G B s a w hd p) (x : Operand) : rd hd s.h (only p w) (ev G s.env x) (a.eval x) := by
 cases x with
 | tmp t => exact r.tmp t
 | const v => show rd _ _ _ (.v v) v; rw [rd]
 | global g => exact r.ok.gl g
 | func f => show rd _ _ _ (.fn f []) (.func (.func f) #[] #[]); rw [rd]; exact ⟨#[], rfl, by rw [rdL]⟩
theorem Sat.put (r : Sat G B s a w hd p) {w' : World} {hd' : List Value} {h' : List Ob} {p' : Nat → Bool} (o : Ok G w' hd' h' p') (e : Evo w hd s.h p w' hd' h' p') {d : D} {v : Value} (q : rd hd' h' (only p' w') d v) (dst : Option Nat) :
 Sat G B (({ s with h := h' } : S).put dst d) (a.put dst v) w' hd' p' := by
 cases dst with
 | none => exact ⟨o, r.evo.trans e, fun t => e.rd r.ok (r.tmp t), r.size, r.defers⟩
 | some t =>
  unfold S.put Act.put
  simp only
  split
  · rename_i ht
    refine ⟨o, r.evo.trans e, fun t' => ?_, by simp [r.size], r.defers⟩
    show rd _ _ _ (upd s.env t d t') _
    unfold upd
    by_cases h : t' = t
    · subst h
      rw [if_pos rfl]
      have : t' < a.tmps.size := by rw [r.size]; exact ht
      simpa [this] using q
    · rw [if_neg h]
      have : (a.tmps.setIfInBounds t v).getD t' undef = a.tmps.getD t' undef := by
       simp only [Array.getD_eq_getD_getElem?, Array.getElem?_setIfInBounds, if_neg (Ne.symm h)]
      rw [this]
      exact e.rd r.ok (r.tmp t')
  · rename_i ht
    have : a.tmps.setIfInBounds t v = a.tmps := Array.setIfInBounds_eq_of_size_le (by rw [r.size]; omega)
    rw [this]
    exact ⟨o, r.evo.trans e, fun t => e.rd r.ok (r.tmp t), r.size, r.defers⟩
theorem Sat.put0 (r : Sat G B s a w hd p) {d : D} {v : Value} (q : rd hd s.h (only p w) d v) (dst : Option Nat) : Sat G B (s.put dst d) (a.put dst v) w hd p := r.put r.ok (.refl _ _ _ _) q dst
def aw (P : Program) (G : Nat → D) (c : Code) (Q : Exit → S → Prop) (s : S) : Prop := ∀ B a w, Sit G B s a w → c.wp P (fun e a' w' => ∃ s', Q e s' ∧ Sit G B s' a' w') a w
def ao (P : Program) (G : Nat → D) (ops : Array Oper) (l : List Oper) (Q : S → Prop) (s : S) : Prop := ∀ B a w, Sit G B s a w → ∀ R : Exit → Act → World → Prop, (∀ s' a' w', Q s' → Sit G B s' a' w' → R .normal a' w') → wpList P ops R l a w
section
variable {Q : Exit → S → Prop}
theorem aw_mono {c : Code} {Q' : Exit → S → Prop} (h : aw P G c Q s) (k : ∀ e s, Q e s → Q' e s) : aw P G c Q' s := fun B a w r => wp_mono (h B a w r) fun _ _ _ ⟨s', q, r'⟩ => ⟨s', k _ _ q, r'⟩
theorem Xi (h : Q .normal s) : aw P G .skip Q s := fun _ _ _ r => wp_skip ⟨s, h, r⟩
theorem W4 {id : Nat} (h : Q (.exit id) s) : aw P G (.exit id) Q s := fun _ _ _ r => wp_exit ⟨s, h, r⟩
theorem Xl (h : Q .ret s) : aw P G .ret Q s := fun _ _ _ r => wp_ret ⟨s, h, r⟩
def Zr8 (K : S → Prop) (Q : Exit → S → Prop) : Exit → S → Prop
 | .normal, s => K s
 | e, s => Q e s
theorem aw_seq {x y : Code} (h : ∀ K : S → Prop, (∀ s, aw P G y Q s → K s) → aw P G x (Zr8 K Q) s) : aw P G (.seq x y) Q s := fun B a w r =>
 wp_seq (wp_mono (h (aw P G y Q) (fun _ h => h) B a w r) fun e a' w' ⟨s', q, r'⟩ => by
  cases e <;> first | exact q B a' w' r' | exact ⟨s', q, r'⟩)
theorem aw_cond {c : Operand} {x y : Code} (t : Bool) (hc : ev G s.env c = .v (.bool t)) (h1 : t = true → aw P G x Q s) (h2 : t = false → aw P G y Q s) : aw P G (.cond c x y) Q s := fun B a w r => by
 obtain ⟨hd, p, r0⟩ := id r
 have := r0.ev c
 rw [hc, rd] at this
 exact wp_cond_split this (fun ht => h1 ht B a w r) fun ht => h2 ht B a w r
def J5 (id : Nat) (Q : Exit → S → Prop) : Exit → S → Prop
 | .exit id', s => if id' = id then Q .normal s else Q (.exit id') s
 | e, s => Q e s
theorem Yy {id : Nat} {c : Code} (h : aw P G c (J5 id Q) s) : aw P G (.block id c) Q s := fun B a w r =>
 wp_block (wp_mono (h B a w r) fun e a' w' ⟨s', q, r'⟩ => by
  cases e with
  | exit id' =>
   have q2 : if id' = id then Q .normal s' else Q (.exit id') s' := q
   simp only [Exit.inBlock]
   split
   · rename_i h; rw [if_pos h] at q2; exact ⟨s', q2, r'⟩
   · rename_i h; rw [if_neg h] at q2; exact ⟨s', q2, r'⟩
  | _ => exact ⟨s', q, r'⟩)
def noGotoS (Q : Exit → S → Prop) : Exit → S → Prop
 | .goto _, _ => False
 | e, s => Q e s
theorem aw_loop {c : Code} (I : Nat → S → Prop) (n : Nat) (h0 : I n s) (round : ∀ n s, I n s → aw P G c (Zr8 (fun s' => ∃ m, m < n ∧ I m s') Q) s) : aw P G (.loop c) Q s := fun B a w r => by
 have key : ∀ k m s a w, m < k → I m s → Sit G B s a w → Code.rounds P c (fun e a' w' => ∃ s', Q e s' ∧ Sit G B s' a' w') k a w := by
  intro k
  induction k with
  | zero => intro m s a w hm; omega
  | succ k ih =>
   intro m s a w hm hI hr
   rw [rounds_succ]
   refine wp_mono (round m s hI B a w hr) fun e a' w' ⟨s', q, r'⟩ => ?_
   cases e with
   | normal =>
    obtain ⟨m', hlt, hI'⟩ := q
    exact ih m' s' a' w' (by omega) hI' r'
   | _ => exact ⟨s', q, r'⟩
 exact wp_loop_rounds (n + 1) (key (n + 1) n s a w (Nat.lt_succ_self _) h0 r)
end
end
section
variable {P : Program} {G : Nat → D} {B : Base} {s : S} {a : Act} {w w' : World} {hd hd' : List Value} {h h' : List Ob} {p p' : Nat → Bool}
def Vc {α : Type} (P : Program) : Sem α → Option α
 | .pure a => some a
 | .program k => Vc P (k P)
 | _ => none
theorem Zc2 {α : Type} {m : Sem α} {z : α} : Vc P m = some z → ∀ w, m.run P w = .ok z w := by
 induction m with
 | pure a => intro h w; rw [Vc] at h; cases h; rfl
 | program k ih => intro h w; rw [Vc] at h; exact ih P h w
 | _ => intro h; rw [Vc] at h <;> first | cases h | simp
def szT (P : Program) (t : TypeId) : Option Nat := (P.info? t).map (·.size)
def isAggT : TypeDesc → Bool
 | .struct _ | .array _ _ => true
 | _ => false
def aggT (P : Program) (t : TypeId) : Option Bool := (P.underlying t).map isAggT
def elT (P : Program) (t : TypeId) : Option TypeId := match P.underlying t with
 | some (.slice e) => some e
 | _ => none
def arrT (P : Program) (t : TypeId) : Option (Nat × TypeId) := match P.underlying t with
 | some (.array n e) => some (n, e)
 | _ => none
def fldT (P : Program) (t : TypeId) (f : Nat) : Option (Nat × TypeId) := match P.underlying t with
 | some (.struct fs) => (fs[f]?).map fun f => (f.offset, f.type)
 | _ => none
def zeroT (P : Program) (t : TypeId) : Option Value := (P.info? t).bind (·.zero)
theorem U7 {t n : Nat} (h : szT P t = some n) (w : World) : (Go.sizeOf t).run P w = .ok n w := by
 unfold szT at h
 cases hi : P.info? t with
 | none => rw [hi] at h; cases h
 | some i => rw [hi] at h; cases h; simp [Go.sizeOf, typeInfo, hi, go_sem]
theorem dr_agg {t : TypeId} {b : Bool} (h : aggT P t = some b) (w : World) : (isAgg t).run P w = .ok b w := by
 unfold aggT at h
 cases hi : P.underlying t with
 | none => rw [hi] at h; cases h
 | some i => rw [hi] at h; cases h; cases i <;> simp [isAgg, isAggT, Go.underlying, hi, go_sem]
theorem Yp7 {t : TypeId} {z : Value} (h : zeroT P t = some z) (w : World) : (zeroValue t).run P w = .ok z w := by
 unfold zeroT at h
 cases hi : P.info? t with
 | none => rw [hi] at h; cases h
 | some i =>
  rw [hi] at h
  have h : i.zero = some z := h
  simp [zeroValue, typeInfo, hi, h, go_sem]
def D.one : D → Bool
 | .v x => x.oneCell'
 | .sl _ _ | .rp _ | .ptr _ _ | .buf _ _ | .bp _ _ _ _ | .win _ _ _ _ | .arr _ _ _ _ _ | .mp _ | .e0 | .fn _ _ => true
 | _ => false
def D.cells : D → Option (List D)
 | .agg ds => some ds
 | .v (.agg cs) => some (cs.toList.map .v)
 | d => if d.one then some [d] else none
def getD (P : Program) (t : TypeId) (ds : List D) (o : Nat) : Option D := match aggT P t, szT P t with
 | some true, some n => if o + n ≤ ds.length then some (.agg ((ds.drop o).take n)) else none
 | some false, _ => ds[o]?
 | _, _ => none
def Zb1 (P : Program) (h : List Ob) (t : TypeId) : D → Option D
 | .ptr i o => match h[i]? with
  | some (.cells ds) => getD P t ds o
  | _ => none
 | .rp ds => getD P t ds 0
 | .bp i n r j => match h[i]? with
  | some (.buf _ _ xs) => if xs.length = n then (xs[r]?).bind fun row => getD P t row j else none
  | _ => none
 | _ => none
theorem Yl8 {B : Nat} {cs : Array Value} {t : TypeId} {fr : Nat × Nat} {W : World} {ds : List D} (hB : w.heap[B]? = some (.cells cs t fr)) (q : rdL hd h W ds cs.toList) : ∀ (j : Nat) d, ds[j]? = some d → ∃ u, w.cell? ⟨B, j, none⟩ = some u ∧ rd hd h W d u := fun j d hj => by
 obtain ⟨u, h1, h2⟩ := ((Xg _ _).1 q).2 j d hj
 exact ⟨u, by rw [cell_of_row w B j cs t fr hB]; simpa using h1, h2⟩
theorem Yk5 {t : TypeId} {ds : List D} {o : Nat} {d : D} {W : World} {b q0 : Nat} (q : ∀ (j : Nat) d, ds[j]? = some d → ∃ u, w.cell? ⟨b, q0 + j, none⟩ = some u ∧ rd hd h W d u) (hg : getD P t ds o = some d) :
 ∃ v, (loadVar t ⟨b, q0 + o, none⟩).run P w = .ok v w ∧ rd hd h W d v := by
 unfold getD at hg
 split at hg
 · rename_i n h1 h2
   split at hg
   · rename_i hl
     cases hg
     have key : ∀ j, ∃ u, j < n → ∃ d, ds[o + j]? = some d ∧ w.cell? ⟨b, q0 + o + j, none⟩ = some u ∧ rd hd h W d u := fun j => by
      by_cases hj : j < n
      · obtain ⟨u, h1, h2⟩ := q (o + j) _ (Z1 (by omega))
        exact ⟨u, fun _ => ⟨_, Z1 (by omega), by rw [Nat.add_assoc]; exact h1, h2⟩⟩
      · exact ⟨.nilFunc, fun h => absurd h hj⟩
     obtain ⟨f, hf⟩ : ∃ f : Nat → Value, ∀ j, j < n → ∃ d, ds[o + j]? = some d ∧ w.cell? ⟨b, q0 + o + j, none⟩ = some (f j) ∧ rd hd h W d (f j) := ⟨fun j => (key j).choose, fun j => (key j).choose_spec⟩
     refine ⟨.agg ((List.range n).map f).toArray, ?_, by
      rw [rd]
      refine ⟨_, rfl, (Xg _ _).2 ⟨by simp; omega, fun j d hd' => ?_⟩⟩
      rw [List.getElem?_take] at hd'
      split at hd'
      · rename_i hj
        rw [List.getElem?_drop] at hd'
        obtain ⟨d', h1, _, h3⟩ := hf j hj
        rw [h1] at hd'; cases hd'
        exact ⟨_, by simp [hj], h3⟩
      · cases hd'⟩
     have hl := run_loadCells_list (P := P) w ⟨b, q0 + o, none⟩ ((List.range n).map f) fun j v hv => by
      rw [V7]
      have hj : j < n := by
       have := (Z0.1 hv).1
       simpa using this
      obtain ⟨d', _, h2, _⟩ := hf j hj
      simp [hj] at hv
      rw [← hv]; exact h2
     rw [List.length_map, List.length_range] at hl
     simp [loadVar, dr_agg h1, U7 h2, hl]
   · cases hg
 · rename_i h1
   obtain ⟨u, e1, e2⟩ := q o d hg
   refine ⟨u, ?_, e2⟩
   simp [loadVar, dr_agg h1, e1]
 · cases hg
theorem buf_cells {e k n : Nat} {u : Value} {xs : List (List D)} {cs : List Value} {W : World} {B cap r : Nat} {row : List D} (q : w.ownsRow 0 e k u n cs) (hu : u = .slice (some ⟨B, 0, none⟩) n cap) (hr : rdL hd h W xs.flatten cs)
 (hx : ∀ row ∈ xs, row.length = k) (hrow : xs[r]? = some row) : ∀ (j : Nat) d, row[j]? = some d → ∃ u, w.cell? ⟨B, r * k + j, none⟩ = some u ∧ rd hd h W d u := fun j d hj => by
 have hk := hx row (List.mem_of_getElem? hrow)
 have hjk : j < k := hk ▸ (Z0.1 hj).1
 obtain ⟨x, h1, h2⟩ := ((Xg _ _).1 hr).2 (r * k + j) d (by rw [Zq7 xs hx r j hjk, hrow]; exact hj)
 exact ⟨x, Zg0 q hu h1, h2⟩
theorem run_loadD (o : Ok G w hd h p) {t : TypeId} {d x : D} {v : Value} (q : rd hd h (only p w) d v) (hl : Zb1 P h t d = some x) : ∃ u, (Instr.loadAt t v).run P w = .ok u w ∧ rd hd h (only p w) x u := by
 cases d with
 | ptr i off =>
  rw [rd] at q
  obtain ⟨Bk, h1, rfl⟩ := q
  simp only [Zb1] at hl
  cases hi : h[i]? with
  | none => rw [hi] at hl; cases hl
  | some ob =>
   rw [hi] at hl
   cases ob with
   | cells ds =>
    obtain ⟨B', cs, ty, hB, h2, h3, _⟩ := o.ob i _ _ hi h1
    cases hB
    obtain ⟨u, e1, e2⟩ := Yk5 (P := P) (q0 := 0) (fun j d hj => by rw [Nat.zero_add]; exact Yl8 h2 h3 j d hj) hl
    exact ⟨u, by rw [Nat.zero_add] at e1; simpa [Instr.loadAt, Instr.sureAddr] using e1, e2⟩
   | _ => cases hl
 | rp ds =>
  rw [rd] at q
  obtain ⟨b, o', rfl, h1⟩ := q
  obtain ⟨u, e1, e2⟩ := Yk5 (P := P) (q0 := o') (fun j d hj => by
    obtain ⟨u, h2, h3⟩ := (U3 _ _ _).1 h1 j d hj
    exact ⟨u, Ym7 _ _ _ _ h2, h3⟩) hl
  exact ⟨u, by simpa [Instr.loadAt, Instr.sureAddr] using e1, e2⟩
 | bp i n r j =>
  rw [rd] at q
  obtain ⟨_, hi, h1⟩ := q
  simp only [Zb1] at hl
  cases hx : h[i]? with
  | none => rw [hx] at hl; cases hl
  | some ob =>
   rw [hx] at hl
   cases ob with
   | buf e k xs =>
    simp only at hl
    split at hl
    · rename_i hn
      obtain ⟨B', cap, h3, rfl⟩ := (h1 e k xs hx).2 hn
      cases hr : xs[r]? with
      | none => rw [hr] at hl; cases hl
      | some row =>
       rw [hr] at hl
       obtain ⟨cs, q1, q2, q3, _⟩ := o.ob i _ _ hx h3
       have hl : getD P t row j = some x := hl
       obtain ⟨u, e1, e2⟩ := Yk5 (P := P) (q0 := r * k) (buf_cells q1 (by rw [hn]) q2 q3 hr) hl
       exact ⟨u, by simpa [Instr.loadAt, Instr.sureAddr] using e1, e2⟩
    · cases hl
   | _ => cases hl
 | _ => cases hl
end
end Go.Proofs.YtbhkcbidcfofiaaGreat
