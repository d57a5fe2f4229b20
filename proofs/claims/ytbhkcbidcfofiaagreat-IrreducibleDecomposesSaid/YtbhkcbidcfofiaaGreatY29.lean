/-
  What the statements of the chapter share, part 29: AWD, QB1, QB2, QB3, QB4, QB6, QD1, QD2.
-/
import Derived.Test.YtbhkcbidcfofiaaGreatY07
import Derived.Test.YtbhkcbidcfofiaaGreatY14
import Derived.Test.YtbhkcbidcfofiaaGreatY16
import Derived.Test.YtbhkcbidcfofiaaGreatY21
import Derived.Test.YtbhkcbidcfofiaaGreatY24
import Derived.Test.YtbhkcbidcfofiaaGreatY25
import Derived.Test.YtbhkcbidcfofiaaGreatY27
import Derived.Test.YtbhkcbidcfofiaaGreatY28
set_option linter.unusedVariables false
set_option linter.unusedSimpArgs false
set_option maxRecDepth 100000
set_option maxHeartbeats 8000000
namespace Go.Proofs.YtbhkcbidcfofiaaGreat
open _root_.Bool renaming not_false → Zp, not_true → Zr
open _root_.Int renaming reduceEq → Zk, reduceLE → Zl, reduceLT → Zm
open _root_.List renaming length_map → Z4, getElem?_eq_getElem → Z5, map_cons → Z7, length_cons → Z8, getElem?_append_left → Z9, mem_cons → Za, length_nil → Zb, mem_singleton → Zc, cons_append → Ze, nil_append → Zf, getElem?_append_right → Zg, length_append → Zh, map_append → Zo
open _root_.Nat renaming le_of_ble_eq_true → Z0, reduceEqDiff → Z2, reduceLeDiff → Z3, reduceAdd → Z6, reduceBEq → Zi, reduceMul → Zj, add_comm → Zn, le_refl → Zq
open _root_.Option renaming getD_some → Zd
open _root_.Go.Proofs.Tryz renaming prog → Z1
open Go.RowKit
section
attribute [local irreducible] on aOp
attribute [local go_sem] decide_true decide_false Zr Zp
attribute [local simp] byD_len
def LN (P : Program) (G : Nat → D) (c : Code) (Q : Exit → S → Prop) : Nat → S → Prop
 | 0, _ => False
 | k + 1, s => aw P G c (Zs1 (LN P G c Q k) Q) s
theorem aw_loopN {P : Program} {G : Nat → D} {c : Code} {Q : Exit → S → Prop} {s : S} (k : Nat) (h : LN P G c Q k s) : aw P G (.loop c) Q s :=
 aw_loop (fun n s => LN P G c Q n s) k h fun n s hI => by
  cases n with
  | zero => exact hI.elim
  | succ n =>
   refine aw_mono hI fun ex s q => ?_
   cases ex <;> first | exact ⟨n, Nat.lt_succ_self n, q⟩ | exact q
theorem ln_s {P : Program} {G : Nat → D} {c : Code} {Q : Exit → S → Prop} {s : S} {k : Nat} (h : aw P G c (Zs1 (LN P G c Q k) Q) s) : LN P G c Q (k + 1) s := h
theorem ao_idxC {P : Program} {G : Nat → D} {n : Nat} {e : Nat → D} {h : List Ob} {ops : Array Oper} {rest : List Oper} {Q : S → Prop} {t : Nat} {ty : TypeId} {pos : String} {aft : Array Edge} {gd : Option (Nat × Bool)} {u : TypeId} {x y : Operand} {k : Nat} {κ : IntKind} {z : Int} {xs : List (List D)} {row : List D} (hw : Yg ops gd e = some true) (ht : decide (t < n) = true) (hx : ev G e x = .sl k xs) (hy : ev G e y = .v (.int κ z)) (he : (elT P u).bind (szT P) = some k) (h0 : 0 ≤ z) (h1 : z < (xs.length : Int)) (hr : xs[z.toNat]? = some row)
 (q : ao P G ops rest Q ⟨n, upd e t (.rp row), h⟩) : ao P G ops (⟨some t, .indexAddr u x y, ty, pos, aft, gd⟩ :: rest) Q ⟨n, e, h⟩ := by
 refine ao1 hw ht fun K HK => ?_
 rw [aOp_iaddr, hx, hy, idxA_sl]
 exact ⟨he, h0, h1, fun row' hr' => by rw [hr] at hr'; cases hr'; exact HK _ _ q⟩
theorem x1 : IntKind.i64.wrap (0 + 1) = 1 := by decide
theorem x2 : IntKind.i64.wrap (1 + 1) = 2 := by decide
theorem n2E : ((2 : Nat) : Int) = 2 := rfl
def lE : Lat := .mk 4 0 0 [] [] []
def tX : ByteArray := ⟨#[120]⟩
def tY : ByteArray := ⟨#[121]⟩
def tZ : ByteArray := ⟨#[122]⟩
def vE (l : List ByteArray) : Val := .mk 0 l [] []
@[reducible] def lD : List D := [.v (.int .i64 4), .v (.int .i64 0), .v (.int .i64 0), .sl 1 [], .sl 6 [], .sl 2 []]
@[reducible] def vD (l : List ByteArray) : List D := [.v (.int .i64 0), .sl 1 (l.map strX), .sl 4 [], .sl 2 []]
theorem lE_eq : latX lE = lD := by rw [Y4]; rfl
theorem vE_eq (l : List ByteArray) : vaX (vE l) = vD l := by rw [Y5]; rfl
theorem sm_E : Sm lE := .mk _ (by decide) (by decide) (by decide) (fun s h => by cases h) (fun s h => by cases h) fun s h => by cases h
theorem vsm_E (l : List ByteArray) (h : l.length ≤ 5) (hs : ∀ s ∈ l, s.size = 1) : VSm (vE l) := .mk _ (by show l.length ≤ _; omega) (by simp [vE, Val.parts]) (by simp [vE, Val.entries]) (fun s q => by have := hs s q; omega) (by simp [vE, Val.entries]) (by simp [vE, Val.parts])
theorem vsm_xy : VSm (vE [tX, tY]) := vsm_E _ (by decide) (by decide)
theorem vsm_yz : VSm (vE [tY, tZ]) := vsm_E _ (by decide) (by decide)
theorem vsm_x : VSm (vE [tX]) := vsm_E _ (by decide) (by decide)
theorem Zl1 : low 0 (.agg lD) := by rw [← lE_eq, low]; exact Yy _ _
theorem Ux (l : List ByteArray) : low 0 (.agg (vD l)) := by rw [← vE_eq, low]; exact Yd _ _
variable (G : Nat → D) (hG : ∀ g, low 0 (G g))
include hG
theorem ick (L : List (List ByteArray)) (hv : ∀ v ∈ L, VSm (vE v)) (he : errF lE (L.map vE) = 0) (hl : L.length ≤ 1000) {h : List Ob} {i n : Nat} (hn : L.length = n) (hi : h[i]? = some (.buf 30 4 (L.map vD))) : Does Z1 G 40 h [.agg lD, .buf i n] (fun h' r => h' = h ∧ r = .v (.int .i64 0)) := by
 subst hn
 have e : L.map vD = (L.map vE).map vaX := by rw [List.map_map]; exact List.map_congr_left fun v _ => (vE_eq v).symm
 rw [e] at hi
 have q := Does.borrow2 hG hi (by rw [Z4, Z4]) (by rw [low]; exact Yy _ lE) (U6 _) (icheck_d G hG lE sm_E (L.map vE) (fun x hx => by obtain ⟨v, h1, rfl⟩ := List.mem_map.1 hx; exact hv v h1) (by rw [Z4]; omega) [])
 rw [he, lE_eq] at q
 exact q
attribute [local go_sem] Zk Zl Zm Z8 Zb Z7 List.map_nil Z6 Zi Z2 Z3 Zj
attribute [local go_sem ↓] reduceIte
theorem ranked_x (h : List Ob) : Does Z1 G 60 h [.agg lD] (fun h' r => h' = h ∧ r = .v (.bool true)) := by
 refine Y9 G hG (by rw [lowL, lowL]; exact ⟨Zl1, trivial⟩) (by rw [low]; trivial) ?_ h
 clear h
 have hcf := Ye9 G [] (fun _ => false) 116 [] ent_116 (by simp) [.cells lD] (fun c hc => by cases hc)
 refine Y6 Tryz.func60 rfl (Z0 rfl) hG fun hl0 _ => ?_
 simp only [Tryz.ntmps60]
 repeat' first
  | (with_reducible first | refine sA rfl ?_ | refine sI rfl rfl ?_ | refine sT rfl ?_)
  | (with_reducible refine Y7 ?_; first | refine Yp ?_ | (refine ao1 rfl rfl fun K HK => ?_; (first | refine Ym rfl ?_ | skip); simp only [go_sem, lD, List.any_nil] <;> (refine HK _ _ ?_; clear HK K)) | refine ao0 rfl rfl ?_ | (refine ao2 rfl rfl rfl ent_81 (hcf) ?_; rintro _ _ ⟨rfl, rfl⟩))
 all_goals first | (exfalso; omega) | exact ⟨.inr rfl, endD (r := .v (.bool true)) hl0 rfl (by simp) (by simp) rfl (by rw [low]; trivial) ⟨rfl, rfl⟩⟩
theorem rank_x (h : List Ob) : Does Z1 G 61 h [.agg lD, .agg (vD [tX, tY])] (fun h' r => h' = h ∧ r = .v (.int .i64 2)) := by
 refine Y9 G hG (by rw [lowL, lowL, lowL]; exact ⟨Zl1, Ux _, trivial⟩) (by rw [low]; trivial) ?_ h
 clear h
 have hadd := fun h i => add_d2 G (h := h) (i := i) (m := 2) (by omega)
 rw [show min (2 : Int) ov = 2 by unfold ov; rfl] at hadd
 refine Y6 Tryz.func61 rfl (Z0 rfl) hG fun hl0 _ => ?_
 simp only [Tryz.ntmps61]
 repeat' first
  | (with_reducible first | refine sA rfl ?_ | refine sI rfl rfl ?_ | refine sT rfl ?_ | refine sB rfl ?_)
  | (with_reducible refine Y7 ?_; first | (refine ao_mkf rfl rfl ?_) | refine Yp ?_ | (refine ao1 rfl rfl fun K HK => ?_; simp only [go_sem, lD, vD] <;> (refine HK _ _ ?_; clear HK K)) | (refine ao2 rfl rfl rfl ent_117 (hadd _ _ rfl) ?_; rintro _ _ ⟨rfl, rfl⟩) | (refine ao1' rfl fun K HK => ?_; simp only [go_sem, lD, vD]; refine HK _ _ ?_; clear HK K))
 all_goals first | (exfalso; omega) | exact ⟨.inr rfl, endD (r := .v (.int .i64 2)) hl0 rfl (by simp) (by simp) rfl (by rw [low]; trivial) ⟨rfl, rfl⟩⟩
theorem Rank_x (h : List Ob) : Does Z1 G 27 h [.agg lD, .agg (vD [tX, tY])] (fun h' r => h' = h ∧ r = .tup [.v (.int .i64 2), .v (.int .i64 0)]) := by
 refine Y9 G hG (by rw [lowL, lowL, lowL]; exact ⟨Zl1, Ux _, trivial⟩) (by simp [low, lowL]) ?_ h
 clear h
 have hck := fun (h : List Ob) (i : Nat) (hi : h[i]? = some (.buf 30 4 [vD [tX, tY]])) => ick G hG [[tX, tY]] (fun v hv => by rw [Zc.1 hv]; exact vsm_xy) (by kernel_rfl) (by decide) (n := 1) rfl hi
 have hd := dist_d G hG _ lE (Zq _) (Wt (by kernel_rfl))
 rw [lE_eq, show W4 lE = true by kernel_rfl] at hd
 have hr := ranked_x G hG
 have hk := rank_x G hG
 refine Y6 Tryz.func27 rfl (Z0 rfl) hG fun hl0 _ => ?_
 simp only [Tryz.ntmps27]
 repeat' first
  | (with_reducible first | refine sA rfl ?_ | refine sI rfl rfl ?_ | refine sT rfl ?_)
  | (with_reducible refine Y7 ?_; first | refine Yp ?_ | (refine ao1 rfl rfl fun K HK => ?_; (first | refine Ym rfl ?_ | skip); simp only [go_sem, Bool.false_eq_true] <;> (refine HK _ _ ?_; clear HK K)) | (refine ao2 rfl rfl rfl ent_40 (hck _ _ rfl) ?_; rintro _ _ ⟨rfl, rfl⟩) | (refine ao2 rfl rfl rfl ent_41 (hd _) ?_; rintro _ _ ⟨rfl, rfl⟩) | (refine ao2 rfl rfl rfl ent_60 (hr _) ?_; rintro _ _ ⟨rfl, rfl⟩) | (refine ao2 rfl rfl rfl ent_61 (hk _) ?_; rintro _ _ ⟨rfl, rfl⟩))
 all_goals first | (exfalso; omega) | exact ⟨.inr rfl, endD (r := .tup [.v (.int .i64 2), .v (.int .i64 0)]) hl0 rfl (by simp) (by simp) rfl (by simp [low, lowL]) ⟨rfl, rfl⟩⟩
end
section
variable {P : Program} {G : Nat → D} {n : Nat} {e : Nat → D} {h : List Ob} {ops : Array Oper}
def cpF1 (ops : Array Oper) (i : Nat) (E : Ef) : Nat → List Ef → Prop
 | _, [] => True
 | j, F :: t => (Zu8 ops j i = true ∨ compF E F) ∧ cpF1 ops i E (j + 1) t
def cpFA (ops : Array Oper) : Nat → List Ef → Prop
 | _, [] => True
 | i, E :: t => cpF1 ops i E (i + 1) t ∧ cpFA ops (i + 1) t
theorem cpF1_get {i : Nat} {E : Ef} : ∀ (es : List Ef) (k j : Nat) (F : Ef), cpF1 ops i E k es → es[j]? = some F → Zu8 ops (k + j) i = true ∨ compF E F
 | [], _, _, _, _, q => by simp at q
 | F :: t, k, 0, F', q, r => by simp at r; subst r; exact q.1
 | F :: t, k, j + 1, F', q, r => by rw [show k + (j + 1) = k + 1 + j by omega]; exact cpF1_get t (k + 1) j F' q.2 (by simpa using r)
theorem cpFA_get : ∀ (es : List Ef) (k i j : Nat) (E F : Ef), cpFA ops k es → es[i]? = some E → es[j]? = some F → i < j → Zu8 ops (k + j) (k + i) = true ∨ compF E F
 | [], _, _, _, _, _, _, q, _, _ => by simp at q
 | X :: t, k, 0, j, E, F, q, r1, r2, hlt => by
  simp at r1; subst r1
  cases j with
  | zero => omega
  | succ j => rw [show k + (j + 1) = k + 1 + j by omega]; exact cpF1_get t (k + 1) j F q.1 (by simpa using r2)
 | X :: t, k, i + 1, j, E, F, q, r1, r2, hlt => by
  cases j with
  | zero => omega
  | succ j =>
   rw [show k + (j + 1) = k + 1 + j by omega, show k + (i + 1) = k + 1 + i by omega]
   exact cpFA_get t (k + 1) i j E F q.2 (by simpa using r1) (by simpa using r2) (by omega)
def afS (P : Program) (G : Nat → D) (n : Nat) (ops : Array Oper) (Q : (Nat → D) → List Ob → Prop) : List Ef → List Oper → (Nat → D) → List Ob → Prop
 | done, [], e, h => cpFA ops 0 done.reverse ∧ Q e h
 | done, o :: rest, e, h => ∃ E, YDT P G ops o E e ∧ E.ok h ∧ afS P G n ops Q (E :: done) rest (putE n e o.dst E.d) (E.heap h)
theorem afS_af {Q : (Nat → D) → List Ob → Prop} : ∀ (rest : List Oper) (done : List Ef) (e : Nat → D) (h : List Ob), afS P G n ops Q done rest e h →
 ∃ es, (∀ j, j < done.length → es[j]? = done.reverse[j]?) ∧ es.length = done.length + rest.length ∧ cpFA ops 0 es ∧ af P G n ops (fun k => (es[k]?).getD nopF) Q done.length rest e h
 | [], done, e, h, q => ⟨done.reverse, fun _ _ => rfl, by simp, q.1, q.2⟩
 | o :: rest, done, e, h, q => by
  obtain ⟨E, h1, h2, h3⟩ := q
  obtain ⟨es, g1, g2, g3, g4⟩ := afS_af rest (E :: done) _ _ h3
  have hE : es[done.length]? = some E := by
   rw [g1 _ (by simp)]; simp
  refine ⟨es, fun j hj => ?_, by simp at g2 ⊢; omega, g3, ?_⟩
  · rw [g1 j (by simp; omega), List.reverse_cons, Z9 (by simpa using hj)]
  · refine ⟨?_, ?_, ?_⟩
    · simp only [hE, Zd]; exact h1
    · simp only [hE, Zd]; exact h2
    · simp only [hE, Zd]
      simpa using g4
theorem Zk3 (c : Nat) {id : Nat} {l : List Oper} {Q : Exit → S → Prop} (hm : P.follows .mixedOrders = true) (hB : Region.lexB .any l.toArray = true) (H : afS P G n l.toArray (fun e h => Q .normal ⟨n, e, h⟩) [] l e (h ++ holes c)) : aw P G (.region id l.toArray true) Q ⟨n, e, h⟩ := by
 obtain ⟨es, _, g2, g3, g4⟩ := afS_af l [] e _ H
 refine aw_holes c (aw_drawF (ef := fun k => (es[k]?).getD nopF) hm hB (fun i j oj hij hj hno hnt => ?_) g4)
 have hjl : j < es.length := by
  have := (Array.getElem?_eq_some_iff.1 hj).1
  simp at this g2; omega
 rcases cpFA_get es 0 i j _ _ g3 (Z5 (show i < es.length by omega)) (Z5 hjl) hij with hw | hc
 · exfalso
   rw [Nat.zero_add, Nat.zero_add] at hw
   unfold Zu8 at hw
   rw [hj] at hw
   have hw : twB .any l.toArray (j + 1) j i = true := hw
   rw [hnt] at hw; cases hw
 · simp only [Z5 (show i < es.length by omega), Z5 hjl, Zd]
   exact hc
def puF (d : D) : Ef := ⟨[], [], d⟩
def reF (i : Nat) (ob : Ob) (d : D) : Ef := ⟨[(i, ob)], [], d⟩
def wrF (i : Nat) (ob ob' : Ob) (d : D) : Ef := ⟨[(i, ob)], [(i, ob')], d⟩
theorem Yf3 {d : D} {F : Ef} : compF (puF d) F := ⟨by simp [puF], by simp [puF]⟩
theorem Yk9 {d : D} {F : Ef} : compF F (puF d) := Yf3.symm
theorem cmF_rr {i j : Nat} {o o' : Ob} {d d' : D} : compF (reF i o d) (reF j o' d') := ⟨by simp [reF], by simp [reF]⟩
theorem Yf2 {i j : Nat} {o o' o'' : Ob} {d d' : D} (k : i ≠ j) : compF (reF i o d) (wrF j o' o'' d') := ⟨by simp [reF], by simp [reF, wrF]; exact Ne.symm k⟩
theorem cmF_wr {i j : Nat} {o o' o'' : Ob} {d d' : D} (k : i ≠ j) : compF (wrF j o' o'' d') (reF i o d) := (Yf2 k).symm
theorem Yk8 {i j : Nat} {o o' p p' : Ob} {d d' : D} (k : i ≠ j) : compF (wrF i o p d) (wrF j o' p' d') := ⟨by simp [wrF]; exact k, by simp [wrF]; exact Ne.symm k⟩
section
variable {done : List Ef} {rest : List Oper} {Q : (Nat → D) → List Ob → Prop} {t : Nat} {op : Op} {ty : TypeId} {pos : String} {aft : Array Edge} {gd : Option (Nat × Bool)}
theorem Yl2 (c : cpFA ops 0 done.reverse) (q : Q e h) : afS P G n ops Q done [] e h := ⟨c, q⟩
theorem Zx9 {d : D} : (puF d).heap h = h := by simp [puF, Ef.heap, X2]
theorem Yr9 {E : Ef} (hw : Yg ops gd e = some true) (ht : decide (t < n) = true) (hf : E.fit) (hk : E.ok h) (q : ∀ h2, E.ok h2 → OpTri P G ⟨some t, op, ty, pos, aft, gd⟩ ((opds op).map (ev G e)) h2 (fun h' d => h' = E.heap h2 ∧ d = E.d))
 (k : afS P G n ops Q (E :: done) rest (upd e t E.d) (E.heap h)) : afS P G n ops Q done (⟨some t, op, ty, pos, aft, gd⟩ :: rest) e h :=
 ⟨E, .inl ⟨hw, hf, q⟩, hk, by unfold putE; simp only [if_pos (of_decide_eq_true ht)]; exact k⟩
theorem bS1 (hw : Yg ops gd e = some true) (ht : decide (t < n) = true) (H : ∀ K : List Ob → D → Prop, (∀ h' d, h' = [] → afS P G n ops Q (puF d :: done) rest (upd e t d) h → K h' d) → aOp P G e [] K op) : afS P G n ops Q done (⟨some t, op, ty, pos, aft, gd⟩ :: rest) e h := by
 obtain ⟨d, h1, _, h2⟩ := Yg1 (H (fun h' d => h' = [] ∧ afS P G n ops Q (puF d :: done) rest (upd e t d) h) fun h' d q1 q2 => ⟨q1, q2⟩) fun h' d q => q.1
 refine Yr9 (E := puF d) hw ht (by simp [puF, Ef.fit]) (by simp [puF, Ef.ok]) (fun h2 _ => ?_) (by rw [Zx9]; exact h2)
 rw [Zx9]
 exact Vg (o := ⟨some t, op, ty, pos, aft, gd⟩) (Ys5 h1 h2)
theorem Zd4 {u : TypeId} {x : Operand} {i o : Nat} {ds : List D} {d : D} (hw : Yg ops gd e = some true) (ht : decide (t < n) = true) (hx : ev G e x = .ptr i o) (hi : h[i]? = some (.cells ds)) (hg : getD P u ds o = some d)
 (k : afS P G n ops Q (reF i (.cells ds) d :: done) rest (upd e t d) h) : afS P G n ops Q done (⟨some t, .load u x, ty, pos, aft, gd⟩ :: rest) e h := by
 have hh : ∀ h, (reF i (.cells ds) d).heap h = h := fun h => by simp [reF, Ef.heap, X2]
 refine Yr9 (E := reF i (.cells ds) d) hw ht (by simp [reF, Ef.fit]) (by simpa [reF, Ef.ok] using hi) (fun h2 kk => ?_) (by rw [hh]; exact k)
 rw [hh]
 have hi2 : h2[i]? = some (.cells ds) := kk (i, .cells ds) (by simp [reF])
 refine Vg (o := ⟨some t, .load u x, ty, pos, aft, gd⟩) ?_
 show on (Jk P h2 u (ev G e x)) _
 rw [hx]
 simp only [Jk, hi2, hg, on]
 exact ⟨trivial, rfl⟩
theorem bS_store {u : TypeId} {x y : Operand} {i o : Nat} {ds es : List D} (hw : Yg ops gd e = some true) (hx : ev G e x = .ptr i o) (hi : h[i]? = some (.cells ds)) (hy : (ev G e y).cells = some es) (hc : (es.all D.one && szT P u == some es.length) = true) (hle : o + es.length ≤ ds.length)
 (k : afS P G n ops Q (wrF i (.cells ds) (.cells (putL ds o es)) (.v undef) :: done) rest e (h.set i (.cells (putL ds o es)))) : afS P G n ops Q done (⟨none, .store u x y, ty, pos, aft, gd⟩ :: rest) e h := by
 have hh : ∀ h, (wrF i (.cells ds) (.cells (putL ds o es)) (.v undef)).heap h = h.set i (.cells (putL ds o es)) := fun h => by simp [wrF, Ef.heap, X2]
 refine ⟨wrF i (.cells ds) (.cells (putL ds o es)) (.v undef), .inl ⟨hw, by simp [wrF, Ef.fit], fun h2 kk => ?_⟩, by simpa [wrF, Ef.ok] using hi, by rw [hh]; exact k⟩
 have hi2 : h2[i]? = some (.cells ds) := kk (i, .cells ds) (by simp [wrF])
 rw [hh]
 refine Vg (o := ⟨none, .store u x y, ty, pos, aft, gd⟩) ?_
 show on (Up P h2 u (ev G e x) (ev G e y)) _
 rw [hx]
 simp only [Up, hy, hc, if_true, hi2, if_pos hle, on]
 exact ⟨trivial, rfl⟩
theorem Ju (hG : ∀ g, low 0 (G g)) {i u len e' k' : Nat} {parts : Array (Nat × Operand)} {xs : List (List D)} (hw : Yg ops gd e = some true) (ht : decide (t < n) = true) (hl : litD P u len (parts.toList.map fun q => (q.1, ev G e q.2)) = some (e', k', xs)) (hi : h[i]? = some .hole)
 (la : lowL 0 ((opds (.buildSlice u len parts)).map (ev G e))) (lr : low 0 (.sl k' xs))
 (k : afS P G n ops Q (wrF i .hole (.buf e' k' xs) (.buf i len) :: done) rest (upd e t (.buf i len)) (h.set i (.buf e' k' xs))) : afS P G n ops Q done (⟨some t, .buildSlice u len parts, ty, pos, aft, gd⟩ :: rest) e h := by
 have hh : ∀ h, (wrF i .hole (.buf e' k' xs) (.buf i len)).heap h = h.set i (.buf e' k' xs) := fun h => by simp [wrF, Ef.heap, X2]
 refine Yr9 (E := wrF i .hole (.buf e' k' xs) (.buf i len)) hw ht (by simp [wrF, Ef.fit]) (by simpa [wrF, Ef.ok] using hi) (fun h2 kk => ?_) (by rw [hh]; exact k)
 rw [hh]
 have hi2 : h2[i]? = some .hole := kk (i, .hole) (by simp [wrF])
 have q : OpTri P G ⟨some t, .buildSlice u len parts, ty, pos, aft, gd⟩ ((opds (.buildSlice u len parts)).map (ev G e)) [] (fun h' d => h' = [.buf e' k' xs] ∧ d = .buf 0 len) := Vg (o := ⟨some t, .buildSlice u len parts, ty, pos, aft, gd⟩) (by
  show on (litD P u len (parts.toList.map fun q => (q.1, ev G e q.2))) _
  rw [hl]; exact ⟨rfl, rfl⟩)
 have L : Lies (fun _ => i) [] h2 := ⟨fun i ob q => by simp at q, fun i j q => by simp at q, fun ob q => by simp at q⟩
 have F := OpTri.frame hG L (by simpa using la) (K1 := fun h' d => h' = [.buf e' k' xs] ∧ d = .buf 0 len) (by
  rintro _ _ ⟨rfl, _⟩
  refine ⟨fun i j hi hj _ => by simp at hi hj; omega, fun j _ hj => hi2⟩) q
 rw [Xh _ _ la] at F
 refine F.mono ?_
 rintro _ _ ⟨_, _, ⟨rfl, rfl⟩, rfl, rfl⟩
 have e1 : renR (fun _ => i) xs = xs := by
  have := Uj (fun _ => i) _ lr
  rw [ren] at this
  exact (D.sl.inj this).2
 simp [plc, Ww, ren, e1, wrF]
theorem Yf7 {x y : Operand} {u i j m m' e' k' e2 k2 by' : Nat} {xs ys : List (List D)} (hw : Yg ops gd e = some true) (ht : decide (t < n) = true) (hx : ev G e x = .buf i m) (hy : ev G e y = .buf j m') (hi : h[i]? = some (.buf e' k' xs)) (hm : xs.length = m) (ha : apT P u = some (e', k', by')) (hj : h[j]? = some (.buf e2 k2 ys)) (hm' : ys.length = m')
 (hk : X3 k' ys) (hb : (m + ys.length) * (by' + 1) ≤ 140737488355328)
 (k : afS P G n ops Q (⟨[(i, .buf e' k' xs), (j, .buf e2 k2 ys)], [(i, .buf e' k' (xs ++ ys))], .buf i (m + ys.length)⟩ :: done) rest (upd e t (.buf i (m + ys.length))) (h.set i (.buf e' k' (xs ++ ys)))) :
 afS P G n ops Q done (⟨some t, .call ⟨.builtin .append, #[x, y], #[u, u]⟩, ty, pos, aft, gd⟩ :: rest) e h := by
 have hh : ∀ h, (⟨[(i, .buf e' k' xs), (j, .buf e2 k2 ys)], [(i, .buf e' k' (xs ++ ys))], .buf i (m + ys.length)⟩ : Ef).heap h = h.set i (.buf e' k' (xs ++ ys)) := fun h => by simp [Ef.heap, X2]
 refine Yr9 (E := ⟨[(i, .buf e' k' xs), (j, .buf e2 k2 ys)], [(i, .buf e' k' (xs ++ ys))], .buf i (m + ys.length)⟩) hw ht (by simp [Ef.fit]) (by simp [Ef.ok, hi, hj]) (fun h2 kk => ?_) (by rw [hh]; exact k)
 rw [hh]
 have hi2 : h2[i]? = some (.buf e' k' xs) := kk (i, .buf e' k' xs) (by simp)
 have hj2 : h2[j]? = some (.buf e2 k2 ys) := kk (j, .buf e2 k2 ys) (by simp)
 refine Vg (o := ⟨some t, .call ⟨.builtin .append, #[x, y], #[u, u]⟩, ty, pos, aft, gd⟩) ?_
 show aOp P G e h2 _ (.call ⟨.builtin .append, #[x, y], #[u, u]⟩)
 rw [aOp_bi]
 show biA P h2 .append [u, u] [ev G e x, ev G e y] _
 rw [hx, biA_append]
 exact ⟨e', k', by', ys, ha, Ym2 hy hj2 hm', hk, xs, hi2, hm, hb, rfl, rfl⟩
end
theorem gd_bS {Q : (Nat → D) → List Ob → Prop} {done : List Ef} {l : List Oper} (q : afS P G n ops Q done l e h) : afS P G n ops Q done l e h := q
end
section
variable {P : Program} {G : Nat → D} {n : Nat} {e : Nat → D} {h : List Ob} {ops : Array Oper}
theorem OpTri.give {o : Oper} {args args' : List D} {j E k : Nat} {xs : List (List D)} {K : List Ob → D → Prop} (hj : h[j]? = some (.buf E k xs)) (ha : args.map (cvD (fun i => i == j) h) = args') (q : OpTri P G o args' (h.set j .dead) K) : OpTri P G o args h K := fun a w hd p R hdf ok hr => by
 obtain ⟨p2, o2, ev2, cv⟩ := ok.give fun i => i == j
 rw [Yd1] at o2 ev2 cv
 have h2 := cvL cv hr
 rw [ha] at h2
 exact Oper.wp_mono (fun _ _ ⟨v, e, q⟩ => ⟨v, e, q.before ev2⟩) (q a w hd p2 R hdf o2 h2)
section
variable {done : List Ef} {rest : List Oper} {Q : (Nat → D) → List Ob → Prop} {t : Nat} {ty : TypeId} {pos : String} {aft : Array Edge} {gd : Option (Nat × Bool)}
end
theorem Ys3 {Q : S → Prop} {rest : List Oper} {t : Option Nat} {ty : TypeId} {pos : String} {aft : Array Edge} {gd : Option (Nat × Bool)} {u c t' j n1 E1 k1 : Nat} {xs : List (List D)} (hx : e t' = .buf j n1) (hj : h[j]? = some (.buf E1 k1 xs)) (hn : xs.length = n1)
 (q : ao P G ops (⟨t, .build u #[(c, .tmp t')], ty, pos, aft, gd⟩ :: rest) Q ⟨n, upd e t' (.sl k1 xs), h.set j .dead⟩) : ao P G ops (⟨t, .build u #[(c, .tmp t')], ty, pos, aft, gd⟩ :: rest) Q ⟨n, e, h⟩ := by
 refine ao_give j t' ?_
 have e1 : cvD (fun i => i == j) h (e t') = .sl k1 xs := by rw [hx]; simp [cvD, cv1, hj, hn]
 rw [e1]
 exact q
end
section
variable {P : Program} {G : Nat → D}
def shF (h : List Ob) : Nat → Nat := fun i => i + h.length
theorem plc_new {h : List Ob} : ∀ (M : List Ob), plc (shF h) (h ++ holes M.length) 0 M = h ++ M := fun M => by
 apply List.ext_getElem?
 intro i
 have hl : (plc (shF h) (h ++ holes M.length) 0 M).length = h.length + M.length := by rw [Yo6]; simp [holes]
 rcases Nat.lt_or_ge i h.length with hi | hi
 · rw [Zf9 _ _ _ (fun j _ => by unfold shF; omega), Z9 hi, Z9 hi]
 · rcases Nat.lt_or_ge i (h.length + M.length) with hj | hj
   · have := plc_at (π := shF h) M (h ++ holes M.length) 0 (i - h.length) (fun a b _ _ e => by unfold shF at e; omega) (by omega) (by unfold shF; simp [holes]; omega)
     rw [show shF h (0 + (i - h.length)) = i by unfold shF; omega] at this
     rw [this, Zg hi]
   · rw [List.getElem?_eq_none (by omega), List.getElem?_eq_none (by rw [Zh]; omega)]
theorem Zi1 (hG : ∀ g, low 0 (G g)) (m : Nat) {f : FuncId} {args : List D} {Q : List Ob → D → Prop} (la : lowL 0 args) (hm : ∀ M r, Q M r → M.length = m) (q : Does P G f [] args Q) (h : List Ob) : Does P G f h args (fun h' r => ∃ M r0, Q M r0 ∧ h' = h ++ M.map (Ww (shF h)) ∧ r = ren (shF h) r0) := by
 refine Does.holes m ?_
 have L : Lies (shF h) [] (h ++ holes m) := ⟨fun i ob q => by simp at q, fun i j q => by simp at q, fun ob q => by simp at q⟩
 have F := Does.frame hG L (args := args) la (K1 := Q) (by
  intro M r hQ
  have hl := hm M r hQ
  refine ⟨fun i j _ _ e => by unfold shF at e; omega, fun j _ hj => ?_⟩
  rw [Zg (by unfold shF; omega)]
  unfold shF holes
  rw [List.getElem?_replicate, if_pos (by omega)]) q
 rw [Xh _ _ la] at F
 refine F.mono ?_
 rintro _ _ ⟨M, r0, hQ, rfl, rfl⟩
 refine ⟨M, r0, hQ, ?_, rfl⟩
 have hl := hm M r0 hQ
 have := plc_new (h := h) (M.map (Ww (shF h)))
 rw [Z4, hl] at this
 exact this
end
section
variable {P : Program} {G : Nat → D} {n : Nat} {e : Nat → D} {h : List Ob} {ops : Array Oper}
section
variable {done : List Ef} {rest : List Oper} {Q : (Nat → D) → List Ob → Prop} {t : Nat} {ty : TypeId} {pos : String} {aft : Array Edge} {gd : Option (Nat × Bool)}
theorem bS_call0 {x : Operand} {args : Array Operand} {tys : Array TypeId} {f : FuncId} {cap : List D} {d : D} (hw : Yg ops gd e = some true) (ht : decide (t < n) = true) (hx : ev G e x = .fn f cap) (he : entB P f = true)
 (hc : ∀ h2, Does P G f h2 (args.toList.map (ev G e) ++ cap) (fun h' r => h' = h2 ∧ r = d))
 (k : afS P G n ops Q (puF d :: done) rest (upd e t d) h) : afS P G n ops Q done (⟨some t, .call ⟨.value x, args, tys⟩, ty, pos, aft, gd⟩ :: rest) e h := by
 refine Yr9 (E := puF d) hw ht (by simp [puF, Ef.fit]) (by simp [puF, Ef.ok]) (fun h2 _ => ?_) (by rw [Zx9]; exact k)
 rw [Zx9]
 have ho : (opds (.call ⟨.value x, args, tys⟩)).map (ev G e) = .fn f cap :: args.toList.map (ev G e) := by simp [opds, Op.operands, Call.operands, hx]
 rw [ho]
 exact Zz8 he (hc h2)
end
theorem OpTri.weak {o : Oper} {args : List D} {H : List Ob} {d d' : D} (hk : Wk d d') (q : OpTri P G o args h (fun h' r => h' = H ∧ r = d)) : OpTri P G o args h (fun h' r => h' = H ∧ r = d') := fun a w hd p R hdf ok ha =>
 Oper.wp_mono (fun _ _ ⟨v, e, q⟩ => ⟨v, e, by
  obtain ⟨hd', h', r, p', ⟨rfl, rfl⟩, o', q', ev⟩ := q
  exact ⟨hd', _, d', p', ⟨rfl, rfl⟩, o', hk _ _ _ _ q', ev⟩⟩) (q a w hd p R hdf ok ha)
theorem Zw7 {l : List Oper} {Q : S → Prop} (t : Nat) (d d' : D) (ht : e t = d) (hk : Wk d d') (k : ao P G ops l Q ⟨n, upd e t d', h⟩) : ao P G ops l Q ⟨n, e, h⟩ := fun B a w r R hR => k B a w (by
 obtain ⟨hd, p, r⟩ := r
 refine ⟨hd, p, r.ok, r.evo, fun s => ?_, r.size, r.defers⟩
 show rd _ _ _ (upd e t d' s) _
 unfold upd
 split
 · rename_i hs
   have := r.tmp s
   rw [hs] at this ⊢
   exact hk _ _ _ _ (ht ▸ this)
 · exact r.tmp s) R hR
section
variable {done : List Ef} {rest : List Oper} {Q : (Nat → D) → List Ob → Prop} {t : Nat} {ty : TypeId} {pos : String} {aft : Array Edge} {gd : Option (Nat × Bool)}
theorem Ys0 {u c t1 i1 n1 E1 k1 : Nat} {xs1 : List (List D)} (hw : Yg ops gd e = some true) (ht : decide (t < n) = true) (h1 : e t1 = .buf i1 n1) (hi1 : h[i1]? = some (.buf E1 k1 xs1)) (hn1 : xs1.length = n1)
 (H : ∀ K : List Ob → D → Prop, (∀ h' d, h' = [] → (∃ d', Wk d d' ∧ afS P G n ops Q (wrF i1 (.buf E1 k1 xs1) .dead d' :: done) rest (upd e t d') (h.set i1 .dead)) → K h' d) → aOp P G (upd e t1 (.sl k1 xs1)) [] K (.build u #[(c, .tmp t1)])) :
 afS P G n ops Q done (⟨some t, .build u #[(c, .tmp t1)], ty, pos, aft, gd⟩ :: rest) e h := by
 obtain ⟨d, q1, _, d', hk, q2⟩ := Yg1 (H (fun h' d => h' = [] ∧ ∃ d', Wk d d' ∧ afS P G n ops Q (wrF i1 (.buf E1 k1 xs1) .dead d' :: done) rest (upd e t d') (h.set i1 .dead)) fun h' d q1 q2 => ⟨q1, q2⟩) fun h' d q => q.1
 have hh : ∀ h, (wrF i1 (.buf E1 k1 xs1) .dead d').heap h = h.set i1 .dead := fun h => by simp [wrF, Ef.heap, X2]
 refine Yr9 (E := wrF i1 (.buf E1 k1 xs1) .dead d') hw ht (by simp [wrF, Ef.fit]) (by simpa [wrF, Ef.ok] using hi1) (fun h2 kk => ?_) (by rw [hh]; exact q2)
 have hi2 : h2[i1]? = some (.buf E1 k1 xs1) := kk (i1, .buf E1 k1 xs1) (by simp [wrF])
 rw [hh]
 refine OpTri.give hi2 ?_ (OpTri.weak hk (Vg (o := ⟨some t, .build u #[(c, .tmp t1)], ty, pos, aft, gd⟩) (Ys5 q1 (h2.set i1 .dead))))
 simp [opds, Op.operands, ev, h1, cvD, cv1, hi2, hn1, upd]
theorem bS_bld2w {u c1 c2 t1 t2 i1 i2 n1 n2 E1 E2 k1 k2 : Nat} {xs1 xs2 : List (List D)} (hw : Yg ops gd e = some true) (ht : decide (t < n) = true) (h1 : e t1 = .buf i1 n1) (h2 : e t2 = .buf i2 n2) (ne : i1 ≠ i2) (nt : t1 ≠ t2) (hi1 : h[i1]? = some (.buf E1 k1 xs1)) (hi2 : h[i2]? = some (.buf E2 k2 xs2)) (hn1 : xs1.length = n1) (hn2 : xs2.length = n2)
 (H : ∀ K : List Ob → D → Prop, (∀ h' d, h' = [] → (∃ d', Wk d d' ∧ afS P G n ops Q (⟨[(i1, .buf E1 k1 xs1), (i2, .buf E2 k2 xs2)], [(i1, .dead), (i2, .dead)], d'⟩ :: done) rest (upd e t d') ((h.set i1 .dead).set i2 .dead)) → K h' d) → aOp P G (upd (upd e t1 (.sl k1 xs1)) t2 (.sl k2 xs2)) [] K (.build u #[(c1, .tmp t1), (c2, .tmp t2)])) :
 afS P G n ops Q done (⟨some t, .build u #[(c1, .tmp t1), (c2, .tmp t2)], ty, pos, aft, gd⟩ :: rest) e h := by
 obtain ⟨d, q1, _, d', hk, q2⟩ := Yg1 (H (fun h' d => h' = [] ∧ ∃ d', Wk d d' ∧ afS P G n ops Q (⟨[(i1, .buf E1 k1 xs1), (i2, .buf E2 k2 xs2)], [(i1, .dead), (i2, .dead)], d'⟩ :: done) rest (upd e t d') ((h.set i1 .dead).set i2 .dead)) fun h' d q1 q2 => ⟨q1, q2⟩) fun h' d q => q.1
 have hh : ∀ h, (⟨[(i1, .buf E1 k1 xs1), (i2, .buf E2 k2 xs2)], [(i1, .dead), (i2, .dead)], d'⟩ : Ef).heap h = (h.set i1 .dead).set i2 .dead := fun h => by simp [Ef.heap, X2]
 refine Yr9 (E := ⟨[(i1, .buf E1 k1 xs1), (i2, .buf E2 k2 xs2)], [(i1, .dead), (i2, .dead)], d'⟩) hw ht (by simp [Ef.fit]) (by simp [Ef.ok, hi1, hi2]) (fun h3 kk => ?_) (by rw [hh]; exact q2)
 have g1 : h3[i1]? = some (.buf E1 k1 xs1) := kk (i1, .buf E1 k1 xs1) (by simp)
 have g2 : h3[i2]? = some (.buf E2 k2 xs2) := kk (i2, .buf E2 k2 xs2) (by simp)
 have g3 : (h3.set i1 .dead)[i2]? = some (.buf E2 k2 xs2) := by rw [List.getElem?_set_ne ne]; exact g2
 rw [hh]
 refine OpTri.give (args' := [.sl k1 xs1, .buf i2 n2]) g1 ?_ (OpTri.give (args' := [.sl k1 xs1, .sl k2 xs2]) g3 ?_ (OpTri.weak hk ?_))
 · simp [opds, Op.operands, ev, h1, h2, cvD, cv1, g1, hn1, Ne.symm ne]
 · simp [cvD, cv1, g3, hn2]
 · have := Vg (o := ⟨some t, .build u #[(c1, .tmp t1), (c2, .tmp t2)], ty, pos, aft, gd⟩) (Ys5 q1 ((h3.set i1 .dead).set i2 .dead))
   have e1 : (opds (.build u #[(c1, .tmp t1), (c2, .tmp t2)])).map (ev G (upd (upd e t1 (.sl k1 xs1)) t2 (.sl k2 xs2))) = [.sl k1 xs1, .sl k2 xs2] := by simp [opds, Op.operands, ev, upd, nt]
   rw [← e1]; exact this
end
theorem Does.gaveM (hG : ∀ g, low 0 (G g)) {f : FuncId} {args : List D} {M : List Ob} {E k n j : Nat} {rows : List (List D)} (hj : M[j]? = some (.buf E k rows)) (lr : low 0 (.sl k rows)) (la : lowL 0 args) (hn : rows.length = n) (q : Does P G f [] args (fun h' r => h' = M ∧ r = .buf j n)) (h : List Ob) : Does P G f h args (fun h' r => h' = h ∧ r = .sl k rows) := by
 refine Y9 G hG la lr (q.drop hG ?_) h
 rintro _ _ ⟨rfl, rfl⟩
 refine ⟨0, Zq _, Nat.zero_le _, fun x hx => by simp at hx, ?_, ?_⟩
 · simpa [cvD, cv1, hn, hj] using lr
 · simp [cvD, cv1, hn, hj]
end
section
variable {P : Program} {G : Nat → D} {n : Nat} {e : Nat → D} {h : List Ob} {ops : Array Oper}
section
variable {done : List Ef} {rest : List Oper} {Q : (Nat → D) → List Ob → Prop} {t : Nat} {ty : TypeId} {pos : String} {aft : Array Edge} {gd : Option (Nat × Bool)}
theorem bS_apR {x y : Operand} {u u' i m e' k' by' : Nat} {xs ys : List (List D)} (hw : Yg ops gd e = some true) (ht : decide (t < n) = true) (hx : ev G e x = .buf i m) (hi : h[i]? = some (.buf e' k' xs)) (hm : xs.length = m) (ha : apT P u = some (e', k', by')) (hs : srcD P [] u u' (ev G e y) = some ys)
 (hk : X3 k' ys) (hb : (m + ys.length) * (by' + 1) ≤ 140737488355328)
 (k : afS P G n ops Q (⟨[(i, .buf e' k' xs)], [(i, .buf e' k' (xs ++ ys))], .buf i (m + ys.length)⟩ :: done) rest (upd e t (.buf i (m + ys.length))) (h.set i (.buf e' k' (xs ++ ys)))) :
 afS P G n ops Q done (⟨some t, .call ⟨.builtin .append, #[x, y], #[u, u']⟩, ty, pos, aft, gd⟩ :: rest) e h := by
 have hh : ∀ h, (⟨[(i, .buf e' k' xs)], [(i, .buf e' k' (xs ++ ys))], .buf i (m + ys.length)⟩ : Ef).heap h = h.set i (.buf e' k' (xs ++ ys)) := fun h => by simp [Ef.heap, X2]
 refine Yr9 (E := ⟨[(i, .buf e' k' xs)], [(i, .buf e' k' (xs ++ ys))], .buf i (m + ys.length)⟩) hw ht (by simp [Ef.fit]) (by simp [Ef.ok, hi]) (fun h2 kk => ?_) (by rw [hh]; exact k)
 rw [hh]
 have hi2 : h2[i]? = some (.buf e' k' xs) := kk (i, .buf e' k' xs) (by simp)
 refine Vg (o := ⟨some t, .call ⟨.builtin .append, #[x, y], #[u, u']⟩, ty, pos, aft, gd⟩) ?_
 show aOp P G e h2 _ (.call ⟨.builtin .append, #[x, y], #[u, u']⟩)
 rw [aOp_bi]
 show biA P h2 .append [u, u'] [ev G e x, ev G e y] _
 rw [hx, biA_append]
 exact ⟨e', k', by', ys, ha, src_any hs, hk, xs, hi2, hm, hb, rfl, rfl⟩
theorem bS_alloc (hG : ∀ g, low 0 (G g)) {i u : Nat} {ds : List D} (hw : Yg ops gd e = some true) (ht : decide (t < n) = true) (hz : Un P u = some ds) (hi : h[i]? = some .hole) (lz : lowL 0 ds)
 (k : afS P G n ops Q (wrF i .hole (.cells ds) (.ptr i 0) :: done) rest (upd e t (.ptr i 0)) (h.set i (.cells ds))) : afS P G n ops Q done (⟨some t, .alloc u, ty, pos, aft, gd⟩ :: rest) e h := by
 have hh : ∀ h, (wrF i .hole (.cells ds) (.ptr i 0)).heap h = h.set i (.cells ds) := fun h => by simp [wrF, Ef.heap, X2]
 refine Yr9 (E := wrF i .hole (.cells ds) (.ptr i 0)) hw ht (by simp [wrF, Ef.fit]) (by simpa [wrF, Ef.ok] using hi) (fun h2 kk => ?_) (by rw [hh]; exact k)
 rw [hh]
 have hi2 : h2[i]? = some .hole := kk (i, .hole) (by simp [wrF])
 have q : OpTri P G ⟨some t, .alloc u, ty, pos, aft, gd⟩ ((opds (.alloc u)).map (ev G e)) [] (fun h' d => h' = [.cells ds] ∧ d = .ptr 0 0) := Vg (o := ⟨some t, .alloc u, ty, pos, aft, gd⟩) (by
  show on (Un P u) _
  rw [hz]; exact ⟨rfl, rfl⟩)
 have la : lowL 0 ((opds (.alloc u)).map (ev G e)) := by simp [opds, Op.operands, lowL]
 have L : Lies (fun _ => i) [] h2 := ⟨fun i ob q => by simp at q, fun i j q => by simp at q, fun ob q => by simp at q⟩
 have F := OpTri.frame hG L (by simpa using la) (K1 := fun h' d => h' = [.cells ds] ∧ d = .ptr 0 0) (by
  rintro _ _ ⟨rfl, _⟩
  refine ⟨fun i j hi hj _ => by simp at hi hj; omega, fun j _ hj => hi2⟩) q
 rw [Xh _ _ la] at F
 refine F.mono ?_
 rintro _ _ ⟨_, _, ⟨rfl, rfl⟩, rfl, rfl⟩
 simp [plc, Ww, ren, Xh (fun _ => i) ds lz, wrF]
end
end
section
attribute [local irreducible] on aOp
attribute [local go_sem] decide_true decide_false Zr Zp
attribute [local simp] byD_len
def vB (j n : Nat) : List D := [.v (.int .i64 0), .v (.slice none 0 0), .buf j n, .v (.slice none 0 0)]
def bPs (l : Lat) : List (List D) := (l.parts.map botV).map vaX
def nB (l : Lat) (j : Nat) : List Ob := [.cells (latX l), .cells (vB j l.parts.length), .cells (vB j l.parts.length), .buf 30 4 (bPs l)]
theorem Zv5 {m j n : Nat} (h : j < m) : lowL m (vB j n) := by simp [vB, lowL, low, h]
theorem ren_vB (h : List Ob) (j n : Nat) : renL (shF h) (vB j n) = vB (j + h.length) n := by simp [vB, renL, ren, shF]
theorem low_bPs (m : Nat) (l : Lat) : low m (.sl 4 (bPs l)) := Wf m _
theorem low_nB {m j : Nat} (l : Lat) (h : j < m) : lowH m (nB l j) := fun x hx => by
 simp only [nB, Za, List.not_mem_nil, or_false] at hx
 rcases hx with rfl | rfl | rfl | rfl
 · exact Yy m l
 · exact Zv5 h
 · exact Zv5 h
 · have := low_bPs m l
   rw [low] at this
   exact this
theorem ren_nB (h : List Ob) (l : Lat) (j : Nat) : (nB l j).map (Ww (shF h)) = nB l (j + h.length) := by
 have e1 : renL (shF h) (latX l) = latX l := Xh _ _ (Yy 0 l)
 have e2 : renR (shF h) (bPs l) = bPs l := by
  have := Uj (shF h) _ (low_bPs 0 l)
  rw [ren] at this
  exact (D.sl.inj this).2
 simp [nB, Ww, e1, e2, ren_vB]
variable (G : Nat → D) (hG : ∀ g, low 0 (G g))
include hG
attribute [local go_sem] Zk Zl Zm Int.toNat_natCast List.append_assoc Ze Zh Z8 Z4 Zb Zf Z6 Zi Z2 Z3 Zj kM_0 kM_1 kM_2 kM_3 Zw0 kM_l kM_l2 kM_l3 Zg7 kM_s1 kM_s2 kM_s3 kM_sl Xn Vs
attribute [local go_sem ↓] reduceIte
theorem bottomP0 (l : Lat) (hwf : WfL l) (h6 : l.kind = 6) : Does Z1 G 140 [] [.agg (latX l)] (fun h' r => h' = nB l 3 ∧ r = .agg (vB 3 l.parts.length)) := by
 obtain ⟨hk0, hk5, hk7, hk6, _⟩ := hwf.kinds
 have hpl : l.parts.length ≤ 8 := by have := hk6 h6; omega
 have hpp : ∀ p ∈ l.parts, ∀ h, Does Z1 G 140 h [.agg (latX p)] (fun h' r => h' = h ∧ r = .agg (vaX (botV p))) := fun p hp => Zy9 G hG _ p (Zq _) (hwf.part hp)
 refine Y6 Tryz.func140 rfl (Z0 rfl) hG fun hl0 _ => ?_
 simp only [Tryz.ntmps140]
 have F : _ ∧ _ := ⟨Y4 l, h6⟩
 repeat' first
  | refine g0 ?_
  | fail
 refine Vl 30 4 2 [.v (.int .i64 0), .v (.slice none 0 0)] [.v (.slice none 0 0)] rfl ?_
 refine Yf (fun m e h' => ∃ (k : Nat) (T : List Ob), k ≤ l.parts.length ∧ m = l.parts.length - k ∧ h' = kM (.cells (latX l)) (.cells nilV) (.cells [.v (.int .i64 0), .v (.slice none 0 0), .buf 3 k, .v (.slice none 0 0)]) (.buf 30 4 (((l.parts.take k).map botV).map vaX)) T ∧ e 1 = .ptr 0 0 ∧ e 2 = .ptr 1 0 ∧ e 3 = .ptr 2 0 ∧ e 22 = .sl 6 (l.parts.map latX) ∧ e 23 = .v (.int .i64 l.parts.length) ∧ e 24 = .v (.int .i64 k)) l.parts.length ⟨0, [], Nat.zero_le _, rfl, by rw [Y4 l, h6]; rfl, rfl, rfl, rfl, rfl, rfl, rfl⟩ ?_
 rintro m e h' ⟨k, T, hk, rfl, rfl, e1, e2, e3, e22, e23, e24⟩
 by_cases hlt : k < l.parts.length
 rotate_left
 · obtain rfl : k = l.parts.length := by omega
   rw [List.take_length]
   repeat' first
    | (with_reducible first | refine sA rfl ?_ | refine sI rfl rfl ?_ | refine sT rfl ?_ | refine sB rfl ?_)
    | (with_reducible refine Y7 ?_; first | refine Yp ?_ | (refine ao1 rfl rfl fun K HK => ?_; simp only [go_sem, Y4 l, e1, e2, e3, e22, e23, e24, nilV]; (first | refine Yt (fun hq => ?_) (fun hq => ?_) | (refine ⟨by omega, by omega, ?_⟩; intro row hrow; obtain ⟨x, hx, rfl⟩ := Zb9 hrow; clear hrow) | skip) <;> (refine HK _ _ ?_; clear HK K)) | (refine ao1' rfl fun K HK => ?_; simp only [go_sem, Y4 l, e1, e2, e3, e22, e23, e24, nilV]; refine HK _ _ ?_; clear HK K))
    | (exfalso; omega)
   exact ⟨.inr rfl, endX [.agg (vB 3 l.parts.length)] (nB l 3) T (.agg (vB 3 l.parts.length)) (by simp only [resD, Tryz.results140, go_sem, ↓reduceIte, Z2, Z6, Z3, e2, kM_1]; try rfl) (by rw [nB, Y4 l]; rfl) (by simp) (low_nB l (by simp [nB])) (by rw [low]; exact Zv5 (by simp [nB])) (by simp [outD, cvD, cv1, vB, nB]) ⟨rfl, rfl⟩⟩
 have hx : l.parts[k]? = some l.parts[k] := Z5 hlt
 have wk : IntKind.i64.wrap ((k : Int) + 1) = ((k + 1 : Nat) : Int) := IntWalk.i64_in _ (by omega)
 have htk : (l.parts.take (k + 1)).map botV = (l.parts.take k).map botV ++ [botV l.parts[k]] := by rw [List.take_add_one, hx, Zo]; rfl
 have hbp := hpp _ (List.getElem_mem hlt)
 generalize l.parts[k] = x at hx hbp htk
 have hlr : (((l.parts.take k).map botV).map vaX).length = k := by rw [Z4, Z4, List.length_take, Nat.min_eq_left hk]
 simp only [Y4 x] at hbp
 generalize botV x = bx at hbp htk
 have hro : X3 4 [vaX bx] := fun row hr => by simp only [Zc] at hr; subst hr; exact ⟨Xn bx, List.all_eq_true.1 (Zb4 bx)⟩
 have F : _ ∧ _ ∧ _ ∧ _ ∧ _ ∧ _ ∧ _ ∧ _ ∧ _ := ⟨Y4 x, Y4 l, e1, e2, e3, e22, e23, e24, wk⟩
 repeat' first
  | (with_reducible refine Ya ?_; refine X7 mixd (by kernel_rfl) ?_)
  | ((with_reducible refine Uf ?_); first | (refine Jz rfl rfl rfl rfl (by (simp only [go_sem, F]; rfl)) hlr (by simp only [go_sem, F]; rfl) (by (simp only [go_sem, F]; rfl)) (by simp) hro (by first | omega | (simp; omega)) ?_) | (refine Xq rfl rfl rfl (by (simp only [go_sem, F]; rfl)) (by rw [getD_agg' aggT_26, szT_26]; rfl) ?_) | (refine aS1 rfl rfl fun K HK => ?_; simp only [go_sem, F]; (first | refine Yt (fun hq => ?_) (fun hq => ?_) | (refine ⟨by omega, by omega, ?_⟩; refine Xf (by assumption) ?_) | skip) <;> (refine HK _ _ rfl ?_; clear HK K)) | refine Xq rfl rfl rfl (by (simp only [go_sem, F]; rfl)) (by rw [getD_one (by simp only [go_sem, F])]; rfl) ?_ | refine Zd9 rfl rfl (by (simp only [go_sem, F]; rfl)) rfl (by simp only [go_sem, F]) (by simp) ?_ | refine Jj rfl rfl (by simp only [litD, X1, go_sem, Z8, Zb, Option.map_some, Option.bind_some, and_self, ↓reduceIte, Z2, Z6, Z3, Zi, Zj, Zk, Zm, Zl, Y4 x, Y4 l, e1, e2, e3, e22, e23, e24, Z4, Int.toNat_natCast, wk, kM_0, kM_1, kM_2, kM_3, kM_s1, kM_s2, kM_s3, Zg7, Zw0, kM_l, kM_sl, kM_l2, kM_l3, Xn, Vs, List.append_assoc, Ze, Zf, Zh, Z8, Zb]; rfl) ?_ | refine Wv (by simp only [List.reverse_cons, List.reverse_nil, Zf, Ze, Wc, chk1]; repeat' (first | exact trivial | refine And.intro ?_ ?_ | exact .inr Yq | exact .inr Yx | exact .inr X9 | exact .inr (Vd (by omega)) | (refine .inr ?_; simp [compat, We, Wg, Va, nop, Zg7, Xn] <;> omega) | exact .inl (by kernel_rfl))) ?_ | refine Xd rfl rfl rfl Zn3 (fun h2 => hbp _) ?_)
  | refine gg ?_
  | refine Two.mk (fun hq => ?_) fun hq => ?_
  | (exfalso; omega)
 exact ⟨rfl, l.parts.length - (k + 1), by omega, k + 1, _, hlt, rfl, (by rw [Y4 l, htk, Zo]; rfl), e1, e2, e3, e22, e23, rfl⟩
theorem bottomP (l : Lat) (hwf : WfL l) (h6 : l.kind = 6) (h : List Ob) : Does Z1 G 140 h [.agg (latX l)] (fun h' r => h' = h ++ nB l (h.length + 3) ∧ r = .agg (vB (h.length + 3) l.parts.length)) :=
 (Zi1 hG 4 (Xy 0 l) (fun M r q => by rw [q.1]; rfl) (bottomP0 G hG l hwf h6) h).mono fun h' r ⟨M, r0, ⟨e1, e2⟩, e3, e4⟩ => by
  subst e1 e2
  rw [ren_nB] at e3
  rw [ren, ren_vB] at e4
  rw [Zn h.length 3]
  exact ⟨e3, e4⟩
def nB2 (l : Lat) (j : Nat) : List Ob := .cells (latX l) :: .cells (vB j l.parts.length) :: nB l j
omit hG in
theorem ren_nB2 (h : List Ob) (l : Lat) (j : Nat) : (nB2 l j).map (Ww (shF h)) = nB2 l (j + h.length) := by
 have e1 : renL (shF h) (latX l) = latX l := Xh _ _ (Yy 0 l)
 rw [nB2, Z7, Z7, ren_nB, Ww, Ww, e1, ren_vB]
 rfl
omit hG in
theorem low_nB2 {m j : Nat} (l : Lat) (h : j < m) : lowH m (nB2 l j) := fun x hx => by
 rcases Za.1 hx with rfl | hx
 · exact Yy m l
 rcases Za.1 hx with rfl | hx
 · exact Zv5 h
 · exact low_nB l h x hx
theorem bottomQ0 (l : Lat) (hsm : Sm l) (hc : chkE l = 0) (h6 : l.kind = 6) : Does Z1 G 130 [] [.agg (latX l)] (fun h' r => h' = nB2 l 5 ∧ r = .tup [.agg (vB 5 l.parts.length), .v (.int .i64 0)]) := by
 have hwf := Wt hc
 have hck := Zi4 G hG l hsm
 rw [hc] at hck
 have hb : ∀ h : List Ob, Does Z1 G 140 h [.agg (latX l)] (fun h' r => h' = h ++ nB l (h.length + 3) ∧ r = .agg [.v (.int .i64 0), .v (.slice none 0 0), .buf (h.length + 3) l.parts.length, .v (.slice none 0 0)]) := bottomP G hG l hwf h6
 simp only [Y4 l] at hck hb
 refine Y6 Tryz.func130 rfl (Z0 rfl) hG fun hl0 _ => ?_
 simp only [Tryz.ntmps130]
 have F := Y4 l
 repeat' first
  | refine g0 ?_
  | (with_reducible refine Y7 ?_; first | refine gc rfl rfl rfl Jt (hck _) ?_ | refine gc rfl rfl rfl Zn3 (hb _) ?_)
 all_goals first | (exfalso; omega) | exact ⟨.inr rfl, endX [.agg (vB 5 l.parts.length), .v (.int .i64 0)] (nB2 l 5) [] (.tup [.agg (vB 5 l.parts.length), .v (.int .i64 0)]) (by simp only [resD, Tryz.results130, go_sem, ↓reduceIte, Z2, Z6, Z3]; try rfl) (by rw [nB2, Y4 l]; rfl) (by simp) (low_nB2 l (by simp [nB2, nB])) (by rw [low, lowL, lowL, lowL, low, low]; exact ⟨Zv5 (by simp [nB2, nB]), trivial, trivial⟩) (by simp [outD, cvD, cv1, vB, nB2, nB]) ⟨rfl, rfl⟩⟩
theorem bottomQ (l : Lat) (hsm : Sm l) (hc : chkE l = 0) (h6 : l.kind = 6) (h : List Ob) : Does Z1 G 130 h [.agg (latX l)] (fun h' r => h' = h ++ nB2 l (h.length + 5) ∧ r = .tup [.agg (vB (h.length + 5) l.parts.length), .v (.int .i64 0)]) :=
 (Zi1 hG 6 (Xy 0 l) (fun M r q => by rw [q.1]; rfl) (bottomQ0 G hG l hsm hc h6) h).mono fun h' r ⟨M, r0, ⟨e1, e2⟩, e3, e4⟩ => by
  subst e1 e2
  rw [ren_nB2] at e3
  rw [ren, renL, renL, renL, ren, ren, ren_vB] at e4
  rw [Zn h.length 5]
  exact ⟨e3, e4⟩
def nB3 (l : Lat) (j : Nat) : List Ob := .cells (latX l) :: .cells (vB j l.parts.length) :: (nB2 l j ++ [.cells (vB j l.parts.length)])
theorem bottomR0 (l : Lat) (hsm : Sm l) (hc : chkE l = 0) (h6 : l.kind = 6) : Does Z1 G 83 [] [.agg (latX l)] (fun h' r => h' = nB3 l 7 ∧ r = .agg (vB 7 l.parts.length)) := by
 have hb : ∀ h : List Ob, Does Z1 G 130 h [.agg (latX l)] (fun h' r => h' = h ++ nB2 l (h.length + 5) ∧ r = .tup [.agg [.v (.int .i64 0), .v (.slice none 0 0), .buf (h.length + 5) l.parts.length, .v (.slice none 0 0)], .v (.int .i64 0)]) := bottomQ G hG l hsm hc h6
 have hn : ∀ j, nB2 l j = [.cells (latX l), .cells (vB j l.parts.length), .cells (latX l), .cells (vB j l.parts.length), .cells (vB j l.parts.length), .buf 30 4 (bPs l)] := fun j => rfl
 simp only [hn, Y4 l] at hb
 have hlow : lowH (nB3 l 7).length (nB3 l 7) := fun x hx => by
  show Yc9 9 x
  rcases Za.1 hx with rfl | hx
  · exact Yy 9 l
  rcases Za.1 hx with rfl | hx
  · exact Zv5 (by decide)
  rcases List.mem_append.1 hx with hx | hx
  · exact low_nB2 l (by decide) x hx
  · rw [Zc.1 hx]; exact Zv5 (by decide)
 refine Y6 Tryz.func83 rfl (Z0 rfl) hG fun hl0 _ => ?_
 simp only [Tryz.ntmps83]
 have F := Y4 l
 repeat' first
  | refine g0 ?_
  | (with_reducible refine Y7 ?_; refine gc rfl rfl rfl ent_130 (hb _) ?_)
 all_goals first | (exfalso; omega) | exact ⟨.inr rfl, endX [.agg (vB 7 l.parts.length)] (nB3 l 7) [] (.agg (vB 7 l.parts.length)) (by simp only [resD, Tryz.results83, go_sem, ↓reduceIte, Z2, Z6, Z3]; try rfl) (by rw [nB3, hn, Y4 l]; rfl) (by simp) hlow (by rw [low]; exact Zv5 (by simp [nB3, nB2, nB])) (by simp [outD, cvD, cv1, vB, nB3, nB2, nB]) ⟨rfl, rfl⟩⟩
theorem bottomR (l : Lat) (hsm : Sm l) (hc : chkE l = 0) (h6 : l.kind = 6) (h : List Ob) : Does Z1 G 83 h [.agg (latX l)] (fun h' r => ∃ X : List Ob, X.length = 9 ∧ X[7]? = some (.buf 30 4 (bPs l)) ∧ h' = h ++ X ∧ r = .agg (vB (h.length + 7) l.parts.length)) :=
 (Zi1 hG 9 (Xy 0 l) (fun M r q => by rw [q.1]; rfl) (bottomR0 G hG l hsm hc h6) h).mono fun h' r ⟨M, r0, ⟨e1, e2⟩, e3, e4⟩ => by
  subst e1 e2
  rw [ren, ren_vB] at e4
  rw [Zn h.length 7]
  refine ⟨_, ?_, ?_, e3, e4⟩
  · simp [nB3, nB2, nB]
  · rw [nB3, Z7, Z7, Zo, ren_nB2]; rfl
theorem vBottom_d (l : Lat) (hsm : Sm l) (hc : chkE l = 0) (h : List Ob) : Does Z1 G 130 h [.agg (latX l)] (fun h' r => h' = h ∧ r = .tup [.agg (vaX (botV l)), .v (.int .i64 0)]) := by
 refine Y9 G hG (Xy 0 l) (by rw [low, lowL, lowL, lowL, low, low]; exact ⟨Yd _ _, trivial, trivial⟩) ?_ h
 clear h
 have hck := Zi4 G hG l hsm
 rw [hc] at hck
 have hb := Zy9 G hG _ l (Zq _) (Wt hc)
 have hlv := Yd 0 (botV l)
 generalize botV l = b at *
 simp only [Y4 l, Y5 b] at hck hb hlv ⊢
 refine Y6 Tryz.func130 rfl (Z0 rfl) hG fun hl0 _ => ?_
 simp only [Tryz.ntmps130]
 have F : _ ∧ _ := ⟨Y4 l, Y5 b⟩
 repeat' first
  | refine g0 ?_
  | (with_reducible refine Y7 ?_; first | refine gc rfl rfl rfl Jt (hck _) ?_ | refine gc rfl rfl rfl Zn3 (hb _) ?_)
 all_goals first | (exfalso; omega) | exact ⟨.inr rfl, endD (ds := [.agg [.v (.int .i64 b.n), .sl 1 (b.names.map strX), .sl 4 (b.parts.map vaX), .sl 2 (b.entries.map enX)], .v (.int .i64 0)]) (r := .tup [.agg [.v (.int .i64 b.n), .sl 1 (b.names.map strX), .sl 4 (b.parts.map vaX), .sl 2 (b.entries.map enX)], .v (.int .i64 0)]) hl0 (by simp only [resD, Tryz.results130, go_sem, ↓reduceIte, Z2, Z6, Z3]; try rfl) (by simp) (by simp) (by simp [outD, cvD, cv1]) (by rw [low, lowL, lowL, lowL, low, low]; exact ⟨hlv, trivial, trivial⟩) ⟨rfl, rfl⟩⟩
theorem ibottom_d (l : Lat) (hsm : Sm l) (hc : chkE l = 0) (h : List Ob) : Does Z1 G 83 h [.agg (latX l)] (fun h' r => h' = h ∧ r = .agg (vaX (botV l))) := by
 refine Y9 G hG (Xy 0 l) (by rw [low]; exact Yd _ _) ?_ h
 clear h
 have hb := vBottom_d G hG l hsm hc
 have hlv := Yd 0 (botV l)
 generalize botV l = b at *
 simp only [Y4 l, Y5 b] at hb hlv ⊢
 refine Y6 Tryz.func83 rfl (Z0 rfl) hG fun hl0 _ => ?_
 simp only [Tryz.ntmps83]
 have F : _ ∧ _ := ⟨Y4 l, Y5 b⟩
 repeat' first
  | refine g0 ?_
  | (with_reducible refine Y7 ?_; refine gc rfl rfl rfl ent_130 (hb _) ?_)
 all_goals first | (exfalso; omega) | exact ⟨.inr rfl, endD (ds := [.agg [.v (.int .i64 b.n), .sl 1 (b.names.map strX), .sl 4 (b.parts.map vaX), .sl 2 (b.entries.map enX)]]) (r := .agg [.v (.int .i64 b.n), .sl 1 (b.names.map strX), .sl 4 (b.parts.map vaX), .sl 2 (b.entries.map enX)]) hl0 (by simp only [resD, Tryz.results83, go_sem, ↓reduceIte, Z2, Z6, Z3]; try rfl) (by simp) (by simp) (by simp [outD, cvD, cv1]) (by rw [low]; exact hlv) ⟨rfl, rfl⟩⟩
end
section
attribute [local irreducible] on aOp
attribute [local go_sem] decide_true decide_false Zr Zp
attribute [local simp] byD_len
section
variable {A B C y y' z : Ob} {T l : List Ob}
end
def dB (l : Lat) (v : Val) : List Ob := [.cells (latX l), .cells (vaX v), .buf 30 4 ((decV l v).map vaX)]
theorem Za7 (m : Nat) (l : Lat) (v : Val) : lowH m (dB l v) := fun x hx => by
 simp only [dB, Za, List.not_mem_nil, or_false] at hx
 rcases hx with rfl | rfl | rfl
 · exact Yy m l
 · exact Yd m v
 · have := Wf m (decV l v)
   rw [low] at this
   exact this
theorem ren_dB (π : Nat → Nat) (l : Lat) (v : Val) : (dB l v).map (Ww π) = dB l v := by
 have e1 : renL π (latX l) = latX l := Xh _ _ (Yy 0 l)
 have e2 : renL π (vaX v) = vaX v := Xh _ _ (Yd 0 v)
 have e3 : renR π ((decV l v).map vaX) = (decV l v).map vaX := by
  have := Uj π _ (Wf 0 (decV l v))
  rw [ren] at this
  exact (D.sl.inj this).2
 simp only [dB, Ww, e1, e2, e3, Z7, List.map_nil]
theorem Zw9 (x : Val) : X3 4 [vaX x] := fun row hr => by simp only [Zc] at hr; subst hr; exact ⟨Xn x, List.all_eq_true.1 (Zb4 x)⟩
def DecOk (G : Nat → D) (l : Lat) (v : Val) : Prop := Does Z1 G 42 [] [.agg (latX l), .agg (vaX v)] (fun h' r => h' = dB l v ∧ r = .buf 2 (decV l v).length)
variable (G : Nat → D) (hG : ∀ g, low 0 (G g))
include hG
theorem DecOk.own {l : Lat} {v : Val} (q : DecOk G l v) (h : List Ob) : Does Z1 G 42 h [.agg (latX l), .agg (vaX v)] (fun h' r => h' = h ++ dB l v ∧ r = .buf (h.length + 2) (decV l v).length) :=
 (Zi1 hG 3 (by simp only [lowL, low]; exact ⟨Yy _ l, Yd _ v, trivial⟩) (fun M r q => by rw [q.1]; rfl) q h).mono fun h' r ⟨M, r0, ⟨e1, e2⟩, e3, e4⟩ => by
  subst e1 e2
  rw [ren_dB] at e3
  rw [ren] at e4
  rw [Zn h.length 2]
  exact ⟨e3, e4⟩
theorem DecOk.read {l : Lat} {v : Val} (q : DecOk G l v) (h : List Ob) : Does Z1 G 42 h [.agg (latX l), .agg (vaX v)] (fun h' r => h' = h ∧ r = .sl 4 ((decV l v).map vaX)) :=
 Does.gaveM hG (j := 2) rfl (Wf 0 _) (by simp only [lowL, low]; exact ⟨Yy _ l, Yd _ v, trivial⟩) (Z4 _) q h
attribute [local go_sem] Bool.false_eq_true Zk Zl Zm Ze Z8 Zb Zf Z6 Zi Z2 Z3 Zj
attribute [local go_sem ↓] reduceIte
theorem dec_num (l : Lat) (v : Val) (hsm : Sm l) (hc : chkE l = 0) (hv : VSm v) (h123 : l.kind = 1 ∨ l.kind = 2 ∨ l.kind = 3) : DecOk G l v := by
 unfold DecOk
 have hb := Yj6 G hG l hsm v hv
 have hd : decV l v = if Zq6 l v = true then [] else [v] := by
  obtain ⟨k, lo, hi, ns, ps, rs⟩ := l
  simp only [Lat.kind] at h123
  rw [decV, if_neg (by omega), if_neg (by omega), if_neg (by omega), if_neg (by omega), if_neg (by omega)]
  unfold Zq6
  rw [hc]
  by_cases e : valC v (botV (.mk k lo hi ns ps rs)) = 0 <;> simp [e]
 have hlow := Za7 3 l v
 unfold dB at hlow ⊢
 simp only [Y4 l, Y5 v] at hb hlow ⊢
 have hro := Zw9 v
 simp only [Y5 v] at hro
 refine Y6 Tryz.func42 rfl (Z0 rfl) hG fun hl0 _ => ?_
 simp only [Tryz.ntmps42]
 cases hbb : Zq6 l v
 · rw [hbb] at hb hd
   rw [if_neg (by decide)] at hd
   rw [hd] at hlow ⊢
   rcases h123 with e | e | e
   all_goals
    simp only [e] at hb hlow ⊢
    have F : _ ∧ _ ∧ _ := ⟨Y4 l, Y5 v, e⟩
    repeat' first
     | (with_reducible refine Ya ?_; (refine Vf 30 4 5 (by with_unfolding_all rfl) ?_))
     | (with_reducible refine Y7 ?_; refine W1 rfl rfl rfl rfl (by (simp only [go_sem, F]; rfl)) (by simp) (by simp only [go_sem, F]; rfl) (by (simp only [go_sem, F]; rfl)) (by simp) (by assumption) (by (simp; done)) ?_)
     | refine g0 ?_
     | (with_reducible refine Y7 ?_; refine gc rfl rfl rfl ent_84 (hb _) ?_)
    all_goals first | (exfalso; omega) | exact ⟨.inr rfl, endX [.buf 2 1] _ [.buf 30 4 [vaX v]] (.buf 2 1) rfl (by simp only [Z7, List.map_nil, Y5 v]; rfl) (by simp) hlow (by rw [low]; simp) (by simp [outD, cvD, cv1]) ⟨rfl, rfl⟩⟩
 · rw [hbb] at hb hd
   rw [if_pos rfl] at hd
   rw [hd] at hlow ⊢
   rcases h123 with e | e | e
   all_goals
    simp only [e] at hb hlow ⊢
    have F : _ ∧ _ ∧ _ := ⟨Y4 l, Y5 v, e⟩
    repeat' first
     | (with_reducible refine Ya ?_; (refine Vf 30 4 5 (by with_unfolding_all rfl) ?_))
     | refine g0 ?_
     | (with_reducible refine Y7 ?_; refine gc rfl rfl rfl ent_84 (hb _) ?_)
    all_goals first | (exfalso; omega) | exact ⟨.inr rfl, endX [.buf 2 0] _ [] (.buf 2 0) rfl rfl (by simp) hlow (by rw [low]; simp) (by simp [outD, cvD, cv1]) ⟨rfl, rfl⟩⟩
end
end Go.Proofs.YtbhkcbidcfofiaaGreat
