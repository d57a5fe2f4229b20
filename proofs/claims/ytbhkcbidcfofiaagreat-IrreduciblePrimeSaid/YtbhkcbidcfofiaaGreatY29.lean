/-
  What the statements of the chapter share, part 29: AWD, QB1, QB2, QB3, QB4, QB6, QD1, QD2, QA10, QD3, QD4, QB5, QD5, QD12, AWE, AW0, QA9, QD6, QP2, QD7.
-/
import Derived.Test.YtbhkcbidcfofiaaGreatY06
import Derived.Test.YtbhkcbidcfofiaaGreatY07
import Derived.Test.YtbhkcbidcfofiaaGreatY13
import Derived.Test.YtbhkcbidcfofiaaGreatY14
import Derived.Test.YtbhkcbidcfofiaaGreatY15
import Derived.Test.YtbhkcbidcfofiaaGreatY16
import Derived.Test.YtbhkcbidcfofiaaGreatY17
import Derived.Test.YtbhkcbidcfofiaaGreatY21
import Derived.Test.YtbhkcbidcfofiaaGreatY24
import Derived.Test.YtbhkcbidcfofiaaGreatY25
import Derived.Test.YtbhkcbidcfofiaaGreatY26
import Derived.Test.YtbhkcbidcfofiaaGreatY27
import Derived.Test.YtbhkcbidcfofiaaGreatY28
set_option linter.unusedVariables false
set_option linter.unusedSimpArgs false
set_option maxRecDepth 100000
set_option maxHeartbeats 8000000
namespace Go.Proofs.YtbhkcbidcfofiaaGreat
open _root_.Bool renaming not_false → Z7, not_true → Za, false_eq_true → Zj
open _root_.Int renaming reduceEq → Zf, reduceLE → Zg, reduceLT → Zh, toNat_natCast → Zk
open _root_.List renaming length_map → Z1, length_cons → Z5, length_nil → Z8, cons_append → Z9, nil_append → Zd, length_append → Ze, getElem?_eq_getElem → Zi, append_assoc → Zl, mem_singleton → Zm, getElem?_append_left → Zn, getElem?_append_right → Zp, map_cons → Zq
open _root_.Nat renaming le_of_ble_eq_true → Z0, reduceEqDiff → Z2, reduceLeDiff → Z3, reduceAdd → Z6, reduceBEq → Zb, reduceMul → Zc
open _root_.Option renaming getD_some → Zo
open _root_.Go.Proofs.Tryz renaming prog → Z4
open Go.RowKit
section
attribute [local irreducible] on aOp
attribute [local go_sem] decide_true decide_false Za Z7
attribute [local simp] byD_len
def LN (P : Program) (G : Nat → D) (c : Code) (Q : Exit → S → Prop) : Nat → S → Prop
 | 0, _ => False
 | k + 1, s => aw P G c (Zr8 (LN P G c Q k) Q) s
theorem aw_loopN {P : Program} {G : Nat → D} {c : Code} {Q : Exit → S → Prop} {s : S} (k : Nat) (h : LN P G c Q k s) : aw P G (.loop c) Q s :=
 aw_loop (fun n s => LN P G c Q n s) k h fun n s hI => by
  cases n with
  | zero => exact hI.elim
  | succ n =>
   refine aw_mono hI fun ex s q => ?_
   cases ex <;> first | exact ⟨n, Nat.lt_succ_self n, q⟩ | exact q
theorem ln_s {P : Program} {G : Nat → D} {c : Code} {Q : Exit → S → Prop} {s : S} {k : Nat} (h : aw P G c (Zr8 (LN P G c Q k) Q) s) : LN P G c Q (k + 1) s := h
theorem ao_idxC {P : Program} {G : Nat → D} {n : Nat} {e : Nat → D} {h : List Ob} {ops : Array Oper} {rest : List Oper} {Q : S → Prop} {t : Nat} {ty : TypeId} {pos : String} {aft : Array Edge} {gd : Option (Nat × Bool)} {u : TypeId} {x y : Operand} {k : Nat} {κ : IntKind} {z : Int} {xs : List (List D)} {row : List D} (hw : Yg ops gd e = some true) (ht : decide (t < n) = true) (hx : ev G e x = .sl k xs) (hy : ev G e y = .v (.int κ z)) (he : (elT P u).bind (szT P) = some k) (h0 : 0 ≤ z) (h1 : z < (xs.length : Int)) (hr : xs[z.toNat]? = some row)
 (q : ao P G ops rest Q ⟨n, upd e t (.rp row), h⟩) : ao P G ops (⟨some t, .indexAddr u x y, ty, pos, aft, gd⟩ :: rest) Q ⟨n, e, h⟩ := by
 refine ao1 hw ht fun K HK => ?_
 rw [aOp_iaddr, hx, hy, idxA_sl]
 exact ⟨he, h0, h1, fun row' hr' => by rw [hr] at hr'; cases hr'; exact HK _ _ q⟩
theorem x1 : IntKind.i64.wrap (0 + 1) = 1 := by decide
theorem x2 : IntKind.i64.wrap (1 + 1) = 2 := by decide
theorem n2E : ((2 : Nat) : Int) = 2 := rfl
def lE : Lat := .mk 4 0 0 [] [] []
def tX : ByteArray := ⟨#[120]⟩
def tY : ByteArray := ⟨#[121]⟩
def tZ : ByteArray := ⟨#[122]⟩
def vE (l : List ByteArray) : Val := .mk 0 l [] []
@[reducible] def lD : List D := [.v (.int .i64 4), .v (.int .i64 0), .v (.int .i64 0), .sl 1 [], .sl 6 [], .sl 2 []]
@[reducible] def vD (l : List ByteArray) : List D := [.v (.int .i64 0), .sl 1 (l.map strX), .sl 4 [], .sl 2 []]
theorem lE_eq : latX lE = lD := by rw [Y4]; rfl
theorem vE_eq (l : List ByteArray) : vaX (vE l) = vD l := by rw [Y5]; rfl
theorem sm_E : Sm lE := .mk _ (by decide) (by decide) (by decide) (fun s h => by cases h) (fun s h => by cases h) fun s h => by cases h
theorem vsm_E (l : List ByteArray) (h : l.length ≤ 5) (hs : ∀ s ∈ l, s.size = 1) : VSm (vE l) := .mk _ (by show l.length ≤ _; omega) (by simp [vE, Val.parts]) (by simp [vE, Val.entries]) (fun s q => by have := hs s q; omega) (by simp [vE, Val.entries]) (by simp [vE, Val.parts])
theorem vsm_xy : VSm (vE [tX, tY]) := vsm_E _ (by decide) (by decide)
theorem vsm_yz : VSm (vE [tY, tZ]) := vsm_E _ (by decide) (by decide)
theorem vsm_x : VSm (vE [tX]) := vsm_E _ (by decide) (by decide)
theorem Zk5 : low 0 (.agg lD) := by rw [← lE_eq, low]; exact Yp _ _
theorem Ux (l : List ByteArray) : low 0 (.agg (vD l)) := by rw [← vE_eq, low]; exact Yb _ _
variable (G : Nat → D) (hG : ∀ g, low 0 (G g))
include hG
theorem ick (L : List (List ByteArray)) (hv : ∀ v ∈ L, VSm (vE v)) (he : errF lE (L.map vE) = 0) (hl : L.length ≤ 1000) {h : List Ob} {i n : Nat} (hn : L.length = n) (hi : h[i]? = some (.buf 30 4 (L.map vD))) : Does Z4 G 40 h [.agg lD, .buf i n] (fun h' r => h' = h ∧ r = .v (.int .i64 0)) := by
 subst hn
 have e : L.map vD = (L.map vE).map vaX := by rw [List.map_map]; exact List.map_congr_left fun v _ => (vE_eq v).symm
 rw [e] at hi
 have q := Does.borrow2 hG hi (by rw [Z1, Z1]) (by rw [low]; exact Yp _ lE) (Wz _) (Yo5 G hG lE sm_E (L.map vE) (fun x hx => by obtain ⟨v, h1, rfl⟩ := List.mem_map.1 hx; exact hv v h1) (by rw [Z1]; omega) [])
 rw [he, lE_eq] at q
 exact q
attribute [local go_sem] Zf Zg Zh Z5 Z8 Zq List.map_nil Z6 Zb Z2 Z3 Zc
attribute [local go_sem ↓] reduceIte
theorem ranked_x (h : List Ob) : Does Z4 G 60 h [.agg lD] (fun h' r => h' = h ∧ r = .v (.bool true)) := by
 refine Y9 G hG (by rw [lowL, lowL]; exact ⟨Zk5, trivial⟩) (by rw [low]; trivial) ?_ h
 clear h
 have hcf := Yd6 G [] (fun _ => false) 116 [] ent_116 (by simp) [.cells lD] (fun c hc => by cases hc)
 refine Y6 Tryz.func60 rfl (Z0 rfl) hG fun hl0 _ => ?_
 simp only [Tryz.ntmps60]
 repeat' first
  | (with_reducible first | refine sA rfl ?_ | refine sI rfl rfl ?_ | refine sT rfl ?_)
  | (with_reducible refine Y7 ?_; first | refine Yn ?_ | (refine ao1 rfl rfl fun K HK => ?_; (first | refine Yi rfl ?_ | skip); simp only [go_sem, lD, List.any_nil] <;> (refine HK _ _ ?_; clear HK K)) | refine ao0 rfl rfl ?_ | (refine ao2 rfl rfl rfl ent_81 (hcf) ?_; rintro _ _ ⟨rfl, rfl⟩))
 all_goals first | (exfalso; omega) | exact ⟨.inr rfl, endD (r := .v (.bool true)) hl0 rfl (by simp) (by simp) rfl (by rw [low]; trivial) ⟨rfl, rfl⟩⟩
theorem rank_x (h : List Ob) : Does Z4 G 61 h [.agg lD, .agg (vD [tX, tY])] (fun h' r => h' = h ∧ r = .v (.int .i64 2)) := by
 refine Y9 G hG (by rw [lowL, lowL, lowL]; exact ⟨Zk5, Ux _, trivial⟩) (by rw [low]; trivial) ?_ h
 clear h
 have hadd := fun h i => add_d2 G (h := h) (i := i) (m := 2) (by omega)
 rw [show min (2 : Int) ov = 2 by unfold ov; rfl] at hadd
 refine Y6 Tryz.func61 rfl (Z0 rfl) hG fun hl0 _ => ?_
 simp only [Tryz.ntmps61]
 repeat' first
  | (with_reducible first | refine sA rfl ?_ | refine sI rfl rfl ?_ | refine sT rfl ?_ | refine sB rfl ?_)
  | (with_reducible refine Y7 ?_; first | (refine ao_mkf rfl rfl ?_) | refine Yn ?_ | (refine ao1 rfl rfl fun K HK => ?_; simp only [go_sem, lD, vD] <;> (refine HK _ _ ?_; clear HK K)) | (refine ao2 rfl rfl rfl ent_117 (hadd _ _ rfl) ?_; rintro _ _ ⟨rfl, rfl⟩) | (refine ao1' rfl fun K HK => ?_; simp only [go_sem, lD, vD]; refine HK _ _ ?_; clear HK K))
 all_goals first | (exfalso; omega) | exact ⟨.inr rfl, endD (r := .v (.int .i64 2)) hl0 rfl (by simp) (by simp) rfl (by rw [low]; trivial) ⟨rfl, rfl⟩⟩
theorem Rank_x (h : List Ob) : Does Z4 G 27 h [.agg lD, .agg (vD [tX, tY])] (fun h' r => h' = h ∧ r = .tup [.v (.int .i64 2), .v (.int .i64 0)]) := by
 refine Y9 G hG (by rw [lowL, lowL, lowL]; exact ⟨Zk5, Ux _, trivial⟩) (by simp [low, lowL]) ?_ h
 clear h
 have hck := fun (h : List Ob) (i : Nat) (hi : h[i]? = some (.buf 30 4 [vD [tX, tY]])) => ick G hG [[tX, tY]] (fun v hv => by rw [Zm.1 hv]; exact vsm_xy) (by kernel_rfl) (by decide) (n := 1) rfl hi
 have hd := dist_d G hG _ lE (Nat.le_refl _) (Ut (by kernel_rfl))
 rw [lE_eq, show W3 lE = true by kernel_rfl] at hd
 have hr := ranked_x G hG
 have hk := rank_x G hG
 refine Y6 Tryz.func27 rfl (Z0 rfl) hG fun hl0 _ => ?_
 simp only [Tryz.ntmps27]
 repeat' first
  | (with_reducible first | refine sA rfl ?_ | refine sI rfl rfl ?_ | refine sT rfl ?_)
  | (with_reducible refine Y7 ?_; first | refine Yn ?_ | (refine ao1 rfl rfl fun K HK => ?_; (first | refine Yi rfl ?_ | skip); simp only [go_sem, Zj] <;> (refine HK _ _ ?_; clear HK K)) | (refine ao2 rfl rfl rfl Yc7 (hck _ _ rfl) ?_; rintro _ _ ⟨rfl, rfl⟩) | (refine ao2 rfl rfl rfl ent_41 (hd _) ?_; rintro _ _ ⟨rfl, rfl⟩) | (refine ao2 rfl rfl rfl ent_60 (hr _) ?_; rintro _ _ ⟨rfl, rfl⟩) | (refine ao2 rfl rfl rfl ent_61 (hk _) ?_; rintro _ _ ⟨rfl, rfl⟩))
 all_goals first | (exfalso; omega) | exact ⟨.inr rfl, endD (r := .tup [.v (.int .i64 2), .v (.int .i64 0)]) hl0 rfl (by simp) (by simp) rfl (by simp [low, lowL]) ⟨rfl, rfl⟩⟩
end
section
variable {P : Program} {G : Nat → D} {n : Nat} {e : Nat → D} {h : List Ob} {ops : Array Oper}
def cpF1 (ops : Array Oper) (i : Nat) (E : Ef) : Nat → List Ef → Prop
 | _, [] => True
 | j, F :: t => (Zt7 ops j i = true ∨ compF E F) ∧ cpF1 ops i E (j + 1) t
def cpFA (ops : Array Oper) : Nat → List Ef → Prop
 | _, [] => True
 | i, E :: t => cpF1 ops i E (i + 1) t ∧ cpFA ops (i + 1) t
theorem cpF1_get {i : Nat} {E : Ef} : ∀ (es : List Ef) (k j : Nat) (F : Ef), cpF1 ops i E k es → es[j]? = some F → Zt7 ops (k + j) i = true ∨ compF E F
 | [], _, _, _, _, q => by simp at q
 | F :: t, k, 0, F', q, r => by simp at r; subst r; exact q.1
 | F :: t, k, j + 1, F', q, r => by rw [show k + (j + 1) = k + 1 + j by omega]; exact cpF1_get t (k + 1) j F' q.2 (by simpa using r)
theorem cpFA_get : ∀ (es : List Ef) (k i j : Nat) (E F : Ef), cpFA ops k es → es[i]? = some E → es[j]? = some F → i < j → Zt7 ops (k + j) (k + i) = true ∨ compF E F
 | [], _, _, _, _, _, _, q, _, _ => by simp at q
 | X :: t, k, 0, j, E, F, q, r1, r2, hlt => by
  simp at r1; subst r1
  cases j with
  | zero => omega
  | succ j => rw [show k + (j + 1) = k + 1 + j by omega]; exact cpF1_get t (k + 1) j F q.1 (by simpa using r2)
 | X :: t, k, i + 1, j, E, F, q, r1, r2, hlt => by
  cases j with
  | zero => omega
  | succ j =>
   rw [show k + (j + 1) = k + 1 + j by omega, show k + (i + 1) = k + 1 + i by omega]
   exact cpFA_get t (k + 1) i j E F q.2 (by simpa using r1) (by simpa using r2) (by omega)
def afS (P : Program) (G : Nat → D) (n : Nat) (ops : Array Oper) (Q : (Nat → D) → List Ob → Prop) : List Ef → List Oper → (Nat → D) → List Ob → Prop
 | done, [], e, h => cpFA ops 0 done.reverse ∧ Q e h
 | done, o :: rest, e, h => ∃ E, YDT P G ops o E e ∧ E.ok h ∧ afS P G n ops Q (E :: done) rest (putE n e o.dst E.d) (E.heap h)
theorem afS_af {Q : (Nat → D) → List Ob → Prop} : ∀ (rest : List Oper) (done : List Ef) (e : Nat → D) (h : List Ob), afS P G n ops Q done rest e h →
 ∃ es, (∀ j, j < done.length → es[j]? = done.reverse[j]?) ∧ es.length = done.length + rest.length ∧ cpFA ops 0 es ∧ af P G n ops (fun k => (es[k]?).getD nopF) Q done.length rest e h
 | [], done, e, h, q => ⟨done.reverse, fun _ _ => rfl, by simp, q.1, q.2⟩
 | o :: rest, done, e, h, q => by
  obtain ⟨E, h1, h2, h3⟩ := q
  obtain ⟨es, g1, g2, g3, g4⟩ := afS_af rest (E :: done) _ _ h3
  have hE : es[done.length]? = some E := by
   rw [g1 _ (by simp)]; simp
  refine ⟨es, fun j hj => ?_, by simp at g2 ⊢; omega, g3, ?_⟩
  · rw [g1 j (by simp; omega), List.reverse_cons, Zn (by simpa using hj)]
  · refine ⟨?_, ?_, ?_⟩
    · simp only [hE, Zo]; exact h1
    · simp only [hE, Zo]; exact h2
    · simp only [hE, Zo]
      simpa using g4
theorem aw_drawS (c : Nat) {id : Nat} {l : List Oper} {Q : Exit → S → Prop} (hm : P.follows .mixedOrders = true) (hB : Region.lexB .any l.toArray = true) (H : afS P G n l.toArray (fun e h => Q .normal ⟨n, e, h⟩) [] l e (h ++ holes c)) : aw P G (.region id l.toArray true) Q ⟨n, e, h⟩ := by
 obtain ⟨es, _, g2, g3, g4⟩ := afS_af l [] e _ H
 refine aw_holes c (aw_drawF (ef := fun k => (es[k]?).getD nopF) hm hB (fun i j oj hij hj hno hnt => ?_) g4)
 have hjl : j < es.length := by
  have := (Array.getElem?_eq_some_iff.1 hj).1
  simp at this g2; omega
 rcases cpFA_get es 0 i j _ _ g3 (Zi (show i < es.length by omega)) (Zi hjl) hij with hw | hc
 · exfalso
   rw [Nat.zero_add, Nat.zero_add] at hw
   unfold Zt7 at hw
   rw [hj] at hw
   have hw : twB .any l.toArray (j + 1) j i = true := hw
   rw [hnt] at hw; cases hw
 · simp only [Zi (show i < es.length by omega), Zi hjl, Zo]
   exact hc
def puF (d : D) : Ef := ⟨[], [], d⟩
def reF (i : Nat) (ob : Ob) (d : D) : Ef := ⟨[(i, ob)], [], d⟩
def wrF (i : Nat) (ob ob' : Ob) (d : D) : Ef := ⟨[(i, ob)], [(i, ob')], d⟩
theorem cmF_pl {d : D} {F : Ef} : compF (puF d) F := ⟨by simp [puF], by simp [puF]⟩
theorem cmF_pr {d : D} {F : Ef} : compF F (puF d) := cmF_pl.symm
theorem cmF_rr {i j : Nat} {o o' : Ob} {d d' : D} : compF (reF i o d) (reF j o' d') := ⟨by simp [reF], by simp [reF]⟩
theorem cmF_rw {i j : Nat} {o o' o'' : Ob} {d d' : D} (k : i ≠ j) : compF (reF i o d) (wrF j o' o'' d') := ⟨by simp [reF], by simp [reF, wrF]; exact Ne.symm k⟩
theorem cmF_ww {i j : Nat} {o o' p p' : Ob} {d d' : D} (k : i ≠ j) : compF (wrF i o p d) (wrF j o' p' d') := ⟨by simp [wrF]; exact k, by simp [wrF]; exact Ne.symm k⟩
section
variable {done : List Ef} {rest : List Oper} {Q : (Nat → D) → List Ob → Prop} {t : Nat} {op : Op} {ty : TypeId} {pos : String} {aft : Array Edge} {gd : Option (Nat × Bool)}
theorem bS_nil (c : cpFA ops 0 done.reverse) (q : Q e h) : afS P G n ops Q done [] e h := ⟨c, q⟩
theorem Zw3 {d : D} : (puF d).heap h = h := by simp [puF, Ef.heap, Xt]
theorem bS_of {E : Ef} (hw : Yg ops gd e = some true) (ht : decide (t < n) = true) (hf : E.fit) (hk : E.ok h) (q : ∀ h2, E.ok h2 → OpTri P G ⟨some t, op, ty, pos, aft, gd⟩ ((opds op).map (ev G e)) h2 (fun h' d => h' = E.heap h2 ∧ d = E.d))
 (k : afS P G n ops Q (E :: done) rest (upd e t E.d) (E.heap h)) : afS P G n ops Q done (⟨some t, op, ty, pos, aft, gd⟩ :: rest) e h :=
 ⟨E, .inl ⟨hw, hf, q⟩, hk, by unfold putE; simp only [if_pos (of_decide_eq_true ht)]; exact k⟩
theorem bS1 (hw : Yg ops gd e = some true) (ht : decide (t < n) = true) (H : ∀ K : List Ob → D → Prop, (∀ h' d, h' = [] → afS P G n ops Q (puF d :: done) rest (upd e t d) h → K h' d) → aOp P G e [] K op) : afS P G n ops Q done (⟨some t, op, ty, pos, aft, gd⟩ :: rest) e h := by
 obtain ⟨d, h1, _, h2⟩ := Yr0 (H (fun h' d => h' = [] ∧ afS P G n ops Q (puF d :: done) rest (upd e t d) h) fun h' d q1 q2 => ⟨q1, q2⟩) fun h' d q => q.1
 refine bS_of (E := puF d) hw ht (by simp [puF, Ef.fit]) (by simp [puF, Ef.ok]) (fun h2 _ => ?_) (by rw [Zw3]; exact h2)
 rw [Zw3]
 exact Za4 (o := ⟨some t, op, ty, pos, aft, gd⟩) (aOp_any h1 h2)
theorem bS_load {u : TypeId} {x : Operand} {i o : Nat} {ds : List D} {d : D} (hw : Yg ops gd e = some true) (ht : decide (t < n) = true) (hx : ev G e x = .ptr i o) (hi : h[i]? = some (.cells ds)) (hg : getD P u ds o = some d)
 (k : afS P G n ops Q (reF i (.cells ds) d :: done) rest (upd e t d) h) : afS P G n ops Q done (⟨some t, .load u x, ty, pos, aft, gd⟩ :: rest) e h := by
 have hh : ∀ h, (reF i (.cells ds) d).heap h = h := fun h => by simp [reF, Ef.heap, Xt]
 refine bS_of (E := reF i (.cells ds) d) hw ht (by simp [reF, Ef.fit]) (by simpa [reF, Ef.ok] using hi) (fun h2 kk => ?_) (by rw [hh]; exact k)
 rw [hh]
 have hi2 : h2[i]? = some (.cells ds) := kk (i, .cells ds) (by simp [reF])
 refine Za4 (o := ⟨some t, .load u x, ty, pos, aft, gd⟩) ?_
 show on (Zb1 P h2 u (ev G e x)) _
 rw [hx]
 simp only [Zb1, hi2, hg, on]
 exact ⟨trivial, rfl⟩
theorem bS_store {u : TypeId} {x y : Operand} {i o : Nat} {ds es : List D} (hw : Yg ops gd e = some true) (hx : ev G e x = .ptr i o) (hi : h[i]? = some (.cells ds)) (hy : (ev G e y).cells = some es) (hc : (es.all D.one && szT P u == some es.length) = true) (hle : o + es.length ≤ ds.length)
 (k : afS P G n ops Q (wrF i (.cells ds) (.cells (putL ds o es)) (.v undef) :: done) rest e (h.set i (.cells (putL ds o es)))) : afS P G n ops Q done (⟨none, .store u x y, ty, pos, aft, gd⟩ :: rest) e h := by
 have hh : ∀ h, (wrF i (.cells ds) (.cells (putL ds o es)) (.v undef)).heap h = h.set i (.cells (putL ds o es)) := fun h => by simp [wrF, Ef.heap, Xt]
 refine ⟨wrF i (.cells ds) (.cells (putL ds o es)) (.v undef), .inl ⟨hw, by simp [wrF, Ef.fit], fun h2 kk => ?_⟩, by simpa [wrF, Ef.ok] using hi, by rw [hh]; exact k⟩
 have hi2 : h2[i]? = some (.cells ds) := kk (i, .cells ds) (by simp [wrF])
 rw [hh]
 refine Za4 (o := ⟨none, .store u x y, ty, pos, aft, gd⟩) ?_
 show on (Zd8 P h2 u (ev G e x) (ev G e y)) _
 rw [hx]
 simp only [Zd8, hy, hc, if_true, hi2, if_pos hle, on]
 exact ⟨trivial, rfl⟩
theorem bS_lit (hG : ∀ g, low 0 (G g)) {i u len e' k' : Nat} {parts : Array (Nat × Operand)} {xs : List (List D)} (hw : Yg ops gd e = some true) (ht : decide (t < n) = true) (hl : litD P u len (parts.toList.map fun q => (q.1, ev G e q.2)) = some (e', k', xs)) (hi : h[i]? = some .hole)
 (la : lowL 0 ((opds (.buildSlice u len parts)).map (ev G e))) (lr : low 0 (.sl k' xs))
 (k : afS P G n ops Q (wrF i .hole (.buf e' k' xs) (.buf i len) :: done) rest (upd e t (.buf i len)) (h.set i (.buf e' k' xs))) : afS P G n ops Q done (⟨some t, .buildSlice u len parts, ty, pos, aft, gd⟩ :: rest) e h := by
 have hh : ∀ h, (wrF i .hole (.buf e' k' xs) (.buf i len)).heap h = h.set i (.buf e' k' xs) := fun h => by simp [wrF, Ef.heap, Xt]
 refine bS_of (E := wrF i .hole (.buf e' k' xs) (.buf i len)) hw ht (by simp [wrF, Ef.fit]) (by simpa [wrF, Ef.ok] using hi) (fun h2 kk => ?_) (by rw [hh]; exact k)
 rw [hh]
 have hi2 : h2[i]? = some .hole := kk (i, .hole) (by simp [wrF])
 have q : OpTri P G ⟨some t, .buildSlice u len parts, ty, pos, aft, gd⟩ ((opds (.buildSlice u len parts)).map (ev G e)) [] (fun h' d => h' = [.buf e' k' xs] ∧ d = .buf 0 len) := Za4 (o := ⟨some t, .buildSlice u len parts, ty, pos, aft, gd⟩) (by
  show on (litD P u len (parts.toList.map fun q => (q.1, ev G e q.2))) _
  rw [hl]; exact ⟨rfl, rfl⟩)
 have L : Lies (fun _ => i) [] h2 := ⟨fun i ob q => by simp at q, fun i j q => by simp at q, fun ob q => by simp at q⟩
 have F := OpTri.frame hG L (by simpa using la) (K1 := fun h' d => h' = [.buf e' k' xs] ∧ d = .buf 0 len) (by
  rintro _ _ ⟨rfl, _⟩
  refine ⟨fun i j hi hj _ => by simp at hi hj; omega, fun j _ hj => hi2⟩) q
 rw [W0 _ _ la] at F
 refine F.mono ?_
 rintro _ _ ⟨_, _, ⟨rfl, rfl⟩, rfl, rfl⟩
 have e1 : renR (fun _ => i) xs = xs := by
  have := J3 (fun _ => i) _ lr
  rw [ren] at this
  exact (D.sl.inj this).2
 simp [plc, Ve, ren, e1, wrF]
end
theorem gd_bS {Q : (Nat → D) → List Ob → Prop} {done : List Ef} {l : List Oper} (q : afS P G n ops Q done l e h) : afS P G n ops Q done l e h := q
end
section
variable {P : Program} {G : Nat → D} {n : Nat} {e : Nat → D} {h : List Ob} {ops : Array Oper}
theorem OpTri.give {o : Oper} {args args' : List D} {j E k : Nat} {xs : List (List D)} {K : List Ob → D → Prop} (hj : h[j]? = some (.buf E k xs)) (ha : args.map (cvD (fun i => i == j) h) = args') (q : OpTri P G o args' (h.set j .dead) K) : OpTri P G o args h K := fun a w hd p R hdf ok hr => by
 obtain ⟨p2, o2, ev2, cv⟩ := ok.give fun i => i == j
 rw [Yb4] at o2 ev2 cv
 have h2 := cvL cv hr
 rw [ha] at h2
 exact Oper.wp_mono (fun _ _ ⟨v, e, q⟩ => ⟨v, e, q.before ev2⟩) (q a w hd p2 R hdf o2 h2)
section
variable {done : List Ef} {rest : List Oper} {Q : (Nat → D) → List Ob → Prop} {t : Nat} {ty : TypeId} {pos : String} {aft : Array Edge} {gd : Option (Nat × Bool)}
end
theorem ao_bldP {Q : S → Prop} {rest : List Oper} {t : Option Nat} {ty : TypeId} {pos : String} {aft : Array Edge} {gd : Option (Nat × Bool)} {u c t' j n1 E1 k1 : Nat} {xs : List (List D)} (hx : e t' = .buf j n1) (hj : h[j]? = some (.buf E1 k1 xs)) (hn : xs.length = n1)
 (q : ao P G ops (⟨t, .build u #[(c, .tmp t')], ty, pos, aft, gd⟩ :: rest) Q ⟨n, upd e t' (.sl k1 xs), h.set j .dead⟩) : ao P G ops (⟨t, .build u #[(c, .tmp t')], ty, pos, aft, gd⟩ :: rest) Q ⟨n, e, h⟩ := by
 refine ao_give j t' ?_
 have e1 : cvD (fun i => i == j) h (e t') = .sl k1 xs := by rw [hx]; simp [cvD, cv1, hj, hn]
 rw [e1]
 exact q
end
section
variable {P : Program} {G : Nat → D}
def shF (h : List Ob) : Nat → Nat := fun i => i + h.length
theorem plc_new {h : List Ob} : ∀ (M : List Ob), plc (shF h) (h ++ holes M.length) 0 M = h ++ M := fun M => by
 apply List.ext_getElem?
 intro i
 have hl : (plc (shF h) (h ++ holes M.length) 0 M).length = h.length + M.length := by rw [Ym5]; simp [holes]
 rcases Nat.lt_or_ge i h.length with hi | hi
 · rw [Zf8 _ _ _ (fun j _ => by unfold shF; omega), Zn hi, Zn hi]
 · rcases Nat.lt_or_ge i (h.length + M.length) with hj | hj
   · have := plc_at (π := shF h) M (h ++ holes M.length) 0 (i - h.length) (fun a b _ _ e => by unfold shF at e; omega) (by omega) (by unfold shF; simp [holes]; omega)
     rw [show shF h (0 + (i - h.length)) = i by unfold shF; omega] at this
     rw [this, Zp hi]
   · rw [List.getElem?_eq_none (by omega), List.getElem?_eq_none (by rw [Ze]; omega)]
theorem does_newM (hG : ∀ g, low 0 (G g)) (m : Nat) {f : FuncId} {args : List D} {Q : List Ob → D → Prop} (la : lowL 0 args) (hm : ∀ M r, Q M r → M.length = m) (q : Does P G f [] args Q) (h : List Ob) : Does P G f h args (fun h' r => ∃ M r0, Q M r0 ∧ h' = h ++ M.map (Ve (shF h)) ∧ r = ren (shF h) r0) := by
 refine Does.holes m ?_
 have L : Lies (shF h) [] (h ++ holes m) := ⟨fun i ob q => by simp at q, fun i j q => by simp at q, fun ob q => by simp at q⟩
 have F := Does.frame hG L (args := args) la (K1 := Q) (by
  intro M r hQ
  have hl := hm M r hQ
  refine ⟨fun i j _ _ e => by unfold shF at e; omega, fun j _ hj => ?_⟩
  rw [Zp (by unfold shF; omega)]
  unfold shF holes
  rw [List.getElem?_replicate, if_pos (by omega)]) q
 rw [W0 _ _ la] at F
 refine F.mono ?_
 rintro _ _ ⟨M, r0, hQ, rfl, rfl⟩
 refine ⟨M, r0, hQ, ?_, rfl⟩
 have hl := hm M r0 hQ
 have := plc_new (h := h) (M.map (Ve (shF h)))
 rw [Z1, hl] at this
 exact this
end
section
variable {P : Program} {G : Nat → D} {n : Nat} {e : Nat → D} {h : List Ob} {ops : Array Oper}
section
variable {done : List Ef} {rest : List Oper} {Q : (Nat → D) → List Ob → Prop} {t : Nat} {ty : TypeId} {pos : String} {aft : Array Edge} {gd : Option (Nat × Bool)}
theorem bS_call0 {x : Operand} {args : Array Operand} {tys : Array TypeId} {f : FuncId} {cap : List D} {d : D} (hw : Yg ops gd e = some true) (ht : decide (t < n) = true) (hx : ev G e x = .fn f cap) (he : entB P f = true)
 (hc : ∀ h2, Does P G f h2 (args.toList.map (ev G e) ++ cap) (fun h' r => h' = h2 ∧ r = d))
 (k : afS P G n ops Q (puF d :: done) rest (upd e t d) h) : afS P G n ops Q done (⟨some t, .call ⟨.value x, args, tys⟩, ty, pos, aft, gd⟩ :: rest) e h := by
 refine bS_of (E := puF d) hw ht (by simp [puF, Ef.fit]) (by simp [puF, Ef.ok]) (fun h2 _ => ?_) (by rw [Zw3]; exact k)
 rw [Zw3]
 have ho : (opds (.call ⟨.value x, args, tys⟩)).map (ev G e) = .fn f cap :: args.toList.map (ev G e) := by simp [opds, Op.operands, Call.operands, hx]
 rw [ho]
 exact Zx6 he (hc h2)
end
theorem OpTri.weak {o : Oper} {args : List D} {H : List Ob} {d d' : D} (hk : Wk d d') (q : OpTri P G o args h (fun h' r => h' = H ∧ r = d)) : OpTri P G o args h (fun h' r => h' = H ∧ r = d') := fun a w hd p R hdf ok ha =>
 Oper.wp_mono (fun _ _ ⟨v, e, q⟩ => ⟨v, e, by
  obtain ⟨hd', h', r, p', ⟨rfl, rfl⟩, o', q', ev⟩ := q
  exact ⟨hd', _, d', p', ⟨rfl, rfl⟩, o', hk _ _ _ _ q', ev⟩⟩) (q a w hd p R hdf ok ha)
theorem Ze1 {l : List Oper} {Q : S → Prop} (t : Nat) (d d' : D) (ht : e t = d) (hk : Wk d d') (k : ao P G ops l Q ⟨n, upd e t d', h⟩) : ao P G ops l Q ⟨n, e, h⟩ := fun B a w r R hR => k B a w (by
 obtain ⟨hd, p, r⟩ := r
 refine ⟨hd, p, r.ok, r.evo, fun s => ?_, r.size, r.defers⟩
 show rd _ _ _ (upd e t d' s) _
 unfold upd
 split
 · rename_i hs
   have := r.tmp s
   rw [hs] at this ⊢
   exact hk _ _ _ _ (ht ▸ this)
 · exact r.tmp s) R hR
section
variable {done : List Ef} {rest : List Oper} {Q : (Nat → D) → List Ob → Prop} {t : Nat} {ty : TypeId} {pos : String} {aft : Array Edge} {gd : Option (Nat × Bool)}
theorem bS_bld1w {u c t1 i1 n1 E1 k1 : Nat} {xs1 : List (List D)} (hw : Yg ops gd e = some true) (ht : decide (t < n) = true) (h1 : e t1 = .buf i1 n1) (hi1 : h[i1]? = some (.buf E1 k1 xs1)) (hn1 : xs1.length = n1)
 (H : ∀ K : List Ob → D → Prop, (∀ h' d, h' = [] → (∃ d', Wk d d' ∧ afS P G n ops Q (wrF i1 (.buf E1 k1 xs1) .dead d' :: done) rest (upd e t d') (h.set i1 .dead)) → K h' d) → aOp P G (upd e t1 (.sl k1 xs1)) [] K (.build u #[(c, .tmp t1)])) :
 afS P G n ops Q done (⟨some t, .build u #[(c, .tmp t1)], ty, pos, aft, gd⟩ :: rest) e h := by
 obtain ⟨d, q1, _, d', hk, q2⟩ := Yr0 (H (fun h' d => h' = [] ∧ ∃ d', Wk d d' ∧ afS P G n ops Q (wrF i1 (.buf E1 k1 xs1) .dead d' :: done) rest (upd e t d') (h.set i1 .dead)) fun h' d q1 q2 => ⟨q1, q2⟩) fun h' d q => q.1
 have hh : ∀ h, (wrF i1 (.buf E1 k1 xs1) .dead d').heap h = h.set i1 .dead := fun h => by simp [wrF, Ef.heap, Xt]
 refine bS_of (E := wrF i1 (.buf E1 k1 xs1) .dead d') hw ht (by simp [wrF, Ef.fit]) (by simpa [wrF, Ef.ok] using hi1) (fun h2 kk => ?_) (by rw [hh]; exact q2)
 have hi2 : h2[i1]? = some (.buf E1 k1 xs1) := kk (i1, .buf E1 k1 xs1) (by simp [wrF])
 rw [hh]
 refine OpTri.give hi2 ?_ (OpTri.weak hk (Za4 (o := ⟨some t, .build u #[(c, .tmp t1)], ty, pos, aft, gd⟩) (aOp_any q1 (h2.set i1 .dead))))
 simp [opds, Op.operands, ev, h1, cvD, cv1, hi2, hn1, upd]
end
end
section
variable {P : Program} {G : Nat → D} {n : Nat} {e : Nat → D} {h : List Ob} {ops : Array Oper}
section
variable {done : List Ef} {rest : List Oper} {Q : (Nat → D) → List Ob → Prop} {t : Nat} {ty : TypeId} {pos : String} {aft : Array Edge} {gd : Option (Nat × Bool)}
end
end
section
attribute [local irreducible] on aOp
attribute [local go_sem] decide_true decide_false Za Z7
attribute [local simp] byD_len
def vB (j n : Nat) : List D := [.v (.int .i64 0), .v (.slice none 0 0), .buf j n, .v (.slice none 0 0)]
def bPs (l : Lat) : List (List D) := (l.parts.map botV).map vaX
def nB (l : Lat) (j : Nat) : List Ob := [.cells (latX l), .cells (vB j l.parts.length), .cells (vB j l.parts.length), .buf 30 4 (bPs l)]
variable (G : Nat → D) (hG : ∀ g, low 0 (G g))
include hG
attribute [local go_sem] Zf Zg Zh Zk Zl Z9 Ze Z5 Z1 Z8 Zd Z6 Zb Z2 Z3 Zc kM_0 kM_1 kM_2 kM_3 Yb5 kM_l kM_l2 kM_l3 Zq2 kM_s1 kM_s2 kM_s3 kM_sl V9 J0
attribute [local go_sem ↓] reduceIte
def nB2 (l : Lat) (j : Nat) : List Ob := .cells (latX l) :: .cells (vB j l.parts.length) :: nB l j
omit hG in
omit hG in
def nB3 (l : Lat) (j : Nat) : List Ob := .cells (latX l) :: .cells (vB j l.parts.length) :: (nB2 l j ++ [.cells (vB j l.parts.length)])
theorem vBottom_d (l : Lat) (hsm : Sm l) (hc : chkE l = 0) (h : List Ob) : Does Z4 G 130 h [.agg (latX l)] (fun h' r => h' = h ∧ r = .tup [.agg (vaX (botV l)), .v (.int .i64 0)]) := by
 refine Y9 G hG (Wu 0 l) (by rw [low, lowL, lowL, lowL, low, low]; exact ⟨Yb _ _, trivial, trivial⟩) ?_ h
 clear h
 have hck := Zh5 G hG l hsm
 rw [hc] at hck
 have hb := Yq6 G hG _ l (Nat.le_refl _) (Ut hc)
 have hlv := Yb 0 (botV l)
 generalize botV l = b at *
 simp only [Y4 l, Y5 b] at hck hb hlv ⊢
 refine Y6 Tryz.func130 rfl (Z0 rfl) hG fun hl0 _ => ?_
 simp only [Tryz.ntmps130]
 have F : _ ∧ _ := ⟨Y4 l, Y5 b⟩
 repeat' first
  | refine g0 ?_
  | (with_reducible refine Y7 ?_; first | refine gc rfl rfl rfl Uy (hck _) ?_ | refine gc rfl rfl rfl Yd2 (hb _) ?_)
 all_goals first | (exfalso; omega) | exact ⟨.inr rfl, endD (ds := [.agg [.v (.int .i64 b.n), .sl 1 (b.names.map strX), .sl 4 (b.parts.map vaX), .sl 2 (b.entries.map enX)], .v (.int .i64 0)]) (r := .tup [.agg [.v (.int .i64 b.n), .sl 1 (b.names.map strX), .sl 4 (b.parts.map vaX), .sl 2 (b.entries.map enX)], .v (.int .i64 0)]) hl0 (by simp only [resD, Tryz.results130, go_sem, ↓reduceIte, Z2, Z6, Z3]; try rfl) (by simp) (by simp) (by simp [outD, cvD, cv1]) (by rw [low, lowL, lowL, lowL, low, low]; exact ⟨hlv, trivial, trivial⟩) ⟨rfl, rfl⟩⟩
end
section
attribute [local irreducible] on aOp
attribute [local go_sem] decide_true decide_false Za Z7
attribute [local simp] byD_len
section
variable {A B C y y' z : Ob} {T l : List Ob}
end
def dB (l : Lat) (v : Val) : List Ob := [.cells (latX l), .cells (vaX v), .buf 30 4 ((decV l v).map vaX)]
theorem low_dB (m : Nat) (l : Lat) (v : Val) : lowH m (dB l v) := fun x hx => by
 simp only [dB, List.mem_cons, List.not_mem_nil, or_false] at hx
 rcases hx with rfl | rfl | rfl
 · exact Yp m l
 · exact Yb m v
 · have := Ji m (decV l v)
   rw [low] at this
   exact this
theorem ren_dB (π : Nat → Nat) (l : Lat) (v : Val) : (dB l v).map (Ve π) = dB l v := by
 have e1 : renL π (latX l) = latX l := W0 _ _ (Yp 0 l)
 have e2 : renL π (vaX v) = vaX v := W0 _ _ (Yb 0 v)
 have e3 : renR π ((decV l v).map vaX) = (decV l v).map vaX := by
  have := J3 π _ (Ji 0 (decV l v))
  rw [ren] at this
  exact (D.sl.inj this).2
 simp only [dB, Ve, e1, e2, e3, Zq, List.map_nil]
theorem ro_va (x : Val) : Yz 4 [vaX x] := fun row hr => by simp only [Zm] at hr; subst hr; exact ⟨V9 x, List.all_eq_true.1 (Zv6 x)⟩
def DecOk (G : Nat → D) (l : Lat) (v : Val) : Prop := Does Z4 G 42 [] [.agg (latX l), .agg (vaX v)] (fun h' r => h' = dB l v ∧ r = .buf 2 (decV l v).length)
variable (G : Nat → D) (hG : ∀ g, low 0 (G g))
include hG
theorem DecOk.own {l : Lat} {v : Val} (q : DecOk G l v) (h : List Ob) : Does Z4 G 42 h [.agg (latX l), .agg (vaX v)] (fun h' r => h' = h ++ dB l v ∧ r = .buf (h.length + 2) (decV l v).length) :=
 (does_newM hG 3 (by simp only [lowL, low]; exact ⟨Yp _ l, Yb _ v, trivial⟩) (fun M r q => by rw [q.1]; rfl) q h).mono fun h' r ⟨M, r0, ⟨e1, e2⟩, e3, e4⟩ => by
  subst e1 e2
  rw [ren_dB] at e3
  rw [ren] at e4
  rw [Nat.add_comm h.length 2]
  exact ⟨e3, e4⟩
attribute [local go_sem] Zj Zf Zg Zh Z9 Z5 Z8 Zd Z6 Zb Z2 Z3 Zc
attribute [local go_sem ↓] reduceIte
end
section
attribute [local irreducible] on aOp
attribute [local go_sem] decide_true decide_false Za Z7
attribute [local simp] byD_len
section
variable {P : Program} {G : Nat → D} {n : Nat} {e : Nat → D} {h : List Ob}
end
def sM6 (A Z V P B C : Ob) (T : List Ob) : List Ob := A :: Z :: V :: P :: B :: C :: T
section
variable {A Z V P B C y y' : Ob} {T l : List Ob}
theorem sM6_0 : (sM6 A Z V P B C T)[0]? = some A := rfl
theorem sM6_1 : (sM6 A Z V P B C T)[1]? = some Z := rfl
theorem sM6_2 : (sM6 A Z V P B C T)[2]? = some V := rfl
theorem sM6_3 : (sM6 A Z V P B C T)[3]? = some P := rfl
theorem sM6_4 : (sM6 A Z V P B C T)[4]? = some B := rfl
theorem sM6_5 : (sM6 A Z V P B C T)[5]? = some C := rfl
theorem sM6_s1 : (sM6 A Z V P B C T).set 1 y = sM6 A y V P B C T := rfl
theorem sM6_s2 : (sM6 A Z V P B C T).set 2 y = sM6 A Z y P B C T := rfl
theorem sM6_s4 : (sM6 A Z V P B C T).set 4 y = sM6 A Z V P y C T := rfl
theorem sM6_s5 : (sM6 A Z V P B C T).set 5 y = sM6 A Z V P B y T := rfl
theorem sM6_len : (sM6 A Z V P B C T).length = T.length + 6 := rfl
theorem sM6_app : sM6 A Z V P B C T ++ l = sM6 A Z V P B C (T ++ l) := rfl
theorem sM6_l : (sM6 A Z V P B C (T ++ [y]))[T.length + 6]? = some y := by simp [sM6]
theorem sM6_l2 {z : Ob} : (sM6 A Z V P B C (T ++ [y, z]))[T.length + 6]? = some y := by simp [sM6]
theorem sM6_l3 {z : Ob} : (sM6 A Z V P B C (T ++ [y, z]))[T.length + 1 + 6]? = some z := by simp [sM6]
theorem sM6_h1 {z w : Ob} : (sM6 A Z V P B C (T ++ [y, z])).set (T.length + 6) w = sM6 A Z V P B C (T ++ [w, z]) := by simp [sM6]
theorem sM6_h2 {z w : Ob} : (sM6 A Z V P B C (T ++ [y, z])).set (T.length + 1 + 6) w = sM6 A Z V P B C (T ++ [y, w]) := by simp [sM6]
theorem holes_2 : holes 2 = [.hole, .hole] := rfl
end
variable (G : Nat → D) (hG : ∀ g, low 0 (G g))
include hG
attribute [local go_sem] Zj Zf Zg Zh Zk Zl Z9 Ze Z5 Z1 Z8 Zd Z6 Zb Z2 Z3 Zc holes_2 kM_0 kM_1 kM_2 kM_3 Yb5 kM_l kM_l2 kM_l3 kM_l3b kM_l4 Zq2 kM_s1 kM_s2 kM_s3 kM_sl kM_sl3 sM6_0 sM6_1 sM6_2 sM6_3 sM6_4 sM6_5 sM6_app sM6_h1 sM6_h2 sM6_l2 sM6_l3 sM6_len sM6_s1 sM6_s2 sM6_s4 sM6_s5 Wi V9 J0
attribute [local go_sem ↓] reduceIte
end
section
attribute [local irreducible] on aOp
attribute [local go_sem] decide_true decide_false Za Z7
attribute [local simp] byD_len
section
variable {A B C y y' z w : Ob} {T l : List Ob}
theorem n3_p2 : (n3 A B C (T ++ [y, z]))[T.length + 1 + 3]? = some z := by simp [n3]
theorem n3_p1 : (n3 A B C (T ++ [y, z]))[T.length + 3]? = some y := by simp [n3]
theorem n3_q3 : (n3 A B C (T ++ [y, z, y']))[T.length + 2 + 3]? = some y' := by simp [n3]
theorem n3_q2 : (n3 A B C (T ++ [y, z, y']))[T.length + 1 + 3]? = some z := by simp [n3]
theorem n3_q1 : (n3 A B C (T ++ [y, z, y']))[T.length + 3]? = some y := by simp [n3]
theorem n3_w2 : (n3 A B C (T ++ [y, z, y'])).set (T.length + 1 + 3) w = n3 A B C (T ++ [y, w, y']) := by simp [n3]
theorem n3_w3 : (n3 A B C (T ++ [y, z, y'])).set (T.length + 2 + 3) w = n3 A B C (T ++ [y, z, w]) := by simp [n3]
end
theorem rowsOk_tks (l : List Tk) : Yz 2 (l.map tkX) := fun row hr => by
 obtain ⟨c, _, rfl⟩ := List.mem_map.1 hr
 exact ⟨rfl, fun d hd => by simp [tkX] at hd; rcases hd with rfl | rfl <;> rfl⟩
theorem dec_4 {lo hi : Int} {ns : List ByteArray} {ps : List Lat} {rs : List Rl} {v : Val} : decV (.mk 4 lo hi ns ps rs) v = v.names.map fun n => .mk 0 [n] [] [] := by rw [decV, if_pos rfl]
theorem dec_9 {lo hi : Int} {ns : List ByteArray} {ps : List Lat} {rs : List Rl} {v : Val} : decV (.mk 9 lo hi ns ps rs) v = v.entries.map fun x => .mk 0 [] [] [x] := by
 rw [decV, if_neg (by decide), if_neg (by decide), if_neg (by decide), if_neg (by decide), if_pos rfl]
variable (G : Nat → D) (hG : ∀ g, low 0 (G g))
include hG
attribute [local go_sem] Zj Zf Zg Zh Zk Zl Z9 Ze Z5 Z1 Z8 Zd Z6 Zb Z2 Z3 Zc holes_2 n3_0 n3_1 n3_2 Yh0 n3_l Yg9 n3_p1 n3_p2 n3_q1 n3_q2 n3_q3 n3_s2 n3_sl n3_w2 n3_w3 Wi
attribute [local go_sem ↓] reduceIte
theorem cloneT0 (l : List Tk) (hl : l.length ≤ 100000) :
 Does Z4 G 85 [] [.sl 2 (l.map tkX)] (fun h' r => h' = [.buf 84 2 (l.map tkX)] ∧ r = .buf 0 l.length) := by
 refine Does.nilbuf (K := fun h' r => (h' = [.buf 84 2 (l.map tkX)] ∧ r = .buf 0 l.length) ∨ (l = [] ∧ h' = [] ∧ r = .v (.slice none 0 0))) 84 2 ?_ ?_
 rotate_left
 · rintro h' r (h | ⟨rfl, rfl, rfl⟩)
   · exact .inl h
   · exact .inr ⟨rfl, rfl, rfl⟩
 have hro := rowsOk_tks l
 refine Y6 Tryz.func85 rfl (Z0 rfl) hG fun hl0 _ => ?_
 simp only [Tryz.ntmps85]
 repeat' first
  | (with_reducible refine Y7 ?_; first | (refine ao_ex rfl (tri_nil (k := 2) (xs := l.map tkX) (by kernel_rfl)) ?_; rintro _ _ ⟨rfl, ⟨rfl, hnil⟩ | rfl⟩) | refine Ye4 rfl rfl rfl (by (simp only [go_sem]; rfl)) (by simp) (by simp only [go_sem]; rfl) rfl (by assumption) (by (simp; omega)) ?_)
  | refine g0 ?_
  | fail
 · exact ⟨.inr rfl, endD (r := .v _) hl0 rfl (by simp) (by simp) rfl (by rw [low]; trivial) (.inr ⟨by simpa using hnil, rfl, rfl⟩)⟩
 · exact ⟨.inr rfl, endBk (n := l.length) (rows := l.map tkX) rfl (T := []) rfl (by simp) (by simp) (by have := Ug 1 l; rwa [low] at this) (.inl ⟨rfl, rfl⟩)⟩
theorem clone_tk (l : List Tk) (hl : l.length ≤ 100000) (h : List Ob) : Does Z4 G 85 h [.sl 2 (l.map tkX)] (fun h' r => h' = h ∧ r = .sl 2 (l.map tkX)) := 
 Does.gave0 hG (Ug 0 l) (by rw [lowL, lowL]; exact ⟨Ug 0 l, trivial⟩) (by simp) (cloneT0 G hG l hl) h
theorem dec_set (l : Lat) (v : Val) (h4 : l.kind = 4) (hv : VSm v) (hno : Vv v ≤ 1000) : DecOk G l v := by
 unfold DecOk
 have hN := Zp0 v
 have hd : decV l v = v.names.map fun n => .mk 0 [n] [] [] := by
  obtain ⟨k, lo, hi, ns, ps, rs⟩ := l
  simp only [Lat.kind] at h4
  subst h4
  exact dec_4
 have hlow := low_dB 3 l v
 unfold dB at hlow ⊢
 rw [hd, Z1] at *
 refine Y6 Tryz.func42 rfl (Z0 rfl) hG fun hl0 _ => ?_
 simp only [Tryz.ntmps42]
 have F : _ ∧ _ ∧ _ := ⟨Y4 l, Y5 v, h4⟩
 repeat' first
  | (with_reducible refine Yc ?_; (refine Zh8 30 4 5 (by with_unfolding_all rfl) ?_))
  | refine g0 ?_
  | fail
 all_goals first | (exfalso; omega) | skip
 refine Yh (fun m e h' => ∃ (k : Nat) (T : List Ob), k ≤ v.names.length ∧ m = v.names.length - k ∧ h' = n3 (.cells (latX l)) (.cells (vaX v)) (.buf 30 4 (((v.names.take k).map fun n => Val.mk 0 [n] [] []).map vaX)) T ∧ e 5 = .buf 2 k ∧ e 33 = .sl 1 (v.names.map strX) ∧ e 34 = .v (.int .i64 v.names.length) ∧ e 35 = .v (.int .i64 k)) v.names.length ⟨0, [], Nat.zero_le _, rfl, by rw [Y4 l, Y5 v, h4]; rfl, rfl, rfl, rfl, rfl⟩ ?_
 rintro m e h' ⟨k, T, hk, rfl, rfl, e5, e33, e34, e35⟩
 by_cases hlt : k < v.names.length
 rotate_left
 · obtain rfl : k = v.names.length := by omega
   rw [List.take_length]
   have F : _ ∧ _ ∧ _ ∧ _ ∧ _ ∧ _ := ⟨Y4 l, Y5 v, e5, e33, e34, e35⟩
   repeat' first
    | refine gg ?_
    | refine Two.mk (fun hq => ?_) fun hq => ?_
    | refine Evry.mk fun x hx => ?_
    | (exfalso; omega)
   all_goals first | (exfalso; omega) | exact ⟨.inr rfl, endX [.buf 2 v.names.length] [.cells (latX l), .cells (vaX v), .buf 30 4 ((v.names.map fun n => Val.mk 0 [n] [] []).map vaX)] T (.buf 2 v.names.length) rfl (by simp only [Y4 l, Y5 v, h4]; rfl) (by simp) hlow (by rw [low]; simp) (by simp [outD, cvD, cv1]) ⟨rfl, rfl⟩⟩
 have hx : v.names[k]? = some v.names[k] := Zi hlt
 have wk : IntKind.i64.wrap ((k : Int) + 1) = (k : Int) + 1 := IntWalk.i64_in _ (by omega)
 have htk : ((v.names.take (k + 1)).map fun n => Val.mk 0 [n] [] []).map vaX = ((v.names.take k).map fun n => Val.mk 0 [n] [] []).map vaX ++ [[.v (.int .i64 0), .sl 1 [[.v (.string v.names[k])]], .sl 4 [], .sl 2 []]] := by
  rw [List.take_add_one, hx, List.map_append, List.map_append]
  simp [Y5, Val.n, Val.names, Val.parts, Val.entries, Wi]
 generalize v.names[k] = s at hx htk
 have hlr : (((v.names.take k).map fun n => Val.mk 0 [n] [] []).map vaX).length = k := by rw [Z1, Z1, List.length_take, Nat.min_eq_left hk]
 have hro : Yz 4 [[D.v (.int .i64 0), .sl 1 [[D.v (.string s)]], .sl 4 [], .sl 2 []]] := fun row hr => by rw [Zm.1 hr]; exact ⟨rfl, fun d hd => by simp at hd; rcases hd with rfl | rfl | rfl | rfl <;> rfl⟩
 have F : _ ∧ _ ∧ _ ∧ _ ∧ _ ∧ _ ∧ _ := ⟨Y4 l, Y5 v, e5, e33, e34, e35, wk⟩
 repeat' first
  | (with_reducible refine Y7 ?_; first | (refine Ze1 42 (.agg [.v (.int .i64 0), .sl 1 [[.v (.string s)]], .v (.slice none 0 0), .v (.slice none 0 0)]) (.agg [.v (.int .i64 0), .sl 1 [[.v (.string s)]], .sl 4 [], .sl 2 []]) (by with_unfolding_all rfl) (Zj7 (W7 _) X7 X7) ?_) | (refine ao_bldP rfl (by (simp only [go_sem, F]; rfl)) (by simp) ?_) | (refine Xy rfl rfl rfl rfl (by (simp only [go_sem, F]; rfl)) hlr (by simp only [go_sem, F]; rfl) (by (simp only [go_sem, F]; rfl)) (by simp) hro (by first | omega | (simp; omega)) ?_))
  | refine gg ?_
  | refine Two.mk (fun hq => ?_) fun hq => ?_
  | (exfalso; omega)
 all_goals first | (exfalso; omega) | exact ⟨rfl, v.names.length - (k + 1), by omega, k + 1, _, hlt, rfl, (by rw [Y4 l, Y5 v, htk]), rfl, e33, e34, rfl⟩
end
section
attribute [local irreducible] on aOp
attribute [local go_sem] decide_true decide_false Za Z7
attribute [local simp] byD_len
section
variable {A B C a b c d w : Ob} {T l : List Ob}
theorem n3_e1 : (n3 A B C (T ++ [a, b, c, d]))[T.length + 3]? = some a := by simp [n3]
theorem n3_e2 : (n3 A B C (T ++ [a, b, c, d]))[T.length + 1 + 3]? = some b := by simp [n3]
theorem n3_e3 : (n3 A B C (T ++ [a, b, c, d]))[T.length + 2 + 3]? = some c := by simp [n3]
theorem n3_e4 : (n3 A B C (T ++ [a, b, c, d]))[T.length + 3 + 3]? = some d := by simp [n3]
theorem n3_f2 : (n3 A B C (T ++ [a, b, c, d])).set (T.length + 1 + 3) w = n3 A B C (T ++ [a, w, c, d]) := by simp [n3]
theorem n3_f3 : (n3 A B C (T ++ [a, b, c, d])).set (T.length + 2 + 3) w = n3 A B C (T ++ [a, b, w, d]) := by simp [n3]
theorem n3_f4 : (n3 A B C (T ++ [a, b, c, d])).set (T.length + 3 + 3) w = n3 A B C (T ++ [a, b, c, w]) := by simp [n3]
theorem holes_3 : holes 3 = [.hole, .hole, .hole] := rfl
end
def mapD (s : ByteArray) (d : Val) : Val := .mk 0 [s] [d] []
def mapF (p : Lat) (x : ByteArray × Val) : List Val := (decV p x.2).map (mapD x.1)
theorem dec_5 {lo hi : Int} {ns : List ByteArray} {p : Lat} {rs : List Rl} {v : Val} : decV (.mk 5 lo hi ns [p] rs) v = (v.names.zip v.parts).flatMap (mapF p) := by
 rw [decV, if_neg (by decide), if_pos rfl, decMap]; rfl
variable (G : Nat → D) (hG : ∀ g, low 0 (G g))
include hG
attribute [local go_sem] Zf Zg Zh Zk Zl Z9 Ze Z5 Z1 Z8 Zd Z6 Zb Z2 Z3 Zc holes_3 n3_0 n3_1 n3_2 Yh0 n3_e1 n3_e2 n3_e3 n3_e4 n3_f2 n3_f3 n3_f4 n3_l Yg9 n3_s2 n3_sl Wi
attribute [local go_sem ↓] reduceIte
end
section
section
variable {P : Program} {G : Nat → D} {n : Nat} {e : Nat → D} {h : List Ob} {ops : Array Oper} {rest : List Oper} {Q : S → Prop} {t : Nat} {ty : TypeId} {pos : String} {aft : Array Edge} {gd : Option (Nat × Bool)}
end
end
section
attribute [local irreducible] on aOp
attribute [local go_sem] decide_true decide_false Za Z7
attribute [local simp] byD_len
section
variable {A B C c a0 a1 a2 a3 a4 a5 a6 b a8 w x : Ob} {T : List Ob}
theorem pD_b : (n3 A B C (T ++ [c, a0, a1, a2, a3, a4, a5, a6, b, a8, w]))[T.length + 1 + 3 + 7]? = some b := by simp [n3]
theorem pD_w : (n3 A B C (T ++ [c, a0, a1, a2, a3, a4, a5, a6, b, a8, w]))[T.length + 10 + 3]? = some w := by simp [n3]
theorem pD_c : (n3 A B C (T ++ [c, a0, a1, a2, a3, a4, a5, a6, b, a8, w]))[T.length + 3]? = some c := by simp [n3]
theorem pD_sb : (n3 A B C (T ++ [c, a0, a1, a2, a3, a4, a5, a6, b, a8, w])).set (T.length + 1 + 3 + 7) x = n3 A B C (T ++ [c, a0, a1, a2, a3, a4, a5, a6, x, a8, w]) := by simp [n3]
theorem pD_sw : (n3 A B C (T ++ [c, a0, a1, a2, a3, a4, a5, a6, b, a8, w])).set (T.length + 10 + 3) x = n3 A B C (T ++ [c, a0, a1, a2, a3, a4, a5, a6, b, a8, x]) := by simp [n3]
theorem pD_l : (n3 A B C (T ++ [c, a0, a1, a2, a3, a4, a5, a6, b, a8, w, x]))[T.length + 11 + 3]? = some x := by simp [n3]
end
def prdF (l : Lat) (v : Val) (k : Nat) : List Val := match l.parts[k]?, v.parts[k]? with
 | some p, some x => (decV p x).map fun d => .mk 0 [] ((l.parts.map botV).set k d) []
 | _, _ => []
def decK (ps : List Lat) (vs : List Val) (k : Nat) : List (List Val) := match ps[k]?, vs[k]? with
 | some p, some x => (decV p x).map fun d => (ps.map botV).set k d
 | _, _ => []
theorem decK_succ (p : Lat) (ps : List Lat) (v : Val) (vs : List Val) (k : Nat) : decK (p :: ps) (v :: vs) (k + 1) = (decK ps vs k).map fun l => botV p :: l := by
 unfold decK
 rw [List.getElem?_cons_succ, List.getElem?_cons_succ]
 cases ps[k]? with
 | none => rfl
 | some q => cases vs[k]? with
  | none => rfl
  | some w => simp
theorem Yi9 : ∀ (ps : List Lat) (vs : List Val), vs.length = ps.length → decs ps vs = (List.range ps.length).flatMap (decK ps vs)
 | [], vs, _ => by cases vs <;> simp [decs]
 | p :: ps, [], h => by simp at h
 | p :: ps, v :: vs, h => by
  rw [decs, Yi9 ps vs (by simpa using h), Z5, List.range_succ_eq_map, List.flatMap_cons, List.flatMap_map, List.map_flatMap]
  congr 1
  congr 1
  funext k
  exact (decK_succ p ps v vs k).symm
theorem dec_6 {lo hi : Int} {ns : List ByteArray} {ps : List Lat} {rs : List Rl} {v : Val} (h : v.parts.length = ps.length) : decV (.mk 6 lo hi ns ps rs) v = (List.range ps.length).flatMap (prdF (.mk 6 lo hi ns ps rs) v) := by
 rw [decV, if_neg (by decide), if_neg (by decide), if_pos rfl, Yi9 _ _ h, List.map_flatMap]
 congr 1
 funext k
 unfold prdF decK
 show _ = (match ps[k]?, v.parts[k]? with | some p, some x => _ | _, _ => _)
 cases ps[k]? with
 | none => rfl
 | some q => cases v.parts[k]? with
  | none => rfl
  | some w => simp [Lat.parts]
variable (G : Nat → D) (hG : ∀ g, low 0 (G g))
include hG
attribute [local go_sem] Zf Zg Zh Zk Zl Z9 Ze Z5 Z1 Z8 Zd Z6 Zb Z2 Z3 Zc n3_0 n3_1 n3_2 Yh0 n3_l Yg9 n3_s2 n3_sl pD_b pD_c pD_l pD_sb pD_sw pD_w
attribute [local go_sem ↓] reduceIte
end
section
attribute [local irreducible] on aOp
attribute [local go_sem] decide_true decide_false Za Z7
attribute [local simp] byD_len
variable (G : Nat → D) (hG : ∀ g, low 0 (G g))
include hG
attribute [local go_sem] Zf Zg Zh Z9 Z5 Z1 Z8 Zd Z6 Zb Z2 Z3 Zc holes_3
attribute [local go_sem ↓] reduceIte
end
section
attribute [local irreducible] on aOp
attribute [local go_sem] decide_true decide_false Za Z7
attribute [local simp] byD_len
variable (G : Nat → D) (hG : ∀ g, low 0 (G g))
include hG
theorem valid_x (v : List ByteArray) (hv : VSm (vE v)) (h1 : Zt8 lE (vE v) = true) (h : List Ob) : Does Z4 G 80 h [.agg lD, .agg (vD v)] (fun h' r => h' = h ∧ r = .v (.bool true)) := by
 have q := valid_v G hG lE sm_E (vE v) hv h
 rw [h1, lE_eq, vE_eq] at q
 exact q
theorem check_x (h : List Ob) : Does Z4 G 79 h [.agg lD] (fun h' r => h' = h ∧ r = .v (.int .i64 0)) := by
 have q := Zh5 G hG lE sm_E h
 rw [show chkE lE = 0 by kernel_rfl, lE_eq] at q
 exact q
attribute [local go_sem] Zj Zf Zg Zh Z9 Z5 Z1 Z8 Zq List.map_nil Zd Z6 Zb Z2 Z3 Zc n2E Wi
attribute [local go_sem ↓] reduceIte
theorem elements_x (h : List Ob) : Does Z4 G 122 h [.agg lD, .sl 4 [vD [tX, tY], vD [tY, tZ]]] (fun h' r => h' = h ∧ r = .v (.bool true)) := by
 refine Y9 G hG (by rw [lowL, lowL, lowL]; exact ⟨Zk5, Vj 0 [[tX, tY], [tY, tZ]] fun v _ => by have := Ux v; rwa [low] at this, trivial⟩) (by rw [low]; trivial) ?_ h
 clear h
 have h1 := valid_x G hG [tX, tY] vsm_xy (by kernel_rfl)
 have h2 := valid_x G hG [tY, tZ] vsm_yz (by kernel_rfl)
 refine Y6 Tryz.func122 rfl (Z0 rfl) hG fun hl0 _ => ?_
 simp only [Tryz.ntmps122]
 have F : _ ∧ _ := ⟨x1, x2⟩
 repeat' first
  | (with_reducible refine Yc ?_; (refine aw_loopN 3 ?_))
  | ((with_reducible refine Y7 ?_); first | (refine ao_idxC rfl rfl (by first | rfl | (simp only [go_sem, F]; rfl)) (by first | rfl | (simp only [go_sem, F]; rfl)) (by rw [elT_27]; exact szT_30) (by decide) (by decide) rfl ?_))
  | refine g0 ?_
  | (with_reducible refine Y7 ?_; first | refine gc rfl rfl rfl Yi3 (h1 _) ?_ | refine gc rfl rfl rfl Yi3 (h2 _) ?_)
  | (refine ln_s ?_)
 all_goals first | (exfalso; omega) | exact ⟨.inr rfl, endD (r := .v (.bool true)) hl0 rfl (by simp) (by simp) rfl (by rw [low]; trivial) ⟨rfl, rfl⟩⟩
theorem jcheck_x {h : List Ob} {i : Nat} (hi : h[i]? = some (.buf 30 4 [vD [tX, tY], vD [tY, tZ]])) : Does Z4 G 66 h [.agg lD, .buf i 2] (fun h' r => h' = h ∧ r = .v (.int .i64 0)) := by
 refine Does.borrow2 hG hi rfl Zk5 (Vj 0 [[tX, tY], [tY, tZ]] fun v _ => by have := Ux v; rwa [low] at this) ?_
 have h1 := check_x G hG
 have h2 := elements_x G hG
 refine Y6 Tryz.func66 rfl (Z0 rfl) hG fun hl0 _ => ?_
 simp only [Tryz.ntmps66]
 repeat' first
  | refine g0 ?_
  | (with_reducible refine Y7 ?_; first | refine gc rfl rfl rfl Uy (h1 _) ?_ | refine gc rfl rfl rfl ent_122 (h2 _) ?_)
 all_goals first | (exfalso; omega) | exact ⟨.inr rfl, endD (r := .v (.int .i64 0)) hl0 rfl (by simp) (by simp) rfl (by rw [low]; trivial) ⟨rfl, rfl⟩⟩
theorem leq_x (h : List Ob) : Does Z4 G 67 h [.agg lD, .agg (vD [tX, tY]), .agg (vD [tY, tZ])] (fun h' r => h' = h ∧ r = .v (.bool false)) := by
 refine Y9 G hG (by simp only [lowL]; exact ⟨Zk5, Ux _, Ux _, trivial⟩) (by rw [low]; trivial) ?_ h
 clear h
 have hs := Zn8 G hG [tX, tY] [tY, tZ] (by decide) (by decide)
 rw [show Xm [tX, tY] [tY, tZ] = false by kernel_rfl] at hs
 refine Y6 Tryz.func67 rfl (Z0 rfl) hG fun hl0 _ => ?_
 simp only [Tryz.ntmps67]
 repeat' first
  | refine g0 ?_
  | (with_reducible refine Y7 ?_; refine gc rfl rfl rfl Zh3 (hs _) ?_)
 all_goals first | (exfalso; omega) | exact ⟨.inr rfl, endD (r := .v (.bool false)) hl0 rfl (by simp) (by simp) rfl (by rw [low]; trivial) ⟨rfl, rfl⟩⟩
theorem Leq_x (h : List Ob) : Does Z4 G 31 h [.agg lD, .agg (vD [tX, tY]), .agg (vD [tY, tZ])] (fun h' r => h' = h ∧ r = .v (.bool false)) := by
 refine Y9 G hG (by simp only [lowL]; exact ⟨Zk5, Ux _, Ux _, trivial⟩) (by rw [low]; trivial) ?_ h
 clear h
 have hck := fun (h : List Ob) (i : Nat) hi => jcheck_x G hG (h := h) (i := i) hi
 have hq := leq_x G hG
 refine Y6 Tryz.func31 rfl (Z0 rfl) hG fun hl0 _ => ?_
 simp only [Tryz.ntmps31]
 repeat' first
  | refine g0 ?_
  | (with_reducible refine Y7 ?_; first | refine gc rfl rfl rfl ent_66 (hck _ _ rfl) ?_ | refine gc rfl rfl rfl Uz (hq _) ?_)
 all_goals first | (exfalso; omega) | exact ⟨.inr rfl, endD (r := .v (.bool false)) hl0 rfl (by simp) (by simp) rfl (by rw [low]; trivial) ⟨rfl, rfl⟩⟩
theorem diff_x (h : List Ob) : Does Z4 G 48 h [.agg lD, .agg (vD [tX, tY]), .agg (vD [tY, tZ])] (fun h' r => h' = h ∧ r = .agg (vD [tX])) := by
 refine Y9 G hG (by simp only [lowL]; exact ⟨Zk5, Ux _, Ux _, trivial⟩) (Ux _) ?_ h
 clear h
 apply Does.weak
 have hq := Leq_x G hG
 have c1 := Yq0 G hG [tY, tZ] tX (by decide)
 have c2 := Yq0 G hG [tY, tZ] tY (by decide)
 rw [show hasS [tY, tZ] tX = false by kernel_rfl] at c1
 rw [show hasS [tY, tZ] tY = true by kernel_rfl] at c2
 refine Y6 Tryz.func48 rfl (Z0 rfl) hG fun hl0 _ => ?_
 simp only [Tryz.ntmps48]
 have F : _ ∧ _ := ⟨x1, x2⟩
 repeat' first
  | (with_reducible refine Yc ?_; (refine aw_loopN 3 ?_))
  | (with_reducible refine Y7 ?_; refine Yq8 rfl rfl rfl rfl (by simp only [go_sem, F]; rfl) (by (simp only [go_sem, F]; rfl)) (by simp) (by (simp [Yz, D.one, Value.oneCell']; done)) (by (simp; done)) ?_)
  | ((with_reducible refine Y7 ?_); first | (refine ao_idxC rfl rfl (by first | rfl | (simp only [go_sem, F]; rfl)) (by first | rfl | (simp only [go_sem, F]; rfl)) (by rw [elT_22]; exact szT_9) (by decide) (by decide) rfl ?_))
  | refine g0 ?_
  | (with_reducible refine Y7 ?_; first | refine gc rfl rfl rfl ent_31 (hq _) ?_ | refine gc rfl rfl rfl Yd3 (c1 _) ?_ | refine gc rfl rfl rfl Yd3 (c2 _) ?_)
  | (refine ln_s ?_)
 all_goals first | (exfalso; omega) | exact ⟨.inr rfl, endD (ds := [.agg [.v (.int .i64 0), .buf 6 1, .v (.slice none 0 0), .v (.slice none 0 0)]]) (r := .agg [.v (.int .i64 0), .sl 1 [[.v (.string tX)]], .v (.slice none 0 0), .v (.slice none 0 0)]) hl0 (by simp only [resD, Tryz.results48, go_sem, ↓reduceIte, Z2, Z6, Z3]; try rfl) (by simp) (by simp) (by simp [outD, cvD, cv1]) (by simp [low, lowL, lowR]) ⟨_, ⟨rfl, rfl⟩, Zj7 (W7 _) X7 X7⟩⟩
theorem encode_x (h : List Ob) : Does Z4 G 47 h [.agg lD, .agg (vD [tX])] (fun h' r => h' = h ∧ r = .tup [.sl 1 (byD [1, 1, 120]), .v (.int .i64 0)]) := by
 have q := encode_w G hG lE sm_E (vE [tX]) vsm_x (by kernel_rfl) (by kernel_rfl) (by rw [show putV lE (vE [tX]) = [1, 1, 120] by kernel_rfl]; decide) (write_names G hG lE (vE [tX]) (.inl rfl) fun s hs => by rw [Zm.1 hs]; decide) h
 rw [show putV lE (vE [tX]) = [1, 1, 120] by kernel_rfl, lE_eq, vE_eq] at q
 exact q
theorem decode_x (h : List Ob) : Does Z4 G 49 h [.agg lD, .sl 1 (byD [1, 1, 120])] (fun h' r => h' = h ∧ r = .tup [.agg (vD [tX]), .v (.int .i64 0)]) := by
 have q := decode_w G hG lE sm_E [1, 1, 120] (by decide) (fun _ => read_410 G hG lE (.inl rfl)) h
 rw [show Zn1 lE [1, 1, 120] = (vE [tX], 0) by kernel_rfl, lE_eq] at q
 simp only [vE_eq] at q
 exact q
theorem Diff_x (h : List Ob) : Does Z4 G 22 h [.agg lD, .agg (vD [tX, tY]), .agg (vD [tY, tZ])] (fun h' r => h' = h ∧ r = .tup [.agg (vD [tX]), .v (.int .i64 0)]) := by
 refine Y9 G hG (by simp only [lowL]; exact ⟨Zk5, Ux _, Ux _, trivial⟩) (by rw [low, lowL, lowL, lowL]; exact ⟨Ux _, by rw [low]; trivial, trivial⟩) ?_ h
 clear h
 have hck := fun (h : List Ob) (i : Nat) (hi : h[i]? = some (.buf 30 4 [vD [tX, tY], vD [tY, tZ]])) => ick G hG [[tX, tY], [tY, tZ]] (fun v hv => by rcases List.mem_cons.1 hv with rfl | hv; exact vsm_xy; rw [Zm.1 hv]; exact vsm_yz) (by kernel_rfl) (by decide) (n := 2) rfl hi
 have h1 := diff_x G hG
 have h2 := encode_x G hG
 have h3 := decode_x G hG
 refine Y6 Tryz.func22 rfl (Z0 rfl) hG fun hl0 _ => ?_
 simp only [Tryz.ntmps22]
 repeat' first
  | (with_reducible refine Yc ?_; refine Y8 mixd (by kernel_rfl) ?_)
  | refine g0 ?_
  | (with_reducible refine Y7 ?_; first | refine gc rfl rfl rfl Yc7 (hck _ _ rfl) ?_ | refine gc rfl rfl rfl ent_49 (h3 _) ?_)
  | (with_reducible refine X6 ?_; first | refine aq2 rfl rfl rfl ent_48 (h1 _) ?_ | refine aq2 rfl rfl rfl ent_47 (h2 _) ?_)
 all_goals first | (exfalso; omega) | exact ⟨.inr rfl, endD (ds := [.agg (vD [tX]), .v (.int .i64 0)]) (r := .tup [.agg (vD [tX]), .v (.int .i64 0)]) hl0 (by simp only [resD, Tryz.results22, go_sem, ↓reduceIte, Z2, Z6, Z3]; try rfl) (by simp) (by simp) (by simp [outD, cvD, cv1]) (by rw [low, lowL, lowL, lowL]; exact ⟨Ux _, by rw [low]; trivial, trivial⟩) ⟨rfl, rfl⟩⟩
theorem awake_x (hde : ∀ h : List Ob, ∃ L : List Val, L.length = 2 ∧ Does Z4 G 19 h [.agg lD, .agg (vD [tX, tY])] (fun h' r => h' = h ∧ r = .tup [.sl 4 (L.map vaX), .v (.int .i64 0)])) (h : List Ob) : Does Z4 G 15 h [] (fun h' r => h' = h ∧ r = .v (.bool true)) := by
 refine Y9 G hG (by rw [lowL]; trivial) (by rw [low]; trivial) ?_ h
 clear h
 have h1 := Diff_x G hG
 have h2 := Rank_x G hG
 have h3 : ∀ h : List Ob, Does Z4 G 23 h [.agg (vD [tX]), .agg (vD [tX])] (fun h' r => h' = h ∧ r = .v (.bool true)) := fun h => by
  have q := requal_va G hG (vE [tX]) (vE [tX]) vsm_x vsm_x h
  rw [valC_self, vE_eq] at q
  exact q
 have hwl : Wk (.agg [.v (.int .i64 4), .v (.int .i64 0), .v (.int .i64 0), .v (.slice none 0 0), .v (.slice none 0 0), .v (.slice none 0 0)]) (.agg lD) := wk_agg (Wn (W7 _) (Wn (W7 _) (Wn (W7 _) (Wn X7 (Wn X7 (Wn X7 Yj5))))))
 have hwv : ∀ l : List ByteArray, Wk (.agg [.v (.int .i64 0), .sl 1 (l.map strX), .v (.slice none 0 0), .v (.slice none 0 0)]) (.agg (vD l)) := fun l => Zj7 (W7 _) X7 X7
 obtain ⟨L, hL, h4⟩ : ∃ L : List Val, L.length = 2 ∧ ∀ h : List Ob, Does Z4 G 19 h [.agg lD, .agg (vD [tX, tY])] (fun h' r => h' = h ∧ r = .tup [.sl 4 (L.map vaX), .v (.int .i64 0)]) := by
  obtain ⟨L, hL, q⟩ := hde []
  exact ⟨L, hL, fun h => Y9 G hG (by simp only [lowL]; exact ⟨Zk5, Ux _, trivial⟩) (by simp only [low, lowL]; exact ⟨Ji 0 L, trivial, trivial⟩) q h⟩
 refine Y6 Tryz.func15 rfl (Z0 rfl) hG fun hl0 _ => ?_
 simp only [Tryz.ntmps15]
 have F := hL
 repeat' first
  | (with_reducible refine Y7 ?_; first | (refine Ze1 10 _ (.agg lD) (by with_unfolding_all rfl) hwl ?_) | (refine Ze1 12 _ (.agg (vD [tX, tY])) (by with_unfolding_all rfl) (hwv [tX, tY]) ?_) | (refine Ze1 14 _ (.agg (vD [tY, tZ])) (by with_unfolding_all rfl) (hwv [tY, tZ]) ?_) | (refine Ze1 39 _ (.agg (vD [tX])) (by with_unfolding_all rfl) (hwv [tX]) ?_) | (refine ao_bldP rfl (by (simp only [go_sem, F]; rfl)) (by simp) ?_))
  | refine g0 ?_
  | (with_reducible refine Y7 ?_; first | refine gc rfl rfl rfl ent_22 (h1 _) ?_ | refine gc rfl rfl rfl ent_19 (h4 _) ?_ | refine gc rfl rfl rfl ent_27 (h2 _) ?_ | refine gc rfl rfl rfl ent_23 (h3 _) ?_)
 all_goals first | (exfalso; omega) | exact ⟨.inr rfl, endD (r := .v (.bool true)) hl0 rfl (by simp) (by simp) rfl (by rw [low]; trivial) ⟨rfl, rfl⟩⟩
end
section
def G0 : Nat → D := fun _ => .any
theorem G0_low : ∀ g, low 0 (G0 g) := fun g => by unfold G0; rw [low]; trivial
theorem ok0 (w : World) : Ok G0 w [] [] (fun k => decide (k < w.heap.size)) :=
 ⟨rfl, fun i ob u q => by simp at q, fun i j oi oj ui uj b q => by simp at q, fun g => by unfold G0; rw [rd]; trivial, fun g ds q => by cases q⟩
end
section
attribute [local irreducible] on aOp
attribute [local go_sem] decide_true decide_false Za Z7
attribute [local simp] byD_len
theorem Zp5 {l : Lat} {v : Val} (hwf : WfL l) (h7 : l.kind = 7) (he : Ya l v = true) : ∃ p q a b, l.parts = [p, q] ∧ v.parts = [a, b] ∧ Ya p a = true ∧ Ya q b = true ∧ Wc p = true := by
 obtain ⟨p, q, hpq, hcp⟩ := hwf.chain h7
 have hpe := (el67 (k := 7) (lo := l.lo) (hi := l.hi) (ns := l.names) (ps := l.parts) (rs := l.rules) (v := v) (.inr rfl)).1 (by rw [← h7]; cases l; exact he)
 rw [hpq] at hpe
 obtain ⟨a, t, ea, ha, hpe'⟩ := Yj.1 hpe.1
 obtain ⟨b, t2, eb, hb, hpe''⟩ := Yj.1 hpe'
 rw [Jg.1 hpe''] at eb
 exact ⟨p, q, a, b, hpq, by rw [ea, eb], ha, hb, hcp⟩
variable (G : Nat → D) (hG : ∀ g, low 0 (G g))
include hG
attribute [local go_sem] Zf Zg Zh Z1 Z6 Zb Z2 Z3 Zc not_false_eq_true
attribute [local go_sem ↓] reduceIte
end
section
attribute [local irreducible] on aOp
attribute [local go_sem] decide_true decide_false Za Z7
attribute [local simp] byD_len
section
variable {A Z V P B C y z y' w : Ob} {T l : List Ob}
theorem sM6_q1 : (sM6 A Z V P B C (T ++ [y, z, y']))[T.length + 6]? = some y := by simp [sM6]
theorem sM6_q2 : (sM6 A Z V P B C (T ++ [y, z, y']))[T.length + 1 + 6]? = some z := by simp [sM6]
theorem sM6_q3 : (sM6 A Z V P B C (T ++ [y, z, y']))[T.length + 2 + 6]? = some y' := by simp [sM6]
theorem sM6_w2 : (sM6 A Z V P B C (T ++ [y, z, y'])).set (T.length + 1 + 6) w = sM6 A Z V P B C (T ++ [y, w, y']) := by simp [sM6]
theorem sM6_w3 : (sM6 A Z V P B C (T ++ [y, z, y'])).set (T.length + 2 + 6) w = sM6 A Z V P B C (T ++ [y, z, w]) := by simp [sM6]
theorem sM6_sl : (sM6 A Z V P B C (T ++ [y])).set (T.length + 6) w = sM6 A Z V P B C (T ++ [w]) := by simp [sM6]
end
def lexD (a d : Val) : Val := .mk 0 [] [a, d] []
theorem dec_7 {lo hi : Int} {ns : List ByteArray} {p q : Lat} {rs : List Rl} {v a w : Val} (h : v.parts = [a, w]) : decV (.mk 7 lo hi ns [p, q] rs) v = (if (decV q w).isEmpty && !decide (valC a (botV p) = 0) then [botV q] else decV q w).map (lexD a) := by
 rw [decV, if_neg (by decide), if_neg (by decide), if_neg (by decide), if_pos rfl, h, Zu9, Zt3]; rfl
variable (G : Nat → D) (hG : ∀ g, low 0 (G g))
include hG
attribute [local go_sem] Zj Zf Zg Zh Zk Zl Z9 Ze Z5 Z1 Z8 Zd Z6 Zb Z2 Z3 Zc holes_2 sM6_0 sM6_1 sM6_2 sM6_3 sM6_4 sM6_5 sM6_app sM6_l sM6_len sM6_q1 sM6_q2 sM6_q3 sM6_s2 sM6_sl sM6_w2 sM6_w3
attribute [local go_sem ↓] reduceIte
end
section
theorem Zj4 {l : Lat} (h : W3 l = true) : (l.kind ≠ 8 ∧ l.kind ≠ 10) ∧ ∀ p ∈ l.parts, W3 p = true := by
 obtain ⟨k, lo, hi, ns, ps, rs⟩ := l
 rw [W3, Bool.and_eq_true, Bool.not_eq_true', decide_eq_false_iff_not] at h
 exact ⟨⟨fun e => h.1 (.inl e), fun e => h.1 (.inr e)⟩, Zd0.1 h.2⟩
end
section
variable (G : Nat → D) (hG : ∀ g, low 0 (G g))
include hG
end
end Go.Proofs.YtbhkcbidcfofiaaGreat
