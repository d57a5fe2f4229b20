/-
  What the statements of the chapter share, part 17: VN1, NT, RV1, LB1, CL0, CL2, OF0, OF2, BO, SHS, RR0, AL, AR.
-/
import Derived.Test.YtmdjnaobllajmaaGreatDoorY07
import Derived.Test.YtmdjnaobllajmaaGreatDoorY08
import Derived.Test.YtmdjnaobllajmaaGreatDoorY10
import Derived.Test.YtmdjnaobllajmaaGreatDoorY11
import Derived.Test.YtmdjnaobllajmaaGreatDoorY14
import Derived.Test.YtmdjnaobllajmaaGreatDoorY15
import Derived.Test.YtmdjnaobllajmaaGreatDoorY16
import Derived.Laws.CopyRow
set_option linter.unusedVariables false
set_option linter.unusedSimpArgs false
set_option maxRecDepth 100000
set_option maxHeartbeats 8000000
namespace Go.Proofs.YtmdjnaobllajmaaGreatDoor
open _root_.Array renaming getElem?_eq_getElem → Z8
open _root_.Bool renaming false_eq_true → Zg, not_false → Zp, not_true → Zs
open _root_.Int renaming toNat_natCast → Zi
open _root_.List renaming length_append → Z0, getElem?_eq_getElem → Z2, append_assoc → Z3, drop_eq_nil_of_le → Z5, getElem_mem → Z7, append_nil → Z9, take_zero → Za, flatMap_nil → Zb, drop_eq_getElem_cons → Zc, flatMap_cons → Zd, take_of_length_le → Ze, length_cons → Zf, getElem?_zip_eq_some → Zh, cons_append → Zj, take_length → Zm, length_map → Zn, nil_append → Zo, replicate → Zr
open _root_.Nat renaming le_of_ble_eq_true → Z1, zero_le → Z6, reduceEqDiff → Zk, reduceLeDiff → Zl, le_refl → Zq
open _root_.Go.Proofs.Tryz renaming prog → Z4
open Go.RowKit
section
attribute [local irreducible] on aOp
attribute [local go_sem] decide_true decide_false Zs Zp
attribute [local simp] byD_len
def wC (n : Nat) (rows : List (List D)) (A B : Ob) (T : List Ob) : List Ob := wB n rows A (B :: T)
section
variable {n m : Nat} {rows r2 : List (List D)} {T l : List Ob} {A B x y : Ob}
theorem wB_box : wB n rows A [] ++ [x] = wC n rows A x [] := rfl
theorem wC_2 : (wC n rows A B T)[2]? = some A := rfl
theorem wC_3 : (wC n rows A B T)[3]? = some B := rfl
theorem wC_len : (wC n rows A B T).length = T.length + 4 := rfl
theorem wC_app : wC n rows A B T ++ l = wC n rows A B (T ++ l) := rfl
theorem wC_l : (wC n rows A B (T ++ [x]))[T.length + 4]? = some x := by simp [wC, wB, wG]
theorem wC_sl : (wC n rows A B (T ++ [x])).set (T.length + 4) y = wC n rows A B (T ++ [y]) := by simp [wC, wB, wG]
end
theorem Zx6 {α : Type} (g : α → List UInt8) (l : List α) (k : Nat) : ((l.take k).flatMap g).length ≤ (l.flatMap g).length := by
 conv => rhs; rw [← List.take_append_drop k l]
 rw [List.flatMap_append, Z0]; omega
theorem Zx7 {α : Type} (g : α → List UInt8) {l : List α} {k : Nat} {x : α} (h : l[k]? = some x) : (l.take (k + 1)).flatMap g = (l.take k).flatMap g ++ g x := by
 rw [List.take_add_one, h, List.flatMap_append]; simp
@[simp] def writE2 (i j : Nat) (ob ob' oc oc' : Ob) (d : D) : Eff := ⟨[(i, ob), (j, oc)], [(i, ob'), (j, oc')], [], fun _ => d⟩
theorem aS_call2 {P : Program} {G : Nat → D} {n m0 : Nat} {ops : Array Oper} {done : List Eff} {rest : List Oper} {Q : (Nat → D) → List Ob → Prop} {e : Nat → D} {h : List Ob} {t : Nat} {ty : TypeId} {pos : String} {aft : Array Edge} {gd : Option (Nat × Bool)} {x : Operand} {args : Array Operand} {tys : Array TypeId} {f : FuncId} {cap : List D} {d : D} {i j : Nat} {ob ob' oc oc' : Ob} (hw : Yo ops gd e = some true) (ht : decide (t < n) = true) (hx : ev G e x = .fn f cap) (he : entB P f = true) (hi : h[i]? = some ob) (hj : h[j]? = some oc)
 (hc : ∀ h2, h2[i]? = some ob → h2[j]? = some oc → Does P G f h2 (args.toList.map (ev G e) ++ cap) (fun h' r => h' = (h2.set i ob').set j oc' ∧ r = d))
 (k : aeS P G n m0 ops Q (writE2 i j ob ob' oc oc' d :: done) rest (upd e t d) ((h.set i ob').set j oc')) : aeS P G n m0 ops Q done (⟨some t, .call ⟨.value x, args, tys⟩, ty, pos, aft, gd⟩ :: rest) e h := by
 have hh : ∀ h, (writE2 i j ob ob' oc oc' d).heap h = (h.set i ob').set j oc' := fun h => by simp [Eff.heap, Xc]
 exact aS_call (E := writE2 i j ob ob' oc oc' d) hw ht hx he ⟨by simp, fun _ _ _ => rfl⟩ (by simp [Eff.ok, hi, hj]) (fun h2 k2 => by rw [hh]; exact hc h2 (k2 (i, ob) (by simp)) (k2 (j, oc) (by simp))) (by rw [hh]; exact k)
theorem wC_s {n n2 : Nat} {rows r2 : List (List D)} {A B : Ob} {T : List Ob} : ((wC n rows A B T).set 0 (.cells [.buf 1 n2])).set 1 (.buf 5 1 r2) = wC n2 r2 A B T := rfl
theorem wC_m {n : Nat} {rows : List (List D)} {A B x : Ob} {T U : List Ob} : (wC n rows A B (T ++ x :: U))[T.length + 4]? = some x := by simp [wC, wB, wG]
theorem wC_n {n : Nat} {rows : List (List D)} {A B x y : Ob} {T U : List Ob} : (wC n rows A B (T ++ x :: (U ++ [y])))[T.length + (U.length + 1) + 4]? = some y := by
 have : (T ++ x :: (U ++ [y])) = (T ++ x :: U) ++ [y] := by simp
 rw [this, show T.length + (U.length + 1) + 4 = (T ++ x :: U).length + 4 by simp]; exact wC_l
theorem wC_ns {n : Nat} {rows : List (List D)} {A B x y z : Ob} {T U : List Ob} : (wC n rows A B (T ++ x :: (U ++ [y]))).set (T.length + (U.length + 1) + 4) z = wC n rows A B (T ++ x :: (U ++ [z])) := by
 have h1 : ∀ w, (T ++ x :: (U ++ [w])) = (T ++ x :: U) ++ [w] := fun w => by simp
 rw [h1, h1, show T.length + (U.length + 1) + 4 = (T ++ x :: U).length + 4 by simp]; exact wC_sl
theorem putVs_zip : ∀ (ps : List Lat) (vs : List Val), Jr ps vs = (ps.zip vs).flatMap fun x => putV x.1 x.2
 | [], vs => by rw [Jr]; rfl
 | _ :: _, [] => by rw [Jr]; rfl
 | p :: ps, v :: vs => by rw [Jr, putVs_zip ps vs]; rfl
variable (G : Nat → D) (hG : ∀ g, low 0 (G g))
include hG
attribute [local go_sem] Zg Int.reduceEq Int.reduceLE Int.reduceLT Zi Int.toNat_zero Z3 Zj Z0 Zf Zn List.length_nil Zo Nat.reduceAdd Nat.reduceBEq Zk Zl Nat.reduceMul wB_box wB_len wC_2 wC_3 wC_app wC_l wC_len wC_m wC_n wC_ns wC_s wC_sl wG_0 wG_1 wG_a0 wG_a1 wG_b0 wG_b1 wG_s0 wG_s1 wH_box wH_len
attribute [local go_sem ↓] reduceIte
theorem wBool_d (l : List UInt8) (b : Bool) (hl : l.length ≤ 100000000) : Does Z4 G 80 (wH l) [.ptr 0 0, .v (.bool b)] (fun h' r => h' = wH (l ++ Zg3 b) ∧ r = .tup []) := by
 refine Y5 Tryz.func80 rfl (Z1 rfl) hG fun hl0 _ => ?_
 simp only [Tryz.ntmps80]
 cases b
 all_goals
  have F := wH_eq
  repeat' first
   | (with_reducible refine Y7 ?_; refine Wi rfl rfl rfl rfl (by (simp only [go_sem, F]; rfl)) (by simp) (by simp only [go_sem, F]; rfl) (by (simp only [go_sem, F]; rfl)) (by simp) (by (simp [Yz, D.one, Value.oneCell']; done)) (by (simp; omega)) ?_)
   | refine g0 ?_
   | fail
  exact ⟨by simp, endW (l2 := l ++ Zg3 _) rfl rfl (by simp [Zg3]; try omega) (by simp [byD, Zg3]) ⟨rfl, rfl⟩⟩
theorem w_c {l l2 : List UInt8} {f : FuncId} {xs : List D} {r0 : D} (lx : lowL 0 xs) (lr : low 0 r0) (q : Does Z4 G f (wH l) (.ptr 0 0 :: xs) (fun h' r => h' = wH l2 ∧ r = r0)) {n : Nat} {A B : Ob} {T : List Ob} (hn : n = l.length) :
 Does Z4 G f (wC n (byD l) A B T) (.ptr 0 0 :: xs) (fun h' r => h' = wC l2.length (byD l2) A B T ∧ r = r0) := w_b G hG lx lr q hn
theorem Yj9 (l : List UInt8) {n : Nat} (hn : n < 18446744073709551616) (hl : l.length ≤ 100000000) {A B : Ob} {T : List Ob} {n0 : Nat} (e0 : n0 = l.length) {z : Int} (hz : z = (n : Int)) : Does Z4 G 82 (wC n0 (byD l) A B T) [.ptr 0 0, .v (.int .u64 z)] (fun h' r => h' = wC (l ++ Yy n).length (byD (l ++ Yy n)) A B T ∧ r = .tup []) := by
 subst hz
 exact w_c G hG (by simp [lowL, low]) (by simp [low, lowL]) (wUint_d G hG l n hn hl) e0
theorem cInt (l : List UInt8) {n : Int} (hn : I64 n) (hl : l.length ≤ 100000000) {A B : Ob} {T : List Ob} {n0 : Nat} (e0 : n0 = l.length) : Does Z4 G 81 (wC n0 (byD l) A B T) [.ptr 0 0, .v (.int .i64 n)] (fun h' r => h' = wC (l ++ intE n).length (byD (l ++ intE n)) A B T ∧ r = .tup []) :=
 w_c G hG (by simp [lowL, low]) (by simp [low, lowL]) (wInt_d G hG l n hn hl) e0
theorem cText (l : List UInt8) {s : ByteArray} (hs : s.size ≤ 10000000) (hl : l.length ≤ 80000000) {A B : Ob} {T : List Ob} {n0 : Nat} (e0 : n0 = l.length) : Does Z4 G 83 (wC n0 (byD l) A B T) [.ptr 0 0, .v (.string s)] (fun h' r => h' = wC (l ++ Xq s).length (byD (l ++ Xq s)) A B T ∧ r = .tup []) :=
 w_c G hG (by simp [lowL, low]) (by simp [low, lowL]) (wText_d G hG l s hs hl) e0
theorem cBool (l : List UInt8) (b : Bool) (hl : l.length ≤ 80000000) {A B : Ob} {T : List Ob} {n0 : Nat} (e0 : n0 = l.length) : Does Z4 G 80 (wC n0 (byD l) A B T) [.ptr 0 0, .v (.bool b)] (fun h' r => h' = wC (l ++ Zg3 b).length (byD (l ++ Zg3 b)) A B T ∧ r = .tup []) :=
 w_c G hG (by simp [lowL, low]) (by simp [low, lowL]) (wBool_d G hG l b (by omega)) e0
def Ze7 (l : Lat) (v : Val) : Prop := ∀ acc : List UInt8, acc.length + (putV l v).length ≤ 1000000 → Does Z4 G 50 (wH acc) [.ptr 0 0, .agg (latX l), .agg (vaX v)] (fun h' r => h' = wH (acc ++ putV l v) ∧ r = .tup [])
theorem write_1 (l : Lat) (v : Val) (h1 : l.kind = 1) : Ze7 G l v := fun acc hb => by
 have hp : putV l v = Zg3 (decide (v.n = 1)) := by cases l; simp only [Lat.kind] at h1; subst h1; exact putV_1 v
 rw [hp] at hb ⊢
 refine Y5 Tryz.func50 rfl (Z1 rfl) hG fun hl0 _ => ?_
 simp only [Tryz.ntmps50]
 have F : _ ∧ _ ∧ _ := ⟨Y4 l, Ya v, h1⟩
 repeat' first
  | refine g ?_
  | refine Two.mk (fun hq => ?_) fun hq => ?_
  | (with_reducible refine Y7 ?_; refine gc rfl rfl rfl ent_80 (cBool G hG acc _ (by omega) rfl) ?_)
 all_goals first | (rw [decide_eq_true hq]; exact ⟨by simp, endW (l2 := acc ++ Zg3 true) rfl rfl (by first | rfl | (simp; done) | (simp; omega)) rfl ⟨rfl, rfl⟩⟩) | (rw [decide_eq_false hq]; exact ⟨by simp, endW (l2 := acc ++ Zg3 false) rfl rfl (by first | rfl | (simp; done) | (simp; omega)) rfl ⟨rfl, rfl⟩⟩)
theorem write_23 (l : Lat) (v : Val) (h1 : l.kind = 2 ∨ l.kind = 3) (hn : I64 v.n) : Ze7 G l v := fun acc hb => by
 have hp : putV l v = intE v.n := by cases l; exact Zw4 h1 v
 rw [hp] at hb ⊢
 refine Y5 Tryz.func50 rfl (Z1 rfl) hG fun hl0 _ => ?_
 simp only [Tryz.ntmps50]
 rcases h1 with h1 | h1
 all_goals
  have F : _ ∧ _ ∧ _ := ⟨Y4 l, Ya v, h1⟩
  repeat' first
   | refine g0 ?_
   | (with_reducible refine Y7 ?_; refine gc rfl rfl rfl ent_81 (cInt G hG acc hn (by omega) rfl) ?_)
  exact ⟨by simp, endW (l2 := acc ++ intE v.n) rfl rfl (by first | rfl | (simp; done) | (simp; omega)) rfl ⟨rfl, rfl⟩⟩
theorem write_8 (l : Lat) (v : Val) (h1 : l.kind = 8) (hn : (v.n = 0 ∧ v.names = []) ∨ (v.n = 2 ∧ v.names = []) ∨ (v.n = 1 ∧ ∃ s, v.names = [s] ∧ s.size ≤ 16)) : Ze7 G l v := fun acc hb => by
 have hp : putV l v = Yy v.n.toNat ++ (if v.n = 1 then Xq (v.names.headD ByteArray.empty) else []) := by cases l; simp only [Lat.kind] at h1; subst h1; exact putV_8 v
 rw [hp] at hb ⊢
 rw [Z0] at hb
 refine Y5 Tryz.func50 rfl (Z1 rfl) hG fun hl0 _ => ?_
 simp only [Tryz.ntmps50]
 rcases hn with ⟨hn, hnm⟩ | ⟨hn, hnm⟩ | ⟨hn, s, hnm, hs⟩
 · have hi : ¬ v.n = 1 := by omega
   rw [if_neg hi, Z9]
   have hw : IntKind.u64.wrap v.n = ((v.n.toNat : Nat) : Int) := by rw [IntKind.wrap_u64]; omega
   have F : _ ∧ _ ∧ _ ∧ _ := ⟨Y4 l, Ya v, h1, hi⟩
   repeat' first
    | refine g0 ?_
    | (with_reducible refine Y7 ?_; refine gc rfl rfl rfl Zd7 (Yj9 G hG acc (n := v.n.toNat) (by omega) (by omega) rfl hw) ?_)
   exact ⟨by simp, endW (l2 := acc ++ Yy v.n.toNat) rfl rfl (by first | rfl | (simp; done) | (simp; omega)) rfl ⟨rfl, rfl⟩⟩
 · have hi : ¬ v.n = 1 := by omega
   rw [if_neg hi, Z9]
   have hw : IntKind.u64.wrap v.n = ((v.n.toNat : Nat) : Int) := by rw [IntKind.wrap_u64]; omega
   have F : _ ∧ _ ∧ _ ∧ _ := ⟨Y4 l, Ya v, h1, hi⟩
   repeat' first
    | refine g0 ?_
    | (with_reducible refine Y7 ?_; refine gc rfl rfl rfl Zd7 (Yj9 G hG acc (n := v.n.toNat) (by omega) (by omega) rfl hw) ?_)
   exact ⟨by simp, endW (l2 := acc ++ Yy v.n.toNat) rfl rfl (by first | rfl | (simp; done) | (simp; omega)) rfl ⟨rfl, rfl⟩⟩
 · have hw : IntKind.u64.wrap v.n = ((v.n.toNat : Nat) : Int) := by rw [IntKind.wrap_u64]; omega
   have hx : v.names[0]? = some s := by rw [hnm]; rfl
   have hxl : (v.names.length : Int) = 1 := by rw [hnm]; rfl
   rw [if_pos hn, hnm, List.headD_cons, ← Z3]
   have hdn : decide (v.n = 1) = true := decide_eq_true hn
   have F : _ ∧ _ ∧ _ ∧ _ ∧ _ := ⟨Y4 l, Ya v, h1, hdn, Uh⟩
   repeat' first
    | refine g0 ?_
    | (with_reducible refine Y7 ?_; first | refine gc rfl rfl rfl Zd7 (Yj9 G hG acc (n := v.n.toNat) (by omega) (by omega) rfl hw) ?_ | refine gc rfl rfl rfl ent_83 (cText G hG (acc ++ Yy v.n.toNat) (s := s) (by omega) (by rw [Z0]; omega) (by simp)) ?_)
   exact ⟨by simp, endW (l2 := acc ++ Yy v.n.toNat ++ Xq s) rfl rfl (by first | rfl | (simp; done) | (simp; omega)) rfl ⟨rfl, rfl⟩⟩
theorem write_names (l : Lat) (v : Val) (h1 : l.kind = 4 ∨ l.kind = 10) (hs : ∀ s ∈ v.names, s.size ≤ 16) : Ze7 G l v := fun acc hb => by
 have hp : putV l v = Yy v.names.length ++ v.names.flatMap Xq := by cases l; exact Zk8 h1 v
 rw [hp] at hb ⊢
 rw [Z0] at hb
 have hnl : v.names.length ≤ 1000000 := by
  have : v.names.length ≤ (v.names.flatMap Xq).length := by
   clear hb hp
   induction v.names with
   | nil => simp
   | cons a t ih => rw [Zd, Z0, Zf]; have : 1 ≤ (Xq a).length := by { unfold Xq; rw [Z0]; have := Jl a.size; omega }; omega
  omega
 have hw : IntKind.u64.wrap (v.names.length : Int) = ((v.names.length : Nat) : Int) := by rw [IntKind.wrap_u64]; omega
 refine Y5 Tryz.func50 rfl (Z1 rfl) hG fun hl0 _ => ?_
 simp only [Tryz.ntmps50]
 rcases h1 with h1 | h1
 all_goals
  have F : _ ∧ _ ∧ _ ∧ _ := ⟨Y4 l, Ya v, h1, hw⟩
  repeat' first
   | refine g0 ?_
   | (with_reducible refine Y7 ?_; refine gc rfl rfl rfl Zd7 (Yj9 G hG acc (n := v.names.length) (by omega) (by omega) rfl rfl) ?_)
  generalize hP : acc ++ Yy v.names.length = P
  have hPl : P.length + (v.names.flatMap Xq).length ≤ 1000000 := by rw [← hP, Z0]; omega
  refine Yn (fun m e h' => ∃ k : Nat, k ≤ v.names.length ∧ m = v.names.length - k ∧ h' = wC (P ++ (v.names.take k).flatMap Xq).length (byD (P ++ (v.names.take k).flatMap Xq)) (.cells (latX l)) (.cells (vaX v)) [] ∧ e 0 = .ptr 0 0 ∧ e 4 = .ptr 2 0 ∧ e 5 = .ptr 3 0 ∧ e 58 = .sl 1 (v.names.map strX) ∧ e 59 = .v (.int .i64 v.names.length) ∧ e 60 = .v (.int .i64 k)) v.names.length ⟨0, Z6 _, rfl, by rw [Y4 l, Ya v, h1, Za, Zb, Z9, ← hP, Z0], rfl, rfl, rfl, rfl, rfl, rfl⟩ ?_
  rintro m e h' ⟨k, hk, rfl, rfl, e0, e4, e5, e58, e59, e60⟩
  have hle := Zx6 Xq v.names k
  by_cases hlt : k < v.names.length
  · have hx : v.names[k]? = some v.names[k] := Z2 hlt
    have hxs := hs _ (Z7 hlt)
    generalize v.names[k] = x at hx hxs
    have hst := Zx7 Xq hx
    have wk : IntKind.i64.wrap ((k : Int) + 1) = ((k + 1 : Nat) : Int) := IntWalk.i64_in _ (by omega)
    generalize hcur : P ++ (v.names.take k).flatMap Xq = cur
    have hcl : cur.length ≤ 1000000 := by rw [← hcur, Z0]; omega
    have F : _ ∧ _ ∧ _ ∧ _ ∧ _ ∧ _ ∧ _ ∧ _ ∧ _ ∧ _ ∧ _ := ⟨Y4 l, Ya v, e0, e4, e5, e58, e59, e60, wk, h1, Uh⟩
    repeat' first
     | refine g ?_
     | refine Two.mk (fun hq => ?_) fun hq => ?_
     | (with_reducible refine Y7 ?_; refine gc rfl rfl rfl ent_83 (cText G hG cur (s := x) (by omega) (by omega) rfl) ?_)
     | (exfalso; omega)
    exact ⟨rfl, v.names.length - (k + 1), by omega, k + 1, hlt, rfl, by rw [hst, ← Z3, hcur, Z0, Y4 l, Ya v, h1], e0, e4, e5, e58, e59, rfl⟩
  · obtain rfl : k = v.names.length := by omega
    rw [Zm]
    have F : _ ∧ _ ∧ _ ∧ _ ∧ _ ∧ _ ∧ _ ∧ _ := ⟨Y4 l, Ya v, e0, e4, e5, e58, e59, e60⟩
    repeat' first
     | refine g ?_
     | refine Two.mk (fun hq => ?_) fun hq => ?_
     | refine Evry.mk fun x hx => ?_
     | (exfalso; omega)
    exact ⟨by simp, endW (l2 := acc ++ (Yy v.names.length ++ v.names.flatMap Xq)) rfl rfl (by rw [← Z3, hP, Z0]) (by rw [← Z3, hP]) ⟨rfl, rfl⟩⟩
theorem write_5 (l : Lat) (v : Val) (p : Lat) (h1 : l.kind = 5) (hps : l.parts = [p]) (hs : ∀ s ∈ v.names, s.size ≤ 16) (hlen : v.names.length = v.parts.length) (hrec : ∀ x ∈ v.parts, Ze7 G p x) : Ze7 G l v := fun acc hb => by
 have hp : putV l v = Yy v.names.length ++ (v.names.zip v.parts).flatMap fun x => Xq x.1 ++ putV p x.2 := by cases l; simp only [Lat.kind, Lat.parts] at h1 hps; subst h1 hps; exact putV_5 v
 rw [hp] at hb ⊢
 rw [Z0] at hb
 have hp0 : l.parts[0]? = some p := by rw [hps]; rfl
 have hpl : (l.parts.length : Int) = 1 := by rw [hps]; rfl
 have hzl : (v.names.zip v.parts).length = v.names.length := by rw [List.length_zip]; omega
 have hnl : v.names.length ≤ 1000000 := by
  have : (v.names.zip v.parts).length ≤ ((v.names.zip v.parts).flatMap fun x => Xq x.1 ++ putV p x.2).length := by
   clear hb hp hzl
   induction v.names.zip v.parts with
   | nil => simp
   | cons a t ih => rw [Zd, Z0, Zf, Z0]; have : 1 ≤ (Xq a.1).length := by { unfold Xq; rw [Z0]; have := Jl a.1.size; omega }; omega
  omega
 have hw : IntKind.u64.wrap (v.names.length : Int) = ((v.names.length : Nat) : Int) := by rw [IntKind.wrap_u64]; omega
 refine Y5 Tryz.func50 rfl (Z1 rfl) hG fun hl0 _ => ?_
 simp only [Tryz.ntmps50]
 have F : _ ∧ _ ∧ _ ∧ _ := ⟨Y4 l, Ya v, h1, hw⟩
 repeat' first
  | refine g0 ?_
  | (with_reducible refine Y7 ?_; refine gc rfl rfl rfl Zd7 (Yj9 G hG acc (n := v.names.length) (by omega) (by omega) rfl rfl) ?_)
 generalize hP : acc ++ Yy v.names.length = P
 have hPl : P.length + ((v.names.zip v.parts).flatMap fun x => Xq x.1 ++ putV p x.2).length ≤ 1000000 := by rw [← hP, Z0]; omega
 generalize hF : (fun x : ByteArray × Val => Xq x.1 ++ putV p x.2) = Fu at *
 refine Yn (fun m e h' => ∃ k : Nat, k ≤ v.names.length ∧ m = v.names.length - k ∧ h' = wC (P ++ ((v.names.zip v.parts).take k).flatMap Fu).length (byD (P ++ ((v.names.zip v.parts).take k).flatMap Fu)) (.cells (latX l)) (.cells (vaX v)) [] ∧ e 0 = .ptr 0 0 ∧ e 4 = .ptr 2 0 ∧ e 5 = .ptr 3 0 ∧ e 58 = .sl 1 (v.names.map strX) ∧ e 59 = .v (.int .i64 v.names.length) ∧ e 60 = .v (.int .i64 k)) v.names.length ⟨0, Z6 _, rfl, by rw [Y4 l, Ya v, h1, Za, Zb, Z9, ← hP, Z0], rfl, rfl, rfl, rfl, rfl, rfl⟩ ?_
 rintro m e h' ⟨k, hk, rfl, rfl, e0, e4, e5, e58, e59, e60⟩
 by_cases hlt : k < v.names.length
 · have hx : v.names[k]? = some v.names[k] := Z2 hlt
   have hy : v.parts[k]? = some (v.parts[k]'(by omega)) := Z2 (by omega)
   have hxs := hs _ (Z7 hlt)
   have hrx := hrec _ (Z7 (show k < v.parts.length by omega))
   have hz : (v.names.zip v.parts)[k]? = some (v.names[k], v.parts[k]'(by omega)) := by rw [Zh]; exact ⟨hx, hy⟩
   generalize v.names[k] = x at hx hxs hz
   generalize (v.parts[k]'(by omega)) = y at hy hrx hz
   have hst := Zx7 Fu hz
   have hle := Zx6 Fu (v.names.zip v.parts) (k + 1)
   have hFx : Fu (x, y) = Xq x ++ putV p y := by rw [← hF]
   rw [hst, Z0, hFx, Z0] at hle
   have wk : IntKind.i64.wrap ((k : Int) + 1) = ((k + 1 : Nat) : Int) := IntWalk.i64_in _ (by omega)
   generalize hcur : P ++ ((v.names.zip v.parts).take k).flatMap Fu = cur
   have hcl : cur.length + ((Xq x).length + (putV p y).length) ≤ 1000000 := by rw [← hcur, Z0]; omega
   have hfin : P ++ ((v.names.zip v.parts).take (k + 1)).flatMap Fu = cur ++ (Xq x ++ putV p y) := by rw [hst, hFx, ← hcur]; simp only [Z3]
   have hw2 := hrx (cur ++ Xq x) (by rw [Z0]; omega)
   have hlp : low 0 (.agg (latX p)) := by rw [low]; exact U4 _ p
   have hlx : low 0 (.agg (vaX y)) := by rw [low]; exact Xu _ y
   simp only [Y4 p, Ya y] at hw2 hlp hlx
   have F : _ ∧ _ ∧ _ ∧ _ ∧ _ ∧ _ ∧ _ ∧ _ ∧ _ ∧ _ ∧ _ ∧ _ ∧ _ := ⟨Y4 l, Ya v, Y4 p, Ya y, e0, e4, e5, e58, e59, e60, wk, h1, Uh⟩
   repeat' first
    | (with_reducible refine Yj ?_; refine X7 mixd (by kernel_rfl) ?_)
    | ((with_reducible refine Uc ?_); first | (refine aS_call2 (i := 0) (j := 1) rfl rfl rfl ent_50 rfl rfl (fun h2 k1 k2 => w_at G hG (by rw [lowL, lowL, lowL]; exact ⟨hlp, hlx, trivial⟩) (by simp [low, lowL]) hw2 (by rw [Z0]; exact k1) k2) ?_) | (refine aS1 rfl rfl fun K HK => ?_; simp only [go_sem, F]; (first | refine X1 (fun hq => ?_) (fun hq => ?_) | (refine ⟨by omega, by omega, ?_⟩; refine W9 (by assumption) ?_) | (refine ⟨by omega, ?_⟩; refine W9 (by assumption) ?_) | skip) <;> (refine HK _ _ rfl ?_; clear HK K)) | refine Xg rfl rfl rfl (by (simp only [go_sem, F]; rfl)) (by rw [getD_one (by simp only [go_sem, F])]; rfl) ?_ | refine V4 (by simp only [List.reverse_cons, List.reverse_nil, Zo, Zj, W5, chk1]; repeat' (first | exact trivial | refine And.intro ?_ ?_ | exact .inr X2 | exact .inr X4 | exact .inr Xj | (refine .inr ?_; simp [compat, Xw, Wa, Ws, nop, wH_len, wB_len, wC_len] <;> omega))) ?_)
    | refine g ?_
    | refine Two.mk (fun hq => ?_) fun hq => ?_
    | (with_reducible refine Y7 ?_; refine gc rfl rfl rfl ent_83 (cText G hG cur (s := x) (by omega) (by omega) rfl) ?_)
    | (exfalso; omega)
   all_goals first | (exfalso; omega) | exact ⟨rfl, v.names.length - (k + 1), by omega, k + 1, hlt, rfl, by rw [hfin, Z0, Z0, Y4 l, Ya v, h1], e0, e4, e5, e58, e59, rfl⟩
 · obtain rfl : k = v.names.length := by omega
   rw [Ze (by omega)]
   have F : _ ∧ _ ∧ _ ∧ _ ∧ _ ∧ _ ∧ _ ∧ _ := ⟨Y4 l, Ya v, e0, e4, e5, e58, e59, e60⟩
   repeat' first
    | refine g ?_
    | refine Two.mk (fun hq => ?_) fun hq => ?_
    | refine Evry.mk fun x hx => ?_
    | (exfalso; omega)
   exact ⟨by simp, endW (l2 := acc ++ (Yy v.names.length ++ (v.names.zip v.parts).flatMap Fu)) rfl rfl (by rw [← Z3, hP, Z0]) (by rw [← Z3, hP]) ⟨rfl, rfl⟩⟩
theorem write_67 (l : Lat) (v : Val) (h1 : l.kind = 6 ∨ l.kind = 7) (hlen : v.parts.length = l.parts.length) (hpl : l.parts.length ≤ 1000) (hrec : ∀ p ∈ l.parts, ∀ x ∈ v.parts, (p, x) ∈ l.parts.zip v.parts → Ze7 G p x) : Ze7 G l v := fun acc hb => by
 have hp : putV l v = (l.parts.zip v.parts).flatMap fun x => putV x.1 x.2 := by cases l; exact (Zw3 h1 v).trans (putVs_zip _ _)
 rw [hp] at hb ⊢
 have hzl : (l.parts.zip v.parts).length = v.parts.length := by rw [List.length_zip]; omega
 generalize hF : (fun x : Lat × Val => putV x.1 x.2) = Fu at *
 refine Y5 Tryz.func50 rfl (Z1 rfl) hG fun hl0 _ => ?_
 simp only [Tryz.ntmps50]
 rcases h1 with h1 | h1
 all_goals
  have F : _ ∧ _ ∧ _ := ⟨Y4 l, Ya v, h1⟩
  repeat' first
   | refine g0 ?_
   | fail
  refine Yn (fun m e h' => ∃ (k : Nat) (T : List Ob), k ≤ v.parts.length ∧ m = v.parts.length - k ∧ h' = wC (acc ++ ((l.parts.zip v.parts).take k).flatMap Fu).length (byD (acc ++ ((l.parts.zip v.parts).take k).flatMap Fu)) (.cells (latX l)) (.cells (vaX v)) T ∧ e 0 = .ptr 0 0 ∧ e 4 = .ptr 2 0 ∧ e 5 = .ptr 3 0 ∧ e 17 = .sl 4 (v.parts.map vaX) ∧ e 18 = .v (.int .i64 v.parts.length) ∧ e 19 = .v (.int .i64 k)) v.parts.length ⟨0, [], Z6 _, rfl, by rw [Y4 l, Ya v, h1, Za, Zb, Z9], rfl, rfl, rfl, rfl, rfl, rfl⟩ ?_
  rintro m e h' ⟨k, T, hk, rfl, rfl, e0, e4, e5, e17, e18, e19⟩
  by_cases hlt : k < v.parts.length
  · have hx : l.parts[k]? = some (l.parts[k]'(by omega)) := Z2 (by omega)
    have hy : v.parts[k]? = some v.parts[k] := Z2 hlt
    have hz : (l.parts.zip v.parts)[k]? = some (l.parts[k]'(by omega), v.parts[k]) := by rw [Zh]; exact ⟨hx, hy⟩
    have hrx := hrec _ (Z7 (show k < l.parts.length by omega)) _ (Z7 hlt) (List.mem_of_getElem? hz)
    generalize (l.parts[k]'(by omega)) = p at hx hrx hz
    generalize v.parts[k] = y at hy hrx hz
    have hst := Zx7 Fu hz
    have hle := Zx6 Fu (l.parts.zip v.parts) (k + 1)
    have hFx : Fu (p, y) = putV p y := by rw [← hF]
    rw [hst, Z0, hFx] at hle
    have wk : IntKind.i64.wrap ((k : Int) + 1) = ((k + 1 : Nat) : Int) := IntWalk.i64_in _ (by omega)
    generalize hcur : acc ++ ((l.parts.zip v.parts).take k).flatMap Fu = cur
    have hcl : cur.length + (putV p y).length ≤ 1000000 := by rw [← hcur, Z0]; omega
    have hw2 := hrx cur hcl
    have hlp : low 0 (.agg (latX p)) := by rw [low]; exact U4 _ p
    have hlx : low 0 (.agg (vaX y)) := by rw [low]; exact Xu _ y
    simp only [Y4 p, Ya y] at hw2 hlp hlx
    have F : _ ∧ _ ∧ _ ∧ _ ∧ _ ∧ _ ∧ _ ∧ _ ∧ _ ∧ _ ∧ _ ∧ _ := ⟨Y4 l, Ya v, Y4 p, Ya y, e0, e4, e5, e17, e18, e19, wk, h1⟩
    repeat' first
     | (with_reducible refine Yj ?_; refine X7 mixd (by kernel_rfl) ?_)
     | ((with_reducible refine Uc ?_); first | (refine Xg rfl rfl rfl (by (simp only [go_sem, F]; rfl)) (by rw [getD_agg' aggT_30, szT_30]; rfl) ?_) | (refine aS_call2 (i := 0) (j := 1) rfl rfl rfl ent_50 rfl rfl (fun h2 k1 k2 => w_at G hG (by rw [lowL, lowL, lowL]; exact ⟨hlp, hlx, trivial⟩) (by simp [low, lowL]) hw2 k1 k2) ?_) | (refine aS1 rfl rfl fun K HK => ?_; simp only [go_sem, F]; (first | refine X1 (fun hq => ?_) (fun hq => ?_) | (refine ⟨by omega, by omega, ?_⟩; refine W9 (by assumption) ?_) | skip) <;> (refine HK _ _ rfl ?_; clear HK K)) | refine Xg rfl rfl rfl (by (simp only [go_sem, F]; rfl)) (by rw [getD_one (by simp only [go_sem, F])]; rfl) ?_ | refine V4 (by simp only [List.reverse_cons, List.reverse_nil, Zo, Zj, W5, chk1]; repeat' (first | exact trivial | refine And.intro ?_ ?_ | exact .inr X2 | exact .inr X4 | exact .inr Xj | (refine .inr ?_; simp [compat, Xw, Wa, Ws, nop, wH_len, wB_len, wC_len] <;> omega))) ?_)
     | refine g ?_
     | refine Two.mk (fun hq => ?_) fun hq => ?_
     | (exfalso; omega)
    all_goals first | (exfalso; omega) | exact ⟨rfl, v.parts.length - (k + 1), by omega, k + 1, T ++ [.cells (vaX y)], hlt, rfl, by rw [hst, hFx, ← Z3, hcur, Z0, Y4 l, Ya v, Ya y, h1], e0, e4, e5, e17, e18, rfl⟩
  · obtain rfl : k = v.parts.length := by omega
    rw [Ze (by omega)]
    have F : _ ∧ _ ∧ _ ∧ _ ∧ _ ∧ _ ∧ _ ∧ _ := ⟨Y4 l, Ya v, e0, e4, e5, e17, e18, e19⟩
    repeat' first
     | refine g ?_
     | refine Two.mk (fun hq => ?_) fun hq => ?_
     | refine Evry.mk fun x hx => ?_
     | (exfalso; omega)
    exact ⟨by simp, endW (l2 := acc ++ (l.parts.zip v.parts).flatMap Fu) rfl rfl (by rw [Z0]) rfl ⟨rfl, rfl⟩⟩
def tkE (t : Tk) : List UInt8 := Yy t.process.toNat ++ Yy t.n.toNat
omit hG in
theorem ticks_fm : ∀ c : List Tk, Ya7 c = c.flatMap tkE
 | [] => rfl
 | t :: r => by rw [Ya7, ticks_fm r, Zd, tkE, Z3]
theorem write_9 (l : Lat) (v : Val) (h1 : l.kind = 9) (hok : ∀ e ∈ v.entries, Xk e.clock = true ∧ e.name.size ≤ 16) : Ze7 G l v := fun acc hb => by
 have hp : putV l v = Yy v.entries.length ++ v.entries.flatMap Wt := by cases l; simp only [Lat.kind] at h1; subst h1; exact putV_9 v
 rw [hp] at hb ⊢
 rw [Z0] at hb
 have hnl : v.entries.length ≤ 1000000 := by
  have : v.entries.length ≤ (v.entries.flatMap Wt).length := by
   clear hb hp hok
   induction v.entries with
   | nil => simp
   | cons a t ih => rw [Zd, Z0, Zf]; have := Zo5 a; omega
  omega
 have hw : IntKind.u64.wrap (v.entries.length : Int) = ((v.entries.length : Nat) : Int) := by rw [IntKind.wrap_u64]; omega
 refine Y5 Tryz.func50 rfl (Z1 rfl) hG fun hl0 _ => ?_
 simp only [Tryz.ntmps50]
 have F : _ ∧ _ ∧ _ ∧ _ := ⟨Y4 l, Ya v, h1, hw⟩
 repeat' first
  | refine g0 ?_
  | (with_reducible refine Y7 ?_; refine gc rfl rfl rfl Zd7 (Yj9 G hG acc (n := v.entries.length) (by omega) (by omega) rfl rfl) ?_)
 generalize hP : acc ++ Yy v.entries.length = P
 have hPl : P.length + (v.entries.flatMap Wt).length ≤ 1000000 := by rw [← hP, Z0]; omega
 refine Yn (fun m e h' => ∃ (k : Nat) (T : List Ob), k ≤ v.entries.length ∧ m = v.entries.length - k ∧ h' = wC (P ++ (v.entries.take k).flatMap Wt).length (byD (P ++ (v.entries.take k).flatMap Wt)) (.cells (latX l)) (.cells (vaX v)) T ∧ e 0 = .ptr 0 0 ∧ e 4 = .ptr 2 0 ∧ e 5 = .ptr 3 0 ∧ e 108 = .sl 2 (v.entries.map enX) ∧ e 109 = .v (.int .i64 v.entries.length) ∧ e 110 = .v (.int .i64 k)) v.entries.length ⟨0, [], Z6 _, rfl, by rw [Y4 l, Ya v, h1, Za, Zb, Z9, ← hP, Z0], rfl, rfl, rfl, rfl, rfl, rfl⟩ ?_
 rintro m e h' ⟨k, T, hk, rfl, rfl, e0, e4, e5, e108, e109, e110⟩
 by_cases hlt : k < v.entries.length
 rotate_left
 · obtain rfl : k = v.entries.length := by omega
   rw [Zm]
   have F : _ ∧ _ ∧ _ ∧ _ ∧ _ ∧ _ ∧ _ ∧ _ := ⟨Y4 l, Ya v, e0, e4, e5, e108, e109, e110⟩
   repeat' first
    | refine g ?_
    | refine Two.mk (fun hq => ?_) fun hq => ?_
    | refine Evry.mk fun x hx => ?_
    | (exfalso; omega)
   exact ⟨by simp, endW (l2 := acc ++ (Yy v.entries.length ++ v.entries.flatMap Wt)) rfl rfl (by rw [← Z3, hP, Z0]) (by rw [← Z3, hP]) ⟨rfl, rfl⟩⟩
 have hx : v.entries[k]? = some v.entries[k] := Z2 hlt
 obtain ⟨hcb, hns⟩ := hok _ (Z7 hlt)
 generalize v.entries[k] = x at hx hcb hns
 have hst := Zx7 Wt hx
 have hle := Zx6 Wt v.entries (k + 1)
 rw [hst, Z0] at hle
 have hcl64 := Zp1 hcb
 have hmem := fun t ht => Un (-1) x.clock (by omega) hcb t ht
 have hEx : Wt x = Yy x.clock.length ++ (x.clock.flatMap tkE ++ Xq x.name) := by rw [← ticks_fm]; rfl
 generalize hcur : P ++ (v.entries.take k).flatMap Wt = cur
 have hcl : cur.length + (Wt x).length ≤ 1000000 := by rw [← hcur, Z0]; omega
 rw [hEx, Z0, Z0] at hcl
 have hwc : IntKind.u64.wrap (x.clock.length : Int) = ((x.clock.length : Nat) : Int) := by rw [IntKind.wrap_u64]; omega
 have wk : IntKind.i64.wrap ((k : Int) + 1) = ((k + 1 : Nat) : Int) := IntWalk.i64_in _ (by omega)
 have F : _ ∧ _ ∧ _ ∧ _ ∧ _ ∧ _ ∧ _ ∧ _ ∧ _ ∧ _ ∧ _ := ⟨Y4 l, Ya v, e0, e4, e5, e108, e109, e110, h1, hwc, Jc⟩
 repeat' first
  | refine g ?_
  | refine Two.mk (fun hq => ?_) fun hq => ?_
  | (with_reducible refine Y7 ?_; refine gc rfl rfl rfl Zd7 (Yj9 G hG cur (n := x.clock.length) (by omega) (by omega) rfl rfl) ?_)
  | (exfalso; omega)
 generalize hQ : cur ++ Yy x.clock.length = Q
 have hQl : Q.length + ((x.clock.flatMap tkE).length + (Xq x.name).length) ≤ 1000000 := by rw [← hQ, Z0]; omega
 refine Yn (fun m e h' => ∃ (j : Nat) (U : List Ob), j ≤ x.clock.length ∧ m = x.clock.length - j ∧ h' = wC (Q ++ (x.clock.take j).flatMap tkE).length (byD (Q ++ (x.clock.take j).flatMap tkE)) (.cells (latX l)) (.cells (vaX v)) (T ++ .cells (enX x) :: U) ∧ e 0 = .ptr 0 0 ∧ e 4 = .ptr 2 0 ∧ e 5 = .ptr 3 0 ∧ e 9 = .ptr (T.length + 4) 0 ∧ e 108 = .sl 2 (v.entries.map enX) ∧ e 109 = .v (.int .i64 v.entries.length) ∧ e 110 = .v (.int .i64 k) ∧ e 121 = .sl 2 (x.clock.map tkX) ∧ e 122 = .v (.int .i64 x.clock.length) ∧ e 123 = .v (.int .i64 j)) x.clock.length ⟨0, [], Z6 _, rfl, by rw [Y4 l, Ya v, Jc, h1, Za, Zb, Z9, ← hQ, Z0], e0, e4, e5, rfl, e108, e109, e110, rfl, rfl, rfl⟩ ?_
 (try clear F); clear e0 e4 e5 e108 e109 e110 e
 rintro m e h' ⟨j, U, hj, rfl, rfl, e0, e4, e5, e9, e108, e109, e110, e121, e122, e123⟩
 have hlq := Zx6 tkE x.clock j
 by_cases hlj : j < x.clock.length
 rotate_left
 · obtain rfl : j = x.clock.length := by omega
   rw [Zm]
   generalize hR : Q ++ x.clock.flatMap tkE = R
   have hRl : R.length ≤ 1000000 := by rw [← hR, Z0]; omega
   have hfin : P ++ (v.entries.take (k + 1)).flatMap Wt = R ++ Xq x.name := by rw [hst, hEx, ← hR, ← hQ, ← hcur]; simp only [Z3]
   have F : _ ∧ _ ∧ _ ∧ _ ∧ _ ∧ _ ∧ _ ∧ _ ∧ _ ∧ _ ∧ _ ∧ _ ∧ _ ∧ _ ∧ _ := ⟨Y4 l, Ya v, e0, e4, e5, e9, e108, e109, e110, e121, e122, e123, h1, wk, Jc⟩
   repeat' first
    | refine g ?_
    | refine Two.mk (fun hq => ?_) fun hq => ?_
    | refine Evry.mk fun x hx => ?_
    | (with_reducible refine Y7 ?_; refine gc rfl rfl rfl ent_83 (cText G hG R (s := x.name) (by omega) (by omega) rfl) ?_)
    | (exfalso; omega)
   exact ⟨rfl, v.entries.length - (k + 1), by omega, k + 1, T ++ .cells (enX x) :: U, hlt, rfl, by rw [hfin, Z0, Y4 l, Ya v, Jc, h1], e0, e4, e5, e108, e109, rfl⟩
 have hy : x.clock[j]? = some x.clock[j] := Z2 hlj
 obtain ⟨hy1, hy2⟩ := hmem _ (Z7 hlj)
 generalize x.clock[j] = t at hy hy1 hy2
 have hst2 := Zx7 tkE hy
 have wj : IntKind.i64.wrap ((j : Int) + 1) = ((j + 1 : Nat) : Int) := IntWalk.i64_in _ (by omega)
 have wp : IntKind.u64.wrap t.process = ((t.process.toNat : Nat) : Int) := by rw [IntKind.wrap_u64]; omega
 have wn : IntKind.u64.wrap t.n = ((t.n.toNat : Nat) : Int) := by rw [IntKind.wrap_u64]; omega
 generalize hR : Q ++ (x.clock.take j).flatMap tkE = R
 have hRl : R.length ≤ 1000000 := by rw [← hR, Z0]; omega
 have hfin : Q ++ (x.clock.take (j + 1)).flatMap tkE = R ++ (Yy t.process.toNat ++ Yy t.n.toNat) := by rw [hst2, ← hR, tkE]; simp only [Z3]
 have hu := (Zg9 t.process.toNat (by omega)).1
 have F : _ ∧ _ ∧ _ ∧ _ ∧ _ ∧ _ ∧ _ ∧ _ ∧ _ ∧ _ ∧ _ ∧ _ ∧ _ ∧ _ ∧ _ ∧ _ ∧ _ := ⟨Y4 l, Ya v, e0, e4, e5, e9, e108, e109, e110, e121, e122, e123, h1, wj, wp, wn, Zj4⟩
 repeat' first
  | refine g ?_
  | refine Two.mk (fun hq => ?_) fun hq => ?_
  | (with_reducible refine Y7 ?_; first | refine gc rfl rfl rfl Zd7 (Yj9 G hG R (n := t.process.toNat) (by omega) (by omega) rfl rfl) ?_ | refine gc rfl rfl rfl Zd7 (Yj9 G hG (R ++ Yy t.process.toNat) (n := t.n.toNat) (by omega) (by rw [Z0]; omega) (by simp) rfl) ?_)
  | (exfalso; omega)
 exact ⟨rfl, x.clock.length - (j + 1), by omega, j + 1, U ++ [.cells (tkX t)], hlj, rfl, by rw [hfin, Z0, Z0, Y4 l, Ya v, Zj4, h1], e0, e4, e5, e9, e108, e109, e110, e121, e122, rfl⟩
end
section
section
variable {P : Program} {G : Nat → D} {n : Nat} {e : Nat → D} {h : List Ob}
theorem Sit_niltmp {B : Base} {a : Act} {w : World} (E k t : Nat) (ht : e t = .v (.slice none 0 0)) (r : Sit G B ⟨n, e, h⟩ a w) : Sit G B ⟨n, upd e t (.buf h.length 0), h ++ [.buf E k []]⟩ a w := by
 obtain ⟨hd, p, r⟩ := r
 obtain ⟨o, ev⟩ := Ok.grow (ob := .buf E k []) (u := .slice none 0 0) (w' := w) r.ok rfl rfl rfl (Zq _) (fun _ _ => rfl) (fun b hb => by cases hb) (fun c s => ⟨[], World.ownsRow_nil _ _ _ _, by simp [rdL], fun row h => by simp at h, fun g h => by cases h⟩)
 refine ⟨_, _, o, r.evo.trans ev, fun t' => ?_, r.size, r.defers⟩
 have q := ev.rd r.ok (r.tmp t')
 show rd _ _ _ (upd e t (.buf h.length 0) t') _
 unfold upd
 by_cases hh : t' = t
 · subst hh
   rw [if_pos rfl]
   have ht : (⟨n, e, h⟩ : S).env t' = .v (.slice none 0 0) := ht
   rw [ht] at q
   exact rd_nilbuf (E := E) (k := k) (by simp) (by rw [← r.ok.len]; simp) q
 · rw [if_neg hh]; exact q
theorem aw_niltmp {c : Code} {Q : Exit → S → Prop} (E k t : Nat) (ht : e t = .v (.slice none 0 0)) (q : aw P G c Q ⟨n, upd e t (.buf h.length 0), h ++ [.buf E k []]⟩) : aw P G c Q ⟨n, e, h⟩ := fun B a w r => q B a w (Sit_niltmp E k t ht r)
end
end
section
attribute [local irreducible] on aOp
attribute [local go_sem] decide_true decide_false Zs Zp
attribute [local simp] byD_len
variable (G : Nat → D) (hG : ∀ g, low 0 (G g))
include hG
attribute [local go_sem] Zg Int.reduceEq Int.reduceLE Int.reduceLT Zi Zn Nat.reduceAdd Nat.reduceBEq Zk Zl Nat.reduceMul
attribute [local go_sem ↓] reduceIte
theorem letter_d (c : Nat) (h : List Ob) : Does Z4 G 154 h [.v (.int .u8 c)] (fun h' r => h' = h ∧ r = .v (.bool (Zi8 c))) := by
 refine Y5 Tryz.func154 rfl (Z1 rfl) hG fun hl0 _ => ?_
 simp only [Tryz.ntmps154]
 repeat' first
  | refine g ?_
  | refine Two.mk (fun hq => ?_) fun hq => ?_
  | (exfalso; omega)
 all_goals first
 | (exfalso; omega)
 | exact ⟨.inr rfl, endD (r := .v (.bool true)) hl0 rfl (by simp) (by simp) rfl (by rw [low]; trivial) ⟨rfl, by rw [show Zi8 c = true from decide_eq_true (by omega)]⟩⟩
 | exact ⟨.inr rfl, endD (r := .v (.bool false)) hl0 rfl (by simp) (by simp) rfl (by rw [low]; trivial) ⟨rfl, by rw [show Zi8 c = false from decide_eq_false (by omega)]⟩⟩
theorem sValid_d (s : ByteArray) (hs : s.size ≤ 9223372036854775807) (h : List Ob) : Does Z4 G 119 h [.v (.string s)] (fun h' r => h' = h ∧ r = .v (.bool (Wg s))) := by
 refine Y5 Tryz.func119 rfl (Z1 rfl) hG fun hl0 _ => ?_
 simp only [Tryz.ntmps119]
 by_cases hsz : 1 ≤ s.size ∧ s.size ≤ 16
 rotate_left
 · have e1 := Zf8 (s := s) (fun h => hsz h.1)
   repeat' first
    | refine g ?_
    | refine Two.mk (fun hq => ?_) fun hq => ?_
    | (exfalso; omega)
   all_goals exact ⟨.inr rfl, endD (r := .v (.bool false)) hl0 rfl (by simp) (by simp) rfl (by rw [low]; trivial) ⟨rfl, by rw [e1]⟩⟩
 obtain ⟨b0, hb0⟩ : ∃ b, s.data[0]? = some b := ⟨s.data[0]'(by show 0 < s.size; omega), Z8 _⟩
 have g0 := Zx4 hb0
 by_cases hb : 97 ≤ b0.toNat ∧ b0.toNat ≤ 122
 rotate_left
 · have e1 := Zf8 (s := s) (fun h => hb (by rw [← g0]; exact h.2))
   repeat' first
    | (with_reducible refine Y7 ?_; (refine ao1 rfl rfl fun K HK => ?_; simp only [go_sem]; refine U7 (by simp only [go_sem]) hb0 (by first | rfl | omega) ?_; refine HK _ _ ?_; clear HK K))
    | refine g ?_
    | refine Two.mk (fun hq => ?_) fun hq => ?_
    | (exfalso; omega)
   all_goals first | (exfalso; omega) | exact ⟨.inr rfl, endD (r := .v (.bool false)) hl0 rfl (by simp) (by simp) rfl (by rw [low]; trivial) ⟨rfl, by rw [e1]⟩⟩
 have e1 := Zw8 (s := s) ⟨hsz, by rw [g0]; exact hb⟩
 repeat' first
  | (with_reducible refine Y7 ?_; (refine ao1 rfl rfl fun K HK => ?_; simp only [go_sem]; refine U7 (by simp only [go_sem]) hb0 (by first | rfl | omega) ?_; refine HK _ _ ?_; clear HK K))
  | refine g ?_
  | refine Two.mk (fun hq => ?_) fun hq => ?_
  | (exfalso; omega)
 all_goals try (exfalso; omega)
 refine Yn (fun m e h' => ∃ k : Nat, k ≤ s.size ∧ m = s.size - k ∧ Wg s = (s.data.toList.drop k).all (fun c => Zi8 c.toNat) ∧ h' = h ∧ e 0 = .v (.string s) ∧ e 3 = .v (.int .i64 k)) s.size ⟨0, Z6 _, rfl, e1, rfl, rfl, rfl⟩ ?_
 rintro m e h' ⟨k, hk, rfl, ho, rfl, e0, e3⟩
 by_cases hlt : k < s.size
 · obtain ⟨c, hc⟩ : ∃ b, s.data[k]? = some b := ⟨s.data[k]'hlt, Z8 _⟩
   have wk : IntKind.i64.wrap ((k : Int) + 1) = (k : Int) + 1 := IntWalk.i64_in _ (by omega)
   have hlet := letter_d G hG c.toNat
   rw [Yi9 hc, List.all_cons] at ho
   generalize Zi8 c.toNat = wb at hlet ho
   cases wb
   all_goals
    have F : _ ∧ _ ∧ _ := ⟨e0, e3, wk⟩
    repeat' first
     | (with_reducible refine Y7 ?_; (refine ao1 rfl rfl fun K HK => ?_; simp only [go_sem, F]; refine U7 (by simp only [go_sem, F]) hc (by first | rfl | omega) ?_; refine HK _ _ ?_; clear HK K))
     | refine g ?_
     | refine Two.mk (fun hq => ?_) fun hq => ?_
     | (with_reducible refine Y7 ?_; refine gc rfl rfl rfl ent_154 (hlet _) ?_)
     | (exfalso; omega)
    first
    | exact ⟨rfl, s.size - (k + 1), by omega, k + 1, hlt, rfl, by rw [ho]; rfl, rfl, e0, rfl⟩
    | exact ⟨.inr rfl, endD (r := .v (.bool false)) hl0 rfl (by simp) (by simp) rfl (by rw [low]; trivial) ⟨rfl, by rw [ho]; rfl⟩⟩
 · skip
   have F : _ ∧ _ := ⟨e0, e3⟩
   repeat' first
    | refine g ?_
    | refine Two.mk (fun hq => ?_) fun hq => ?_
    | (exfalso; omega)
   exact ⟨.inr rfl, endD (r := .v (.bool true)) hl0 rfl (by simp) (by simp) rfl (by rw [low]; trivial) ⟨rfl, by rw [ho, Z5 (by show s.data.toList.length ≤ k; rw [Array.length_toList]; show s.size ≤ k; omega)]; rfl⟩⟩
theorem sHas_d (l : List ByteArray) (a : ByteArray) (hl : l.length ≤ 9223372036854775807) (h : List Ob) : Does Z4 G 120 h [.sl 1 (l.map strX), .v (.string a)] (fun h' r => h' = h ∧ r = .v (.bool (hasS l a))) := by
 refine Y5 Tryz.func120 rfl (Z1 rfl) hG fun hl0 _ => ?_
 simp only [Tryz.ntmps120]
 repeat' first
  | refine g0 ?_
  | fail
 refine Yn (fun m e h' => ∃ k : Nat, k ≤ l.length ∧ m = l.length - k ∧ hasS l a = hasS (l.drop k) a ∧ h' = h ∧ e 0 = .sl 1 (l.map strX) ∧ e 1 = .v (.string a) ∧ e 5 = .v (.int .i64 k)) l.length ⟨0, Z6 _, rfl, rfl, rfl, rfl, rfl, rfl⟩ ?_
 rintro m e h' ⟨k, hk, rfl, ho, rfl, e0, e1, e5⟩
 by_cases hlt : k < l.length
 · have hx : l[k]? = some l[k] := Z2 hlt
   have hd : l.drop k = l[k] :: l.drop (k + 1) := Zc hlt
   generalize l[k] = x at hx hd
   have wk : IntKind.i64.wrap ((k : Int) + 1) = (k : Int) + 1 := IntWalk.i64_in _ (by omega)
   rw [hd, hasS] at ho
   have F : _ ∧ _ ∧ _ ∧ _ ∧ _ := ⟨e0, e1, e5, Uh, wk⟩
   repeat' first
    | refine g ?_
    | refine Two.mk (fun hq => ?_) fun hq => ?_
    | (exfalso; omega)
   · exact ⟨.inr rfl, endV hl0 rfl rfl ⟨rfl, by rw [ho, decide_eq_true hq]; rfl⟩⟩
   · exact ⟨rfl, l.length - (k + 1), by omega, k + 1, hlt, rfl, by rw [ho, decide_eq_false hq]; rfl, rfl, e0, e1, rfl⟩
 · skip
   have F : _ ∧ _ ∧ _ := ⟨e0, e1, e5⟩
   repeat' first
    | refine g ?_
    | refine Two.mk (fun hq => ?_) fun hq => ?_
    | refine Evry.mk fun x hx => ?_
    | (exfalso; omega)
   exact ⟨by simp, endV hl0 rfl rfl ⟨rfl, by rw [ho, Z5 (by omega)]; rfl⟩⟩
end
section
attribute [local irreducible] on aOp
attribute [local go_sem] decide_true decide_false Zs Zp
attribute [local simp] byD_len
def idxS (a : ByteArray) : List ByteArray → Nat → Int
 | [], _ => -1
 | x :: t, k => if a = x then k else idxS a t (k + 1)
theorem idxS_ge (a : ByteArray) : ∀ (l : List ByteArray) (k : Nat), decide (0 ≤ idxS a l k) = hasS l a
 | [], k => by simp [idxS, hasS]
 | x :: t, k => by
  have ih := idxS_ge a t (k + 1)
  by_cases h : a = x
  · simp [idxS, hasS, h]
  · rw [idxS, if_neg h, ih, hasS, decide_eq_false (fun q => h q.symm), Bool.false_or]
theorem Zp6 : ∀ l : List ByteArray, l.length ≤ 1 → W6 l = true
 | [], _ => rfl
 | [_], _ => rfl
 | _ :: _ :: _, h => by simp at h
variable (G : Nat → D) (hG : ∀ g, low 0 (G g))
include hG
attribute [local go_sem] Zg Int.reduceEq Int.reduceLE Int.reduceLT Zi Zn Nat.reduceAdd Nat.reduceBEq Zk Zl Nat.reduceMul Uh
attribute [local go_sem ↓] reduceIte
theorem wordByte_d (c : Int) (h : List Ob) : Does Z4 G 152 h [.v (.int .u8 c)] (fun h' r => h' = h ∧ r = .v (.bool (Zi8 c))) := by
 unfold Zi8
 refine Y5 Tryz.func152 rfl (Z1 rfl) hG fun hl0 _ => ?_
 simp only [Tryz.ntmps152]
 repeat' first
  | refine g ?_
  | refine Two.mk (fun hq => ?_) fun hq => ?_
  | (exfalso; omega)
 all_goals first | (exfalso; omega) | refine ⟨.inr rfl, endV hl0 rfl rfl ⟨rfl, congrArg (fun b => D.v (.bool b)) ?_⟩⟩
 all_goals (clear hl0; rw [Bool.eq_iff_iff]; simp; omega)
theorem Zh8 (s : ByteArray) (hs : s.size ≤ 9223372036854775807) (h : List Ob) : Does Z4 G 114 h [.v (.string s)] (fun h' r => h' = h ∧ r = .v (.bool (Wg s))) := by
 refine Y5 Tryz.func114 rfl (Z1 rfl) hG fun hl0 _ => ?_
 simp only [Tryz.ntmps114]
 by_cases hsz : 1 ≤ s.size ∧ s.size ≤ 16
 rotate_left
 · have e1 := Zf8 (s := s) (fun h => hsz h.1)
   repeat' first
    | refine g ?_
    | refine Two.mk (fun hq => ?_) fun hq => ?_
    | (exfalso; omega)
   all_goals first | (exfalso; omega) | exact ⟨.inr rfl, endD (r := .v (.bool false)) hl0 rfl (by simp) (by simp) rfl (by rw [low]; trivial) ⟨rfl, by rw [e1]⟩⟩
 obtain ⟨b0, hb0⟩ : ∃ b, s.data[0]? = some b := ⟨s.data[0]'(by show 0 < s.size; omega), Z8 _⟩
 have g0 := Zx4 hb0
 by_cases hb : 97 ≤ b0.toNat ∧ b0.toNat ≤ 122
 rotate_left
 · have e1 := Zf8 (s := s) (fun h => hb (by rw [← g0]; exact h.2))
   repeat' first
    | (with_reducible refine Y7 ?_; (refine ao1 rfl rfl fun K HK => ?_; simp only [go_sem]; refine U7 (by simp only [go_sem]) hb0 (by first | rfl | omega) ?_; refine HK _ _ ?_; clear HK K))
    | refine g ?_
    | refine Two.mk (fun hq => ?_) fun hq => ?_
    | (exfalso; omega)
   all_goals first | (exfalso; omega) | exact ⟨.inr rfl, endD (r := .v (.bool false)) hl0 rfl (by simp) (by simp) rfl (by rw [low]; trivial) ⟨rfl, by rw [e1]⟩⟩
 have e1 := Zw8 (s := s) ⟨hsz, by rw [g0]; exact hb⟩
 repeat' first
  | (with_reducible refine Y7 ?_; (refine ao1 rfl rfl fun K HK => ?_; simp only [go_sem]; refine U7 (by simp only [go_sem]) hb0 (by first | rfl | omega) ?_; refine HK _ _ ?_; clear HK K))
  | refine g ?_
  | refine Two.mk (fun hq => ?_) fun hq => ?_
  | (exfalso; omega)
 all_goals try (exfalso; omega)
 refine Yn (fun m e h' => ∃ k : Nat, k ≤ s.size ∧ m = s.size - k ∧ Wg s = (s.data.toList.drop k).all (fun c => Zi8 c.toNat) ∧ h' = h ∧ e 0 = .v (.string s) ∧ e 23 = .v (.int .i64 s.size) ∧ e 24 = .v (.int .i64 k)) s.size ⟨0, Z6 _, rfl, e1, rfl, rfl, rfl, rfl⟩ ?_
 rintro m e h' ⟨k, hk, rfl, ho, rfl, e0, e23, e24⟩
 by_cases hlt : k < s.size
 · obtain ⟨c, hc⟩ : ∃ b, s.data[k]? = some b := ⟨s.data[k]'hlt, Z8 _⟩
   have wk : IntKind.i64.wrap ((k : Int) + 1) = (k : Int) + 1 := IntWalk.i64_in _ (by omega)
   rw [Yi9 hc, List.all_cons] at ho
   have hw := wordByte_d G hG (c.toNat : Int)
   cases hwb : Zi8 c.toNat <;> rw [hwb] at hw ho
   · skip
     have F : _ ∧ _ ∧ _ ∧ _ := ⟨e0, e23, e24, wk⟩
     repeat' first
      | (with_reducible refine Y7 ?_; (refine ao1 rfl rfl fun K HK => ?_; simp only [go_sem, F]; refine U7 (by simp only [go_sem, F]) hc (by first | rfl | omega) ?_; refine HK _ _ ?_; clear HK K))
      | refine g ?_
      | refine Two.mk (fun hq => ?_) fun hq => ?_
      | (with_reducible refine Y7 ?_; refine gc rfl rfl rfl ent_152 (hw _) ?_)
      | (exfalso; omega)
     exact ⟨.inr rfl, endD (r := .v (.bool false)) hl0 rfl (by simp) (by simp) rfl (by rw [low]; trivial) ⟨rfl, by rw [ho]; rfl⟩⟩
   · skip
     have F : _ ∧ _ ∧ _ ∧ _ := ⟨e0, e23, e24, wk⟩
     repeat' first
      | (with_reducible refine Y7 ?_; (refine ao1 rfl rfl fun K HK => ?_; simp only [go_sem, F]; refine U7 (by simp only [go_sem, F]) hc (by first | rfl | omega) ?_; refine HK _ _ ?_; clear HK K))
      | refine g ?_
      | refine Two.mk (fun hq => ?_) fun hq => ?_
      | (with_reducible refine Y7 ?_; refine gc rfl rfl rfl ent_152 (hw _) ?_)
      | (exfalso; omega)
     exact ⟨rfl, s.size - (k + 1), by omega, k + 1, hlt, rfl, by rw [ho]; rfl, rfl, e0, e23, rfl⟩
 · skip
   have F : _ ∧ _ ∧ _ := ⟨e0, e23, e24⟩
   repeat' first
    | refine g ?_
    | refine Two.mk (fun hq => ?_) fun hq => ?_
    | (exfalso; omega)
   exact ⟨.inr rfl, endD (r := .v (.bool true)) hl0 rfl (by simp) (by simp) rfl (by rw [low]; trivial) ⟨rfl, by rw [ho, Z5 (by show s.data.toList.length ≤ k; rw [Array.length_toList]; show s.size ≤ k; omega)]; rfl⟩⟩
theorem idxS_d (l : List ByteArray) (a : ByteArray) (hl : l.length ≤ 9223372036854775807) (h : List Ob) : Does Z4 G 169 h [.sl 1 (l.map strX), .v (.string a)] (fun h' r => h' = h ∧ r = .v (.int .i64 (idxS a l 0))) := by
 refine Y5 Tryz.func169 rfl (Z1 rfl) hG fun hl0 _ => ?_
 simp only [Tryz.ntmps169]
 repeat' first
  | refine g0 ?_
  | fail
 refine Yn (fun m e h' => ∃ k : Nat, k ≤ l.length ∧ m = l.length - k ∧ idxS a l 0 = idxS a (l.drop k) k ∧ h' = h ∧ e 0 = .sl 1 (l.map strX) ∧ e 1 = .v (.string a) ∧ e 7 = .v (.int .i64 l.length) ∧ e 8 = .v (.int .i64 k)) l.length ⟨0, Z6 _, rfl, rfl, rfl, rfl, rfl, rfl, rfl⟩ ?_
 rintro m e h' ⟨k, hk, rfl, ho, rfl, e0, e1, e7, e8⟩
 by_cases hlt : k < l.length
 · have hx : l[k]? = some l[k] := Z2 hlt
   have hd : l.drop k = l[k] :: l.drop (k + 1) := Zc hlt
   generalize l[k] = x at hx hd
   have wk : IntKind.i64.wrap ((k : Int) + 1) = (k : Int) + 1 := IntWalk.i64_in _ (by omega)
   rw [hd, idxS] at ho
   have F : _ ∧ _ ∧ _ ∧ _ ∧ _ := ⟨e0, e1, e7, e8, wk⟩
   repeat' first
    | refine g ?_
    | refine Two.mk (fun hq => ?_) fun hq => ?_
    | (exfalso; omega)
   · exact ⟨.inr rfl, endV hl0 rfl rfl ⟨rfl, by rw [ho, if_pos hq]⟩⟩
   · exact ⟨rfl, l.length - (k + 1), by omega, k + 1, hlt, rfl, by rw [ho, if_neg hq], rfl, e0, e1, e7, rfl⟩
 · skip
   have F : _ ∧ _ ∧ _ ∧ _ := ⟨e0, e1, e7, e8⟩
   repeat' first
    | refine g ?_
    | refine Two.mk (fun hq => ?_) fun hq => ?_
    | refine Evry.mk fun x hx => ?_
    | (exfalso; omega)
   exact ⟨by simp, endV hl0 rfl rfl ⟨rfl, by rw [ho, Z5 (by omega)]; rfl⟩⟩
theorem contS_d (l : List ByteArray) (a : ByteArray) (hl : l.length ≤ 9223372036854775807) (h : List Ob) : Does Z4 G 150 h [.sl 1 (l.map strX), .v (.string a)] (fun h' r => h' = h ∧ r = .v (.bool (hasS l a))) := by
 rw [← idxS_ge a l 0]
 have hi := idxS_d G hG l a hl
 generalize idxS a l 0 = i at *
 refine Y5 Tryz.func150 rfl (Z1 rfl) hG fun hl0 _ => ?_
 simp only [Tryz.ntmps150]
 repeat' first
  | refine g ?_
  | refine Two.mk (fun hq => ?_) fun hq => ?_
  | (with_reducible refine Y7 ?_; refine gc rfl rfl rfl ent_169 (hi _) ?_)
 all_goals exact ⟨.inr rfl, endV hl0 rfl rfl ⟨rfl, by first | rw [decide_eq_true hq] | rw [decide_eq_false hq]⟩⟩
theorem hasS_d (l : List ByteArray) (a : ByteArray) (hl : l.length ≤ 9223372036854775807) (h : List Ob) : Does Z4 G 115 h [.sl 1 (l.map strX), .v (.string a)] (fun h' r => h' = h ∧ r = .v (.bool (hasS l a))) := by
 refine Y5 Tryz.func115 rfl (Z1 rfl) hG fun hl0 _ => ?_
 simp only [Tryz.ntmps115]
 repeat' first
  | refine g0 ?_
  | (with_reducible refine Y7 ?_; refine gc rfl rfl rfl ent_150 (contS_d G hG l a hl _) ?_)
 exact ⟨.inr rfl, endV hl0 rfl rfl ⟨rfl, rfl⟩⟩
theorem Zu4 (l : List ByteArray) (hl : l.length ≤ 9223372036854775807) (h : List Ob) : Does Z4 G 113 h [.sl 1 (l.map strX)] (fun h' r => h' = h ∧ r = .v (.bool (W6 l))) := by
 by_cases hsh : l.length ≤ 1
 · rw [Zp6 l hsh]
   refine Y5 Tryz.func113 rfl (Z1 rfl) hG fun hl0 _ => ?_
   simp only [Tryz.ntmps113]
   repeat' first
    | refine g0 ?_
    | fail
   refine Yn (fun m e h' => h' = h ∧ e 0 = .sl 1 (l.map strX) ∧ e 3 = .v (.int .i64 1)) l.length ⟨rfl, rfl, rfl⟩ ?_
   rintro m e h' ⟨rfl, e0, e3⟩
   have F : _ ∧ _ := ⟨e0, e3⟩
   repeat' first
    | (with_reducible refine Yj ?_; refine Yb mixd (by kernel_rfl) ?_)
    | refine g ?_
    | refine Two.mk (fun hq => ?_) fun hq => ?_
    | refine Evry.mk fun x hx => ?_
    | (exfalso; omega)
   all_goals first | (exfalso; omega) | exact ⟨.inr rfl, endV hl0 rfl rfl ⟨rfl, rfl⟩⟩
 obtain ⟨x0, t, rfl⟩ : ∃ x t, l = x :: t := by
  cases l with
  | nil => simp at hsh
  | cons x t => exact ⟨x, t, rfl⟩
 generalize hll : x0 :: t = l at *
 have h0 : W6 l = W1 (l[0]'(by omega)) (l.drop 1) := by subst hll; rfl
 refine Y5 Tryz.func113 rfl (Z1 rfl) hG fun hl0 _ => ?_
 simp only [Tryz.ntmps113]
 repeat' first
  | refine g0 ?_
  | fail
 refine Yn (fun m e h' => ∃ (k : Nat) (hk : k < l.length), m = l.length - k ∧ W6 l = W1 l[k] (l.drop (k + 1)) ∧ h' = h ∧ e 0 = .sl 1 (l.map strX) ∧ e 3 = .v (.int .i64 ((k : Int) + 1))) l.length ⟨0, by omega, rfl, h0, rfl, rfl, rfl⟩ ?_
 rintro m e h' ⟨k, hk, rfl, ho, rfl, e0, e3⟩
 by_cases hlt : k + 1 < l.length
 · have hx : l[k]? = some l[k] := Z2 (by omega)
   have hy : l[k + 1]? = some l[k + 1] := Z2 hlt
   rw [Zu3 l k hlt] at ho
   have wk : IntKind.i64.wrap ((k : Int) + 1 + 1) = (k : Int) + 1 + 1 := IntWalk.i64_in _ (by omega)
   have wm : IntKind.i64.wrap ((k : Int) + 1 - 1) = (k : Int) := by rw [show (k : Int) + 1 - 1 = (k : Int) by omega]; exact IntWalk.i64_in _ (by omega)
   have tk : ((k : Int) + 1).toNat = k + 1 := by omega
   unfold Jf at ho
   cases hlt2 : Op.bytesLess l[k].toList l[k + 1].toList
   · generalize l[k] = x at *
     generalize l[k + 1] = y at *
     have F : _ ∧ _ ∧ _ ∧ _ ∧ _ ∧ _ := ⟨e0, e3, wk, wm, tk, hlt2⟩
     repeat' first
      | (with_reducible refine Yj ?_; refine Yb mixd (by kernel_rfl) ?_)
      | refine g ?_
      | refine Two.mk (fun hq => ?_) fun hq => ?_
      | (exfalso; omega)
     exact ⟨by simp, endV hl0 rfl rfl ⟨rfl, by rw [ho, hlt2]; rfl⟩⟩
   · rw [hlt2, Bool.true_and] at ho
     generalize l[k] = x at *
     have hy' := hy
     generalize hyl : l[k + 1] = y at hy hlt2
     have F : _ ∧ _ ∧ _ ∧ _ ∧ _ ∧ _ := ⟨e0, e3, wk, wm, tk, hlt2⟩
     repeat' first
      | (with_reducible refine Yj ?_; refine Yb mixd (by kernel_rfl) ?_)
      | refine g ?_
      | refine Two.mk (fun hq => ?_) fun hq => ?_
      | (exfalso; omega)
     exact ⟨rfl, l.length - (k + 1), by omega, k + 1, hlt, rfl, ho, rfl, e0, rfl⟩
 · skip
   have F : _ ∧ _ := ⟨e0, e3⟩
   repeat' first
    | (with_reducible refine Yj ?_; refine Yb mixd (by kernel_rfl) ?_)
    | refine g ?_
    | refine Two.mk (fun hq => ?_) fun hq => ?_
    | refine Evry.mk fun x hx => ?_
    | (exfalso; omega)
   exact ⟨by simp, endV hl0 rfl rfl ⟨rfl, by rw [ho, Z5 (by omega)]; rfl⟩⟩
theorem subsetS_d (a b : List ByteArray) (ha : a.length ≤ 9223372036854775807) (hb : b.length ≤ 9223372036854775807) (h : List Ob) : Does Z4 G 116 h [.sl 1 (a.map strX), .sl 1 (b.map strX)] (fun h' r => h' = h ∧ r = .v (.bool (Wo a b))) := by
 refine Y5 Tryz.func116 rfl (Z1 rfl) hG fun hl0 _ => ?_
 simp only [Tryz.ntmps116]
 repeat' first
  | refine g0 ?_
  | fail
 refine Yn (fun m e h' => ∃ k : Nat, k ≤ a.length ∧ m = a.length - k ∧ Wo a b = Wo (a.drop k) b ∧ h' = h ∧ e 1 = .sl 1 (b.map strX) ∧ e 7 = .sl 1 (a.map strX) ∧ e 8 = .v (.int .i64 a.length) ∧ e 9 = .v (.int .i64 k)) a.length ⟨0, Z6 _, rfl, rfl, rfl, rfl, rfl, rfl, rfl⟩ ?_
 rintro m e h' ⟨k, hk, rfl, ho, rfl, e1, e7, e8, e9⟩
 by_cases hlt : k < a.length
 · have hx : a[k]? = some a[k] := Z2 hlt
   have hd : a.drop k = a[k] :: a.drop (k + 1) := Zc hlt
   generalize a[k] = x at hx hd
   have wk : IntKind.i64.wrap ((k : Int) + 1) = (k : Int) + 1 := IntWalk.i64_in _ (by omega)
   have hh := hasS_d G hG b x hb
   have ho : Wo a b = (hasS b x && Wo (a.drop (k + 1)) b) := by rw [ho, hd]; rfl
   cases hxb : hasS b x <;> rw [hxb] at hh ho
   · skip
     have F : _ ∧ _ ∧ _ ∧ _ ∧ _ := ⟨e1, e7, e8, e9, wk⟩
     repeat' first
      | refine g ?_
      | refine Two.mk (fun hq => ?_) fun hq => ?_
      | (with_reducible refine Y7 ?_; refine gc rfl rfl rfl Ze0 (hh _) ?_)
      | (exfalso; omega)
     exact ⟨.inr rfl, endV hl0 rfl rfl ⟨rfl, by rw [ho]; rfl⟩⟩
   · skip
     have F : _ ∧ _ ∧ _ ∧ _ ∧ _ := ⟨e1, e7, e8, e9, wk⟩
     repeat' first
      | refine g ?_
      | refine Two.mk (fun hq => ?_) fun hq => ?_
      | (with_reducible refine Y7 ?_; refine gc rfl rfl rfl Ze0 (hh _) ?_)
      | (exfalso; omega)
     exact ⟨rfl, a.length - (k + 1), by omega, k + 1, hlt, rfl, by rw [ho]; rfl, rfl, e1, e7, e8, rfl⟩
 · skip
   have F : _ ∧ _ ∧ _ ∧ _ := ⟨e1, e7, e8, e9⟩
   repeat' first
    | refine g ?_
    | refine Two.mk (fun hq => ?_) fun hq => ?_
    | refine Evry.mk fun x hx => ?_
    | (exfalso; omega)
   exact ⟨by simp, endV hl0 rfl rfl ⟨rfl, by rw [ho, Z5 (by omega)]; rfl⟩⟩
end
section
variable {P : Program} {G : Nat → D} {n : Nat} {e : Nat → D} {h : List Ob} {ops : Array Oper} {rest : List Oper} {Q : S → Prop}
end
section
section
variable {P : Program} {G : Nat → D} {n m0 : Nat} {e : Nat → D} {h : List Ob} {ops : Array Oper} {rest : List Oper} {Q : (Nat → D) → List Ob → Prop} {done : List Eff} {t : Nat} {ty : TypeId} {pos : String} {aft : Array Edge} {gd : Option (Nat × Bool)}
theorem aS_idxB {u : TypeId} {x y : Operand} {i m E k : Nat} {κ : IntKind} {z : Int} {xs : List (List D)} (hw : Yo ops gd e = some true) (ht : decide (t < n) = true) (hx : ev G e x = .buf i m) (hy : ev G e y = .v (.int κ z)) (hi : h[i]? = some (.buf E k xs)) (hm : xs.length = m) (he : (elT P u).bind (szT P) = some k) (h0 : 0 ≤ z) (h1 : z < (m : Int))
 (q : aeS P G n m0 ops Q (Xw i (.buf E k xs) (.bp i m z.toNat 0) :: done) rest (upd e t (.bp i m z.toNat 0)) h) : aeS P G n m0 ops Q done (⟨some t, .indexAddr u x y, ty, pos, aft, gd⟩ :: rest) e h := by
 have hh : ∀ h, (Xw i (.buf E k xs) (.bp i m z.toNat 0)).heap h = h := fun h => by simp [Xw, Eff.heap, Xc]
 refine ⟨Xw i (.buf E k xs) (.bp i m z.toNat 0), .inl ⟨hw, ⟨by simp [Xw], fun _ _ _ => rfl⟩, fun h2 k2 => .inl ?_⟩, by simpa [Xw, Eff.ok] using hi, ?_⟩
 · rw [hh]
   have hi2 : h2[i]? = some (.buf E k xs) := k2 (i, .buf E k xs) (by simp [Xw])
   rw [aOp_iaddr, hx, hy, idxA_buf]
   exact ⟨E, k, xs, hi2, hm, he, h0, h1, rfl, rfl⟩
 · rw [hh]; unfold putE; simp only [if_pos (of_decide_eq_true ht)]; exact q
theorem aS_loadB {u : TypeId} {x : Operand} {i m r j E k : Nat} {xs : List (List D)} {row : List D} {d : D} (hw : Yo ops gd e = some true) (ht : decide (t < n) = true) (hx : ev G e x = .bp i m r j) (hi : h[i]? = some (.buf E k xs)) (hm : xs.length = m) (hr : xs[r]? = some row) (hg : getD P u row j = some d)
 (q : aeS P G n m0 ops Q (Xw i (.buf E k xs) d :: done) rest (upd e t d) h) : aeS P G n m0 ops Q done (⟨some t, .load u x, ty, pos, aft, gd⟩ :: rest) e h := by
 have hh : ∀ h, (Xw i (.buf E k xs) d).heap h = h := fun h => by simp [Xw, Eff.heap, Xc]
 refine ⟨Xw i (.buf E k xs) d, .inl ⟨hw, ⟨by simp [Xw], fun _ _ _ => rfl⟩, fun h2 k2 => .inl ?_⟩, by simpa [Xw, Eff.ok] using hi, ?_⟩
 · rw [hh]
   have hi2 : h2[i]? = some (.buf E k xs) := k2 (i, .buf E k xs) (by simp [Xw])
   show on (Uy P h2 u (ev G e x)) _
   rw [hx]
   simp only [Uy, hi2, hr, if_pos hm, Option.bind_some, hg, on]
   exact ⟨trivial, rfl⟩
 · rw [hh]; unfold putE; simp only [if_pos (of_decide_eq_true ht)]; exact q
end
theorem does_newR {P : Program} {G : Nat → D} {f : FuncId} {args : List D} (hG : ∀ g, low 0 (G g)) {e k n : Nat} {rows : List (List D)} (lr : low 0 (.sl k rows)) (la : lowL 0 args) (q : Does P G f [] args (fun h' r => h' = [.buf e k rows] ∧ r = .buf 0 n)) (h : List Ob) : Does P G f h args (fun h' r => h' = h ++ [.buf e k rows] ∧ r = .buf h.length n) := by
 refine Does.holes 1 ?_
 have L : Lies (fun _ => h.length) [] (h ++ holes 1) := ⟨fun i ob q => by simp at q, fun i j q => by simp at q, fun ob q => by simp at q⟩
 have F := Does.frame hG L (args := args) la (K1 := fun h' r => h' = [.buf e k rows] ∧ r = .buf 0 n) (by
  rintro _ _ ⟨rfl, _⟩
  refine ⟨fun i j hi hj _ => by simp at hi hj; omega, fun j _ hj => ?_⟩
  simp [holes]) q
 rw [W4 _ _ la] at F
 refine F.mono ?_
 rintro _ _ ⟨_, _, ⟨rfl, rfl⟩, rfl, rfl⟩
 have e1 : renR (fun _ => h.length) rows = rows := by
  have := J2 (fun _ => h.length) _ lr
  rw [ren] at this
  exact (D.sl.inj this).2
 simp [plc, Va, ren, holes, e1]
end
section
section
variable {P : Program} {G : Nat → D} {n : Nat} {e : Nat → D} {h : List Ob} {ops : Array Oper} {rest : List Oper} {Q : S → Prop} {t : Nat} {ty : TypeId} {pos : String} {aft : Array Edge} {gd : Option (Nat × Bool)}
end
end
section
variable {P : Program} {G : Nat → D} {f : FuncId} {h : List Ob} {args : List D}
theorem Does.reown {K K' : List Ob → D → Prop} (q : Does P G f h args K) (c : ∀ h' r, K h' r → K' h' r ∨ ∃ i n b E k xs, h'[i]? = some (.buf E k xs) ∧ xs.length = n ∧ b ≤ n ∧ r = .win i n 0 b ∧ K' (h'.set i .dead ++ [.buf E k (xs.take b)]) (.buf h'.length b)) : Does P G f h args K' := fun w hd p vs o ha => by
 refine (q w hd p vs o ha).mono ?_
 rintro e w' ⟨v, hd', h', r, p', rfl, hK, ok, hr, ev⟩
 rcases c _ _ hK with hk | ⟨i, n, b, E, k, xs, hi, hn, hb, rfl, hk⟩
 · exact ⟨v, hd', h', r, p', rfl, hk, ok, hr, ev⟩
 · obtain ⟨o2, ev2, hr2⟩ := ok.reown hi hn hb hr
   exact ⟨v, _, _, _, _, rfl, hk, o2, hr2, ev.trans ev2⟩
mutual
theorem rnO_low0 (R : List Nat) : ∀ d, low 0 d → rnO R d = some d
 | .any, _ => by rw [rnO]
 | .v _, _ => by rw [rnO]
 | .e0, _ => by rw [rnO]
 | .sl k xs, l => by rw [low] at l; rw [rnO, Zr3 R xs l]
 | .agg ds, l => by rw [low] at l; rw [rnO, Zf4 R ds l]
 | .tup ds, l => by rw [low] at l; rw [rnO, Zf4 R ds l]
 | .rp ds, l => by rw [low] at l; rw [rnO, Zf4 R ds l]
 | .fn f ds, l => by rw [low] at l; rw [rnO, Zf4 R ds l]
 | .ptr i o, l => by rw [low] at l; omega
 | .buf i n, l => by rw [low] at l; omega
 | .bp i n r c, l => by rw [low] at l; omega
 | .win i n a b, l => by rw [low] at l; omega
 | .arr i o n c k, l => by rw [low] at l; omega
 | .mp i, l => by rw [low] at l; omega
theorem Zf4 (R : List Nat) : ∀ d, lowL 0 d → rnL R d = some d
 | [], _ => by rw [rnL]
 | d :: t, l => by rw [lowL] at l; rw [rnL, rnO_low0 R d l.1, Zf4 R t l.2]
theorem Zr3 (R : List Nat) : ∀ d, lowR 0 d → rnR R d = some d
 | [], _ => by rw [rnR]
 | d :: t, l => by rw [lowR] at l; rw [rnR, Zf4 R d l.1, Zr3 R t l.2]
end
theorem Does.only0 {K : List Ob → D → Prop} (hG : ∀ g, low 0 (G g)) {E k n : Nat} {rows : List (List D)} (lr : low 0 (.sl k rows)) (q : Does P G f [] args K) (c : ∀ h' r, K h' r → ∃ i, h'[i]? = some (.buf E k rows) ∧ r = .buf i n) : Does P G f [] args (fun h' r => h' = [.buf E k rows] ∧ r = .buf 0 n) := by
 refine q.shrink hG fun h' r hK => ?_
 obtain ⟨i, hi, rfl⟩ := c _ _ hK
 rw [low] at lr
 refine ⟨[.buf E k rows], .buf 0 n, ⟨[i], ?_, rfl, ?_, Z6 _, fun k hk => by simp at hk⟩, rfl, rfl⟩
 · simp [rnH, hi, rnOb, Zr3 _ _ lr]
 · simp [rnO, pos]
theorem Does.gave0 (hG : ∀ g, low 0 (G g)) {E k n : Nat} {rows : List (List D)} (lr : low 0 (.sl k rows)) (la : lowL 0 args) (hn : rows.length = n) (q : Does P G f [] args (fun h' r => h' = [.buf E k rows] ∧ r = .buf 0 n)) (h : List Ob) : Does P G f h args (fun h' r => h' = h ∧ r = .sl k rows) := by
 refine Yk G hG la lr (q.drop hG ?_) h
 rintro _ _ ⟨rfl, rfl⟩
 refine ⟨0, Zq _, Z6 _, fun x hx => by simp at hx, ?_, ?_⟩
 · simpa [cvD, cv1, hn] using lr
 · simp [cvD, cv1, hn]
end
section
variable {P : Program} {G : Nat → D} {w w' : World} {hd : List Value} {h : List Ob} {p : Nat → Bool}
theorem Ok.kept (o : Ok G w hd h p) (h1 : w'.os = w.os) (h2 : w'.tape = w.tape) (h3 : w'.output = w.output) (h4 : w.heap.size ≤ w'.heap.size) (h5 : ∀ b, b < w.heap.size → w'.heap[b]? = w.heap[b]?) : Ok G w' hd h p ∧ Evo w hd h p w' hd h p := by
 have e : Evo w hd h p w' hd h p := ⟨h1, h2, h3, h4, fun k hk _ => h5 k hk, fun _ _ q => q, fun _ _ q => .inl q, fun _ _ q => q, .refl _ _⟩
 exact ⟨⟨o.len, fun i ob u h1 h2 => obOk.move e o (o.ob i ob u h1 h2) (fun hl k hk => h5 k (o.lt ⟨i, ob, u, h1, hl, h2, hk⟩)) (fun _ _ _ q => q), o.inj, Ji e o, Jj e o⟩, e⟩
theorem Does.borrow (hG : ∀ g, low 0 (G g)) {f : FuncId} {args : List D} {i E k n : Nat} {rows : List (List D)} {x : Value} (hi : h[i]? = some (.buf E k rows)) (hn : rows.length = n) (la : lowL 0 args) (lr : low 0 (.sl k rows)) (q : Does P G f [] (.sl k rows :: args) (fun h' r => h' = [] ∧ r = .v x)) : Does P G f h (.buf i n :: args) (fun h' r => h' = h ∧ r = .v x) := fun w hd p vs ok ha => by
 rw [rdL] at ha
 obtain ⟨u, t, rfl, hu, ht⟩ := ha
 obtain ⟨p', o', ev, cv⟩ := ok.give (fun j => j == i)
 have hr := cv _ _ hu
 have e : cvD (fun j => j == i) h (.buf i n) = .sl k rows := by simp [cvD, cv1, hi, hn]
 rw [e] at hr
 have ht2 := ev.rdL ok ht
 have o2 := o'.take (m := 0) (fun x hx => by simp at hx) hG
 have r1 := Zo0 (m := 0) o'.len _ _ lr hr
 have r2 := U9 (m := 0) o'.len _ _ la ht2
 simp only [Za] at o2 r1 r2
 refine (q w [] p' (u :: t) o2 (by rw [rdL]; exact ⟨u, t, rfl, r1, r2⟩)).mono ?_
 rintro e w' ⟨v, hd', h', r, p2, rfl, ⟨rfl, rfl⟩, ok2, hr2, ev2⟩
 rw [rd] at hr2; subst hr2
 obtain ⟨o3, ev3⟩ := ok.kept ev2.os ev2.tape ev2.output ev2.size fun b hb => ev2.keep b hb fun ⟨j, ob, u, q, _⟩ => by simp at q
 exact ⟨_, hd, h, .v _, p, rfl, ⟨rfl, rfl⟩, o3, by rw [rd], ev3⟩
end
section
def w32 (z : Int) : Int := IntKind.u32.wrap z
def Zb8 (a b : Int) : Int := IntKind.u32.wrap (a + b)
def Zt3 (a b : Int) : Int := IntKind.u32.wrap ((BitVec.ofInt 32 a ^^^ BitVec.ofInt 32 b).toNat : Int)
def and32 (a b : Int) : Int := IntKind.u32.wrap ((BitVec.ofInt 32 a &&& BitVec.ofInt 32 b).toNat : Int)
def or32 (a b : Int) : Int := IntKind.u32.wrap ((BitVec.ofInt 32 a ||| BitVec.ofInt 32 b).toNat : Int)
def not32 (a : Int) : Int := IntKind.u32.wrap ((BitVec.ofInt 32 4294967295 ^^^ BitVec.ofInt 32 a).toNat : Int)
def shr32 (a : Int) (n : Nat) : Int := a.fdiv (2 ^ n)
def shl32 (a : Int) (n : Nat) : Int := IntKind.u32.wrap (a * 2 ^ n)
def Ya2 (x : Int) (n : Nat) : Int := or32 (x.fdiv (2 ^ min n 32)) (IntKind.u32.wrap (x * 2 ^ min (32 - n) 32))
def zD (z : Int) : D := .v (.int .u32 z)
def be4 (a b c d : UInt8) : Int := or32 (or32 (or32 (shl32 (w32 a.toNat) 24) (shl32 (w32 b.toNat) 16)) (shl32 (w32 c.toNat) 8)) (w32 d.toNat)
def sgZ (x15 x2 x7 x16 : Int) : Int :=
 Zb8 (Zb8 (Zb8 (Zt3 (Zt3 (Ya2 x2 17) (Ya2 x2 19)) (shr32 x2 10)) x7) (Zt3 (Zt3 (Ya2 x15 7) (Ya2 x15 18)) (shr32 x15 3))) x16
structure W8 where
 a : Int
 b : Int
 c : Int
 d : Int
 e : Int
 f : Int
 g : Int
 h : Int
def W8.ls (x : W8) : List Int := [x.a, x.b, x.c, x.d, x.e, x.f, x.g, x.h]
def W8.add (x y : W8) : W8 := ⟨Zb8 x.a y.a, Zb8 x.b y.b, Zb8 x.c y.c, Zb8 x.d y.d, Zb8 x.e y.e, Zb8 x.f y.f, Zb8 x.g y.g, Zb8 x.h y.h⟩
def t1Z (u : W8) (k w : Int) : Int := Zb8 (Zb8 (Zb8 (Zb8 u.h (Zt3 (Zt3 (Ya2 u.e 6) (Ya2 u.e 11)) (Ya2 u.e 25))) (Zt3 (and32 u.e u.f) (and32 (not32 u.e) u.g))) k) w
def s0Z (u : W8) : Int := Zt3 (Zt3 (Ya2 u.a 2) (Ya2 u.a 13)) (Ya2 u.a 22)
def majZ (u : W8) : Int := Zt3 (Zt3 (and32 u.a u.b) (and32 u.a u.c)) (and32 u.b u.c)
def rndZ (k w : Int) (u : W8) : W8 := ⟨Zb8 (t1Z u k w) (Zb8 (s0Z u) (majZ u)), u.a, u.b, u.c, Zb8 u.d (t1Z u k w), u.e, u.f, u.g⟩
def sch1 (b : List UInt8) : Nat → List Int → List Int
 | 0, W => W
 | n + 1, W => sch1 b n (W.set (15 - n) (be4 (b.getD (4 * (15 - n)) 0) (b.getD (4 * (15 - n) + 1) 0) (b.getD (4 * (15 - n) + 2) 0) (b.getD (4 * (15 - n) + 3) 0)))
def sch2 : Nat → List Int → List Int
 | 0, W => W
 | n + 1, W => sch2 n (W.set (63 - n) (sgZ (W.getD (63 - n - 15) 0) (W.getD (63 - n - 2) 0) (W.getD (63 - n - 7) 0) (W.getD (63 - n - 16) 0)))
def rndsZ (K W : List Int) : Nat → W8 → W8
 | 0, u => u
 | n + 1, u => rndsZ K W n (rndZ (K.getD (63 - n) 0) (W.getD (63 - n) 0) u)
def shaK : List Int := [0x428a2f98, 0x71374491, 0xb5c0fbcf, 0xe9b5dba5, 0x3956c25b, 0x59f111f1, 0x923f82a4, 0xab1c5ed5,
 0xd807aa98, 0x12835b01, 0x243185be, 0x550c7dc3, 0x72be5d74, 0x80deb1fe, 0x9bdc06a7, 0xc19bf174,
 0xe49b69c1, 0xefbe4786, 0x0fc19dc6, 0x240ca1cc, 0x2de92c6f, 0x4a7484aa, 0x5cb0a9dc, 0x76f988da,
 0x983e5152, 0xa831c66d, 0xb00327c8, 0xbf597fc7, 0xc6e00bf3, 0xd5a79147, 0x06ca6351, 0x14292967,
 0x27b70a85, 0x2e1b2138, 0x4d2c6dfc, 0x53380d13, 0x650a7354, 0x766a0abb, 0x81c2c92e, 0x92722c85,
 0xa2bfe8a1, 0xa81a664b, 0xc24b8b70, 0xc76c51a3, 0xd192e819, 0xd6990624, 0xf40e3585, 0x106aa070,
 0x19a4c116, 0x1e376c08, 0x2748774c, 0x34b0bcb5, 0x391c0cb3, 0x4ed8aa4a, 0x5b9cca4f, 0x682e6ff3,
 0x748f82ee, 0x78a5636f, 0x84c87814, 0x8cc70208, 0x90befffa, 0xa4506ceb, 0xbef9a3f7, 0xc67178f2]
def shaIV : W8 := ⟨0x6a09e667, 0xbb67ae85, 0x3c6ef372, 0xa54ff53a, 0x510e527f, 0x9b05688c, 0x1f83d9ab, 0x5be0cd19⟩
def schZ (b : List UInt8) : List Int := sch2 48 (sch1 b 16 (Zr 64 0))
def blkZ (v : W8) (b : List UInt8) : W8 := (rndsZ shaK (schZ b) 64 v).add v
def blksZ (v : W8) (l : List UInt8) : W8 := if l.length < 64 then v else blksZ (blkZ v (l.take 64)) (l.drop 64)
termination_by l.length
decreasing_by simp; omega
def zc (m : Nat) : Nat := (119 - m % 64) % 64
def be8 (n : Nat) : List UInt8 := (List.range 8).map fun j => UInt8.ofNat (n / 2 ^ (56 - 8 * j))
def padZ (b : List UInt8) (n : Nat) : List UInt8 := b ++ [128] ++ Zr (zc b.length) 0 ++ be8 (8 * n)
def byZ (z : Int) : UInt8 := UInt8.ofNat (IntKind.u8.wrap z).toNat
def outW (z : Int) : List UInt8 := [byZ (z.fdiv (2 ^ 24)), byZ (z.fdiv (2 ^ 16)), byZ (z.fdiv (2 ^ 8)), byZ z]
def outZ (v : W8) : List UInt8 := (v.ls.map outW).flatten
def sumZ (b : List UInt8) : List UInt8 := outZ (blksZ shaIV (padZ b b.length))
def restZ (b : List UInt8) : List UInt8 := b.drop (64 * (b.length / 64))
/-! Keyed digests. -/
def keyZ (k : List UInt8) : List UInt8 := let k' := if 64 < k.length then sumZ k else k
 k' ++ Zr (64 - k'.length) 0
def xorB (x : UInt8) (k : List UInt8) : List UInt8 := k.map (· ^^^ x)
def tagZ (k m : List UInt8) : List UInt8 := sumZ (xorB 0x5c (keyZ k) ++ sumZ (xorB 0x36 (keyZ k) ++ m))
attribute [irreducible] schZ rndsZ blkZ sumZ tagZ
end
section
theorem Yd {h : List Ob} {i : Nat} {ob : Ob} : (h.set i ob).take h.length = h.set i ob := Ze (by simp)
theorem Yc {h l : List Ob} {i : Nat} {ob : Ob} : (h.set i ob ++ l).take h.length = h.set i ob := by rw [List.take_append_of_le_length (by simp)]; exact Yd
theorem endS {res : Array ResultVar} {h0 : List Ob} {K : List Ob → D → Prop} {s : S} {ds : List D} {r : D} {i : Nat} {ob : Ob} (hl : lowH h0.length h0) (ho : Zx1 h0.length ob) (h1 : resD Z4 s res.toList = some ds) (h2 : s.h.take h0.length = h0.set i ob) (h4 : h0.length ≤ s.h.length)
 (h3 : cvD (fun i => decide (h0.length ≤ i)) s.h (outD ds) = r) (h5 : low h0.length r) (hK : K (h0.set i ob) r) : EndD Z4 res h0.length K s := ⟨ds, h0.length, h1, Zq _, h4, by rw [h2]; exact lowH_set hl ho, by rw [h3]; exact h5, by rw [h2, h3]; exact hK⟩
theorem by_row {l : List UInt8} {i : Nat} {x : UInt8} {K : List D → Prop} (q : l[i]? = some x) (k : K [.v (.int .u8 x.toNat)]) : ∀ row, (byD l)[i]? = some row → K row := fun row hr => by
 obtain ⟨b, hb, rfl⟩ := Zp2.1 hr
 rw [q] at hb; cases hb; exact k
def Yf (s : RS) : Ob := .cells [.sl 1 (byD s.data), .v (.int .i64 s.pos), .v (.int .i64 s.item), .v (.int .i64 s.err)]
theorem Vw (s : RS) : Yf s = .cells [.sl 1 (byD s.data), .v (.int .i64 s.pos), .v (.int .i64 s.item), .v (.int .i64 s.err)] := rfl
theorem Xm (m : Nat) (s : RS) : Zx1 m (Yf s) := ⟨Ja m _, by simp [lowL, low]⟩
def rawJ (p i acc : Nat) : List UInt8 → D
 | [] => .tup [.v (.int .u64 (0 : Int)), .v (.int .i64 (0 : Int)), .v (.bool false)]
 | b :: t => if 10 ≤ i then .tup [.v (.int .u64 (0 : Int)), .v (.int .i64 (0 : Int)), .v (.bool false)]
   else if i = 9 ∧ 1 < b.toNat then .tup [.v (.int .u64 (0 : Int)), .v (.int .i64 (0 : Int)), .v (.bool false)]
   else if b.toNat < 128 then .tup [.v (.int .u64 ((acc + b.toNat % 128 * 2 ^ (7 * i) : Nat) : Int)), .v (.int .i64 ((p + i + 1 : Nat) : Int)), .v (.bool (decide (b.toNat ≠ 0 ∨ i = 0)))]
   else rawJ p (i + 1) (acc + b.toNat % 128 * 2 ^ (7 * i)) t
def RS.rawN (s : RS) : D := rawJ s.pos 0 0 (s.data.drop s.pos)
theorem Zv8 (p : Nat) : ∀ (l : List UInt8) (i acc : Nat), (match numF i l with
 | none => ∃ a b : Int, rawJ p i acc l = .tup [.v (.int .u64 a), .v (.int .i64 b), .v (.bool false)]
 | some (m, c) => rawJ p i acc l = .tup [.v (.int .u64 ((acc + m * 2 ^ (7 * i) : Nat) : Int)), .v (.int .i64 ((p + i + c : Nat) : Int)), .v (.bool true)])
 | [], i, acc => by rw [Zs4]; exact ⟨_, _, rfl⟩
 | b :: t, i, acc => by
  by_cases hi : 10 ≤ i
  · rw [numF_ge _ hi]; exact ⟨0, 0, by rw [rawJ, if_pos hi]⟩
  by_cases h9 : i = 9 ∧ 1 < b.toNat
  · rw [Yi1 _ h9]; exact ⟨0, 0, by rw [rawJ, if_neg hi, if_pos h9]⟩
  by_cases hb : b.toNat < 128
  · rw [Zd3 t (by omega) h9 hb, rawJ, if_neg hi, if_neg h9, if_pos hb]
    by_cases hz : b.toNat = 0 ∧ i ≠ 0
    · rw [if_pos hz, decide_eq_false (by omega)]; exact ⟨_, _, rfl⟩
    · rw [if_neg hz, decide_eq_true (by omega), Nat.mod_eq_of_lt hb]
  · rw [Zl4 t (by omega) h9 hb, rawJ, if_neg hi, if_neg h9, if_neg hb]
    have ih := Zv8 p t (i + 1) (acc + b.toNat % 128 * 2 ^ (7 * i))
    rcases hr : numF (i + 1) t with _ | ⟨m, c⟩
    · rw [hr] at ih; exact ih
    · rw [hr] at ih
      simp only at ih ⊢
      rw [ih]
      have e1 : acc + b.toNat % 128 * 2 ^ (7 * i) + m * 2 ^ (7 * (i + 1)) = acc + (b.toNat % 128 + 128 * m) * 2 ^ (7 * i) := by
       rw [show 7 * (i + 1) = 7 + 7 * i by omega, Nat.pow_add, Nat.add_mul, Nat.add_assoc, show m * (2 ^ 7 * 2 ^ (7 * i)) = 128 * m * 2 ^ (7 * i) by rw [← Nat.mul_assoc, Nat.mul_comm m]]
      rw [e1, show p + (i + 1) + c = p + i + (c + 1) by omega]
theorem Zv7 {s : RS} (q : s.num = none) : ∃ a b : Int, s.rawN = .tup [.v (.int .u64 a), .v (.int .i64 b), .v (.bool false)] := by
 have h := Zv8 s.pos (s.data.drop s.pos) 0 0
 have q : numF 0 (s.data.drop s.pos) = none := q
 rw [q] at h; exact h
theorem Zv6 {s : RS} {n c : Nat} (q : s.num = some (n, c)) : s.rawN = .tup [.v (.int .u64 n), .v (.int .i64 ((s.pos : Int) + (c : Int))), .v (.bool true)] := by
 have h := Zv8 s.pos (s.data.drop s.pos) 0 0
 have q : numF 0 (s.data.drop s.pos) = some (n, c) := q
 rw [q] at h
 simpa [RS.rawN] using h
theorem and_byte : ∀ m : Fin 256, IntKind.u8.wrap ((BitVec.ofInt 8 (m.val : Int) &&& BitVec.ofInt 8 127).toNat : Int) = ((m.val % 128 : Nat) : Int) := by decide +kernel
theorem and_byte' (b : UInt8) : IntKind.u8.wrap ((BitVec.ofInt 8 (b.toNat : Int) &&& BitVec.ofInt 8 127).toNat : Int) = ((b.toNat % 128 : Nat) : Int) := and_byte ⟨b.toNat, b.toNat_lt⟩
theorem Yf5 {acc b i : Nat} (ha : acc < 2 ^ (7 * i)) (hi : i < 10) (h9 : ¬ (i = 9 ∧ 1 < b)) (hb : b < 256) :
 b % 128 * 2 ^ (7 * i) < 18446744073709551616 ∧ acc < 18446744073709551616 ∧ acc + b % 128 * 2 ^ (7 * i) < 2 ^ (7 * (i + 1)) := by
 have e : 2 ^ (7 * (i + 1)) = 128 * 2 ^ (7 * i) := by rw [show 7 * (i + 1) = 7 + 7 * i by omega, Nat.pow_add]
 have h3 : b % 128 * 2 ^ (7 * i) ≤ 127 * 2 ^ (7 * i) := Nat.mul_le_mul_right _ (by omega)
 refine ⟨?_, ?_, by omega⟩
 · rcases Nat.lt_or_ge i 9 with h | h
   · have h1 : 2 ^ (7 * i) ≤ 2 ^ 56 := Nat.pow_le_pow_right (by omega) (by omega)
     omega
   · have : i = 9 := by omega
     subst this
     have h2 : b % 128 * 2 ^ (7 * 9) ≤ 1 * 2 ^ 63 := Nat.mul_le_mul (by omega) (Zq _)
     omega
 · have h1 : 2 ^ (7 * i) ≤ 2 ^ 63 := Nat.pow_le_pow_right (by omega) (by omega)
   omega
theorem shl_val {b i : Nat} (h : b % 128 * 2 ^ (7 * i) < 18446744073709551616) (hi : i < 10) : IntKind.u64.wrap (((b % 128 : Nat) : Int) * 2 ^ min (7 * i) 64) = ((b % 128 * 2 ^ (7 * i) : Nat) : Int) := by
 have e : ((b % 128 : Nat) : Int) * 2 ^ min (7 * i) 64 = ((b % 128 * 2 ^ (7 * i) : Nat) : Int) := by
  rw [Nat.min_eq_left (by omega), Int.natCast_mul, Int.natCast_pow]; rfl
 rw [e, IntKind.wrap_u64]; omega
theorem or_val {acc b i : Nat} (ha : acc < 2 ^ (7 * i)) (h1 : acc < 18446744073709551616) (h2 : b % 128 * 2 ^ (7 * i) < 18446744073709551616) : IntKind.u64.wrap ((BitVec.ofInt 64 (acc : Int) ||| BitVec.ofInt 64 ((b % 128 * 2 ^ (7 * i) : Nat) : Int)).toNat : Int) = ((acc + b % 128 * 2 ^ (7 * i) : Nat) : Int) := by
 have h := u64_or_nat acc (b % 128 * 2 ^ (7 * i)) h1 h2
 refine h.trans ?_
 rw [Nat.or_comm, Nat.mul_comm, ← Nat.two_pow_add_eq_or_of_lt ha, Nat.add_comm]
theorem num_val {acc i : Nat} {x : UInt8} (ha : acc < 2 ^ (7 * i)) (hi : i < 10) (h9 : ¬ (i = 9 ∧ 1 < x.toNat)) : IntKind.u64.wrap ((BitVec.ofInt 64 (acc : Int) ||| BitVec.ofInt 64 (IntKind.u64.wrap (IntKind.u64.wrap (IntKind.u8.wrap ((BitVec.ofInt 8 (x.toNat : Int) &&& BitVec.ofInt 8 127).toNat : Int)) * 2 ^ min (7 * i) 64))).toNat : Int) = ((acc + x.toNat % 128 * 2 ^ (7 * i) : Nat) : Int) := by
 obtain ⟨s1, s2, _⟩ := Yf5 ha hi h9 x.toNat_lt
 have w8 : IntKind.u64.wrap ((x.toNat % 128 : Nat) : Int) = ((x.toNat % 128 : Nat) : Int) := by rw [IntKind.wrap_u64]; omega
 rw [and_byte', w8, shl_val s1 hi, or_val ha s2 s1]
end
section
theorem aOp_larr {P : Program} {G : Nat → D} {e : Nat → D} {h : List Ob} {K : List Ob → D → Prop} {u : TypeId} {x : Operand} {i o : Nat} {ds : List D} {d : D} (hx : ev G e x = .ptr i o) (hi : h[i]? = some (.cells ds)) (hg : getD P u ds o = some d) (q : K h d) : aOp P G e h K (.load u x) := by
 rw [aOp_load, hx]
 simp only [Uy, hi, hg]
 rw [on_some]; exact q
def addJ (V : List Int) : Nat → List Int → List Int
 | 0, U => U
 | n + 1, U => addJ V n (U.set (7 - n) (Zb8 (U.getD (7 - n) 0) (V.getD (7 - n) 0)))
end
section
section
variable {P : Program} {G : Nat → D} {e : Nat → D} {h : List Ob}
end
end
end Go.Proofs.YtmdjnaobllajmaaGreatDoor
