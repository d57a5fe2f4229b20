/-
  What the statements of the chapter share, part 18: RR5, CM1, RB1.
-/
import Derived.Test.YtgkjcmglcnhpaaaGreatDoorO13
import Derived.Test.YtgkjcmglcnhpaaaGreatDoorO15
import Derived.Test.YtgkjcmglcnhpaaaGreatDoorO16
import Derived.Test.YtgkjcmglcnhpaaaGreatDoorO17
set_option linter.unusedVariables false
set_option linter.unusedSimpArgs false
set_option maxRecDepth 100000
set_option maxHeartbeats 8000000
namespace Go.Proofs.YtgkjcmglcnhpaaaGreatDoor
open Go.RowKit
section
set_option maxRecDepth 100000
set_option maxHeartbeats 1000000
attribute [local irreducible] on aOp
attribute [local simp] byD_len
section
variable {P : Program} {G : Nat → D} {n : Nat} {e : Nat → D} {h : List Ob} {ops : Array Oper} {rest : List Oper} {Q : S → Prop} {t : Option Nat} {ty : TypeId} {pos : String} {aft : Array Edge}
theorem ao_bldG {u t' j n1 E1 k1 : Nat} {xs : List (List D)} (hx : e t' = .buf j n1) (hj : h[j]? = some (.buf E1 k1 xs)) (hn : xs.length = n1)
 (q : ao P G ops (⟨t, .build u #[(0, .tmp t')], ty, pos, aft, none⟩ :: rest) Q ⟨n, upd e t' (.sl k1 xs), h.set j .dead⟩) : ao P G ops (⟨t, .build u #[(0, .tmp t')], ty, pos, aft, none⟩ :: rest) Q ⟨n, e, h⟩ := by
 refine ao_give j t' ?_
 have e1 : cvD (fun i => i == j) h (e t') = .sl k1 xs := by rw [hx]; simp [cvD, cv1, hj, hn]
 rw [e1]
 exact q
end
variable (G : Nat → D) (hG : ∀ g, low 0 (G g))
include hG
theorem newReader0 (l : List UInt8) (hl : l.length ≤ 1000000000) : Does Tryz.prog G 47 [] [.sl 1 (byD l)] (fun h' r => h' = [.dead, rdrOb ⟨l, 0, 0, 0⟩] ∧ r = .ptr 1 0) := by
 refine does_of_aw Tryz.func47 rfl (Nat.le_of_ble_eq_true rfl) hG fun hl0 _ => ?_
 simp only [Tryz.ntmps47]
 repeat' first
  | (refine ao_bldG rfl rfl (by first | rfl | (simp; done) | (simp; omega)) ?_)
  | refine aw_seq' ?_
  | refine aw_region' ?_
  | refine aw_block ?_
  | refine ao_nil ?_
  | (refine ao1 rfl rfl fun K HK => ?_; (try refine aOp_pick rfl ?_); simp only [go_sem, ↓reduceIte, Nat.reduceEqDiff, Nat.reduceAdd, Nat.reduceLeDiff, Nat.reduceBEq, Nat.reduceMul, Int.reduceEq, Int.reduceLT, Int.reduceLE, decide_true, decide_false, Bool.not_true, Bool.not_false]; (first | refine splitB (fun hq => ?_) (fun hq => ?_) | refine splitN (fun hq => ?_) (fun hq => ?_) | (refine slc_sl (by simp only [go_sem]) rfl rfl (by first | omega | simp) (by first | omega | simp) (by simp only [go_sem]; omega) ?_) | (refine ⟨by omega, by omega, ?_⟩; first | refine row_at (by assumption) ?_ | (intro row hrow; obtain ⟨x, hx, rfl⟩ := row_inv hrow; clear hrow) | (intro row hrow)) | (refine ⟨by omega, ?_⟩; refine row_at (by assumption) ?_) | skip) <;> (refine HK _ _ ?_; clear HK K))
  | (refine aq1 rfl rfl fun K HK => ?_; (try refine aOp_pick rfl ?_); simp only [go_sem, ↓reduceIte, Nat.reduceEqDiff, Nat.reduceAdd, Nat.reduceLeDiff, Nat.reduceBEq, Nat.reduceMul, Int.reduceEq, Int.reduceLT, Int.reduceLE, decide_true, decide_false, Bool.not_true, Bool.not_false]; (first | refine splitB (fun hq => ?_) (fun hq => ?_) | refine splitN (fun hq => ?_) (fun hq => ?_) | (refine slc_sl (by simp only [go_sem]) rfl rfl (by first | omega | simp) (by first | omega | simp) (by simp only [go_sem]; omega) ?_) | (refine ⟨by omega, by omega, ?_⟩; first | refine row_at (by assumption) ?_ | (intro row hrow; obtain ⟨x, hx, rfl⟩ := row_inv hrow; clear hrow) | (intro row hrow)) | (refine ⟨by omega, ?_⟩; refine row_at (by assumption) ?_) | skip) <;> (refine HK _ _ rfl ?_; clear HK K))
  | refine aq0 rfl rfl ?_
  | refine aq_nil ?_
  | (refine aw_draw mixd (by kernel_rfl) ?_)
  | refine ao_appB rfl rfl rfl rfl (by first | assumption | (simp only [go_sem, ↓reduceIte, Nat.reduceEqDiff, Nat.reduceAdd, Nat.reduceLeDiff, Nat.reduceBEq, Nat.reduceMul, Int.reduceEq, Int.reduceLT, Int.reduceLE, decide_true, decide_false, Bool.not_true, Bool.not_false]; rfl) | (simp only [go_sem, ↓reduceIte, Nat.reduceEqDiff, Nat.reduceAdd, Nat.reduceLeDiff, Nat.reduceBEq, Nat.reduceMul, Int.reduceEq, Int.reduceLT, Int.reduceLE, decide_true, decide_false, Bool.not_true, Bool.not_false]; done)) (by simp) (by simp only [go_sem]; rfl) (by first | assumption | (simp only [go_sem, ↓reduceIte, Nat.reduceEqDiff, Nat.reduceAdd, Nat.reduceLeDiff, Nat.reduceBEq, Nat.reduceMul, Int.reduceEq, Int.reduceLT, Int.reduceLE, decide_true, decide_false, Bool.not_true, Bool.not_false]; rfl) | (simp only [go_sem, ↓reduceIte, Nat.reduceEqDiff, Nat.reduceAdd, Nat.reduceLeDiff, Nat.reduceBEq, Nat.reduceMul, Int.reduceEq, Int.reduceLT, Int.reduceLE, decide_true, decide_false, Bool.not_true, Bool.not_false]; done)) (by simp) (by first | assumption | exact rowsOk_nil _ | exact rowsOk_by _ | (rw [byD_cut]; exact rowsOk_by _) | (simp [rowsOk, D.one, Value.oneCell']; done)) (by first | omega | (simp; done) | (simp; omega) | (simp [byD]; omega)) ?_
  | refine ao_appNB rfl rfl rfl rfl (by simp only [go_sem]; rfl) (by first | assumption | (simp only [go_sem, ↓reduceIte, Nat.reduceEqDiff, Nat.reduceAdd, Nat.reduceLeDiff, Nat.reduceBEq, Nat.reduceMul, Int.reduceEq, Int.reduceLT, Int.reduceLE, decide_true, decide_false, Bool.not_true, Bool.not_false]; rfl) | (simp only [go_sem, ↓reduceIte, Nat.reduceEqDiff, Nat.reduceAdd, Nat.reduceLeDiff, Nat.reduceBEq, Nat.reduceMul, Int.reduceEq, Int.reduceLT, Int.reduceLE, decide_true, decide_false, Bool.not_true, Bool.not_false]; done)) (by simp) (by first | assumption | exact rowsOk_nil _ | exact rowsOk_by _ | (rw [byD_cut]; exact rowsOk_by _) | (simp [rowsOk, D.one, Value.oneCell']; done)) (by first | omega | (simp; done) | (simp; omega) | (simp [byD]; omega)) ?_
  | refine ao_appR rfl rfl rfl (by first | assumption | (simp only [go_sem, ↓reduceIte, Nat.reduceEqDiff, Nat.reduceAdd, Nat.reduceLeDiff, Nat.reduceBEq, Nat.reduceMul, Int.reduceEq, Int.reduceLT, Int.reduceLE, decide_true, decide_false, Bool.not_true, Bool.not_false]; rfl) | (simp only [go_sem, ↓reduceIte, Nat.reduceEqDiff, Nat.reduceAdd, Nat.reduceLeDiff, Nat.reduceBEq, Nat.reduceMul, Int.reduceEq, Int.reduceLT, Int.reduceLE, decide_true, decide_false, Bool.not_true, Bool.not_false]; done)) (by simp) (by simp only [go_sem]; rfl) rfl (by first | assumption | exact rowsOk_nil _ | exact rowsOk_by _ | (rw [byD_cut]; exact rowsOk_by _) | (simp [rowsOk, D.one, Value.oneCell']; done)) (by first | omega | (simp; done) | (simp; omega) | (simp [byD]; omega)) ?_
  | refine ao_appNR rfl rfl rfl (by simp only [go_sem]; rfl) rfl (by first | assumption | exact rowsOk_nil _ | exact rowsOk_by _ | (rw [byD_cut]; exact rowsOk_by _) | (simp [rowsOk, D.one, Value.oneCell']; done)) (by first | omega | (simp; done) | (simp; omega) | (simp [byD]; omega)) ?_
  | refine ao0 rfl rfl ?_
  | (refine ao1' rfl fun K HK => ?_; simp only [go_sem, ↓reduceIte, Nat.reduceEqDiff, Nat.reduceAdd, Nat.reduceLeDiff, Nat.reduceBEq, Nat.reduceMul, Int.reduceEq, Int.reduceLT, Int.reduceLE, decide_true, decide_false, Bool.not_true, Bool.not_false]; refine HK _ _ ?_; clear HK K)
  | refine ao0' rfl ?_
  | refine aw_if1 rfl ?_
  | refine aw_if0 rfl ?_
  | refine aw_skip ?_
  | refine aw_exit ?_
  | refine aw_ret ?_
  | refine thenS_n ?_
  | refine thenS_x ?_
  | refine thenS_r ?_
  | refine inB_n ?_
  | refine inB_r ?_
  | refine inB_x ?_
  | refine inB_y rfl ?_
  | (exfalso; omega)
 refine ⟨.inr rfl, [.ptr 1 0], 2, rfl, by simp, by simp, ?_, ?_, ?_, ?_⟩
 · intro x hx
   have hx : x ∈ [Ob.dead, rdrOb ⟨l, 0, 0, 0⟩] := hx
   simp at hx
   rcases hx with rfl | rfl
   · trivial
   · exact low_rdr _ _
 · simp [outD, cvD, cv1, low]
 · rfl
 · simp [outD, cvD, cv1]
theorem newReader1 (l : List UInt8) (hl : l.length ≤ 1000000000) : Does Tryz.prog G 47 [] [.sl 1 (byD l)] (fun h' r => h' = [rdrOb ⟨l, 0, 0, 0⟩] ∧ r = .ptr 0 0) := by
 refine (newReader0 G hG l hl).shrink hG ?_
 rintro _ _ ⟨rfl, rfl⟩
 refine ⟨[rdrOb ⟨l, 0, 0, 0⟩], .ptr 0 0, ⟨[1], ?_, rfl, ?_, Nat.zero_le _, fun k hk => by simp at hk⟩, rfl, rfl⟩
 · have e : rnR [1] (byD l) = some (byD l) := rnR_low0 _ _ (by have := low_by 0 l; rwa [low] at this)
   simp [rnH, rdrOb, rnOb, rnL, rnO, e]
 · simp [rnO, pos]
theorem newReader_d (l : List UInt8) (hl : l.length ≤ 1000000000) (h : List Ob) : Does Tryz.prog G 47 h [.sl 1 (byD l)] (fun h' r => h' = h ++ [rdrOb ⟨l, 0, 0, 0⟩] ∧ r = .ptr h.length 0) := by
 have la : lowL 0 [D.sl 1 (byD l)] := by rw [lowL, lowL]; exact ⟨low_by _ _, trivial⟩
 have lo : lowL 0 [D.sl 1 (byD l), .v (.int .i64 (0 : Int)), .v (.int .i64 (0 : Int)), .v (.int .i64 (0 : Int))] := by
  simp only [lowL]; exact ⟨low_by _ _, by simp [low], by simp [low], by simp [low], trivial⟩
 refine Does.holes 1 ?_
 have L : Lies (fun _ => h.length) [] (h ++ holes 1) := ⟨fun i ob q => by simp at q, fun i j q => by simp at q, fun ob q => by simp at q⟩
 have F := Does.frame hG L (args := [.sl 1 (byD l)]) la (K1 := fun h' r => h' = [rdrOb ⟨l, 0, 0, 0⟩] ∧ r = .ptr 0 0) (by
  rintro _ _ ⟨rfl, _⟩
  refine ⟨fun i j hi hj _ => by simp at hi hj; omega, fun j _ hj => ?_⟩
  simp [holes]) (newReader1 G hG l hl)
 rw [renL_low0 _ _ la] at F
 refine F.mono ?_
 rintro _ _ ⟨_, _, ⟨rfl, rfl⟩, rfl, rfl⟩
 have e1 := renL_low0 (fun _ => h.length) _ lo
 simp [plc, renOb, ren, holes, rdrOb, e1]
theorem rText_d (i : Nat) (s : RS) (h : List Ob) (hi : h[i]? = some (rdrOb s)) (ho : s.Ok) (hl : s.data.length ≤ 1000000000) :
 Does Tryz.prog G 50 h [.ptr i 0] (fun h' r => h' = h.set i (rdrOb (rdBytes s).2) ∧ r = .v (.string ⟨(rdBytes s).1.toArray⟩)) := by
 have hil := (List.getElem?_eq_some_iff.1 hi).1
 refine does_of_aw Tryz.func50 rfl (Nat.le_of_ble_eq_true rfl) hG fun hl0 _ => ?_
 simp only [Tryz.ntmps50]
 repeat' first
  | refine aw_seq' ?_
  | refine aw_region' ?_
  | refine aw_block ?_
  | refine ao_nil ?_
  | (refine ao1 rfl rfl fun K HK => ?_; (try refine aOp_pick rfl ?_); simp only [go_sem, ↓reduceIte, Nat.reduceEqDiff, Nat.reduceAdd, Nat.reduceLeDiff, Nat.reduceBEq, Nat.reduceMul, Int.reduceEq, Int.reduceLT, Int.reduceLE, decide_true, decide_false, Bool.not_true, Bool.not_false, hi]; (first | refine splitB (fun hq => ?_) (fun hq => ?_) | refine splitN (fun hq => ?_) (fun hq => ?_) | (refine slc_sl (by simp only [go_sem]) rfl rfl (by first | omega | simp) (by first | omega | simp) (by simp only [go_sem]; omega) ?_) | (refine ⟨by omega, by omega, ?_⟩; first | refine row_at (by assumption) ?_ | (intro row hrow; obtain ⟨x, hx, rfl⟩ := row_inv hrow; clear hrow) | (intro row hrow)) | (refine ⟨by omega, ?_⟩; refine row_at (by assumption) ?_) | skip) <;> (refine HK _ _ ?_; clear HK K))
  | (refine aq1 rfl rfl fun K HK => ?_; (try refine aOp_pick rfl ?_); simp only [go_sem, ↓reduceIte, Nat.reduceEqDiff, Nat.reduceAdd, Nat.reduceLeDiff, Nat.reduceBEq, Nat.reduceMul, Int.reduceEq, Int.reduceLT, Int.reduceLE, decide_true, decide_false, Bool.not_true, Bool.not_false, hi]; (first | refine splitB (fun hq => ?_) (fun hq => ?_) | refine splitN (fun hq => ?_) (fun hq => ?_) | (refine slc_sl (by simp only [go_sem]) rfl rfl (by first | omega | simp) (by first | omega | simp) (by simp only [go_sem]; omega) ?_) | (refine ⟨by omega, by omega, ?_⟩; first | refine row_at (by assumption) ?_ | (intro row hrow; obtain ⟨x, hx, rfl⟩ := row_inv hrow; clear hrow) | (intro row hrow)) | (refine ⟨by omega, ?_⟩; refine row_at (by assumption) ?_) | skip) <;> (refine HK _ _ rfl ?_; clear HK K))
  | refine aq0 rfl rfl ?_
  | refine aq_nil ?_
  | (refine aw_draw mixd (by kernel_rfl) ?_)
  | refine ao_appB rfl rfl rfl rfl (by first | assumption | (simp only [go_sem, ↓reduceIte, Nat.reduceEqDiff, Nat.reduceAdd, Nat.reduceLeDiff, Nat.reduceBEq, Nat.reduceMul, Int.reduceEq, Int.reduceLT, Int.reduceLE, decide_true, decide_false, Bool.not_true, Bool.not_false, hi]; rfl) | (simp only [go_sem, ↓reduceIte, Nat.reduceEqDiff, Nat.reduceAdd, Nat.reduceLeDiff, Nat.reduceBEq, Nat.reduceMul, Int.reduceEq, Int.reduceLT, Int.reduceLE, decide_true, decide_false, Bool.not_true, Bool.not_false, hi]; done)) (by simp) (by simp only [go_sem]; rfl) (by first | assumption | (simp only [go_sem, ↓reduceIte, Nat.reduceEqDiff, Nat.reduceAdd, Nat.reduceLeDiff, Nat.reduceBEq, Nat.reduceMul, Int.reduceEq, Int.reduceLT, Int.reduceLE, decide_true, decide_false, Bool.not_true, Bool.not_false, hi]; rfl) | (simp only [go_sem, ↓reduceIte, Nat.reduceEqDiff, Nat.reduceAdd, Nat.reduceLeDiff, Nat.reduceBEq, Nat.reduceMul, Int.reduceEq, Int.reduceLT, Int.reduceLE, decide_true, decide_false, Bool.not_true, Bool.not_false, hi]; done)) (by simp) (by first | assumption | exact rowsOk_nil _ | exact rowsOk_by _ | (rw [byD_cut]; exact rowsOk_by _) | (simp [rowsOk, D.one, Value.oneCell']; done)) (by first | omega | (simp; done) | (simp; omega) | (simp [byD]; omega)) ?_
  | refine ao_appNB rfl rfl rfl rfl (by simp only [go_sem]; rfl) (by first | assumption | (simp only [go_sem, ↓reduceIte, Nat.reduceEqDiff, Nat.reduceAdd, Nat.reduceLeDiff, Nat.reduceBEq, Nat.reduceMul, Int.reduceEq, Int.reduceLT, Int.reduceLE, decide_true, decide_false, Bool.not_true, Bool.not_false, hi]; rfl) | (simp only [go_sem, ↓reduceIte, Nat.reduceEqDiff, Nat.reduceAdd, Nat.reduceLeDiff, Nat.reduceBEq, Nat.reduceMul, Int.reduceEq, Int.reduceLT, Int.reduceLE, decide_true, decide_false, Bool.not_true, Bool.not_false, hi]; done)) (by simp) (by first | assumption | exact rowsOk_nil _ | exact rowsOk_by _ | (rw [byD_cut]; exact rowsOk_by _) | (simp [rowsOk, D.one, Value.oneCell']; done)) (by first | omega | (simp; done) | (simp; omega) | (simp [byD]; omega)) ?_
  | refine ao_appR rfl rfl rfl (by first | assumption | (simp only [go_sem, ↓reduceIte, Nat.reduceEqDiff, Nat.reduceAdd, Nat.reduceLeDiff, Nat.reduceBEq, Nat.reduceMul, Int.reduceEq, Int.reduceLT, Int.reduceLE, decide_true, decide_false, Bool.not_true, Bool.not_false, hi]; rfl) | (simp only [go_sem, ↓reduceIte, Nat.reduceEqDiff, Nat.reduceAdd, Nat.reduceLeDiff, Nat.reduceBEq, Nat.reduceMul, Int.reduceEq, Int.reduceLT, Int.reduceLE, decide_true, decide_false, Bool.not_true, Bool.not_false, hi]; done)) (by simp) (by simp only [go_sem]; rfl) rfl (by first | assumption | exact rowsOk_nil _ | exact rowsOk_by _ | (rw [byD_cut]; exact rowsOk_by _) | (simp [rowsOk, D.one, Value.oneCell']; done)) (by first | omega | (simp; done) | (simp; omega) | (simp [byD]; omega)) ?_
  | refine ao_appNR rfl rfl rfl (by simp only [go_sem]; rfl) rfl (by first | assumption | exact rowsOk_nil _ | exact rowsOk_by _ | (rw [byD_cut]; exact rowsOk_by _) | (simp [rowsOk, D.one, Value.oneCell']; done)) (by first | omega | (simp; done) | (simp; omega) | (simp [byD]; omega)) ?_
  | refine ao0 rfl rfl ?_
  | refine aq2 rfl rfl rfl ent_51 (rBytes_d G hG _ _ _ hi ho hl) ?_
  | (refine ao2 rfl rfl rfl ent_51 (rBytes_d G hG _ _ _ hi ho hl) ?_; rintro _ _ ⟨rfl, rfl⟩)
  | (refine ao1' rfl fun K HK => ?_; simp only [go_sem, ↓reduceIte, Nat.reduceEqDiff, Nat.reduceAdd, Nat.reduceLeDiff, Nat.reduceBEq, Nat.reduceMul, Int.reduceEq, Int.reduceLT, Int.reduceLE, decide_true, decide_false, Bool.not_true, Bool.not_false, hi]; refine HK _ _ ?_; clear HK K)
  | refine ao0' rfl ?_
  | refine aw_if1 rfl ?_
  | refine aw_if0 rfl ?_
  | refine aw_skip ?_
  | refine aw_exit ?_
  | refine aw_ret ?_
  | refine thenS_n ?_
  | refine thenS_x ?_
  | refine thenS_r ?_
  | refine inB_n ?_
  | refine inB_r ?_
  | refine inB_x ?_
  | refine inB_y rfl ?_
  | (exfalso; omega)
 refine ao1 rfl rfl fun K HK => ?_
 simp only [go_sem, ↓reduceIte, Nat.reduceEqDiff]
 refine bst_by (by simp only [go_sem]) (by simp only [go_sem]) ?_
 refine HK _ _ ?_; clear HK K
 repeat' first
  | refine aw_seq' ?_
  | refine aw_region' ?_
  | refine aw_block ?_
  | refine ao_nil ?_
  | (refine ao1 rfl rfl fun K HK => ?_; (try refine aOp_pick rfl ?_); simp only [go_sem, ↓reduceIte, Nat.reduceEqDiff, Nat.reduceAdd, Nat.reduceLeDiff, Nat.reduceBEq, Nat.reduceMul, Int.reduceEq, Int.reduceLT, Int.reduceLE, decide_true, decide_false, Bool.not_true, Bool.not_false, hi]; (first | refine splitB (fun hq => ?_) (fun hq => ?_) | refine splitN (fun hq => ?_) (fun hq => ?_) | (refine slc_sl (by simp only [go_sem]) rfl rfl (by first | omega | simp) (by first | omega | simp) (by simp only [go_sem]; omega) ?_) | (refine ⟨by omega, by omega, ?_⟩; first | refine row_at (by assumption) ?_ | (intro row hrow; obtain ⟨x, hx, rfl⟩ := row_inv hrow; clear hrow) | (intro row hrow)) | (refine ⟨by omega, ?_⟩; refine row_at (by assumption) ?_) | skip) <;> (refine HK _ _ ?_; clear HK K))
  | (refine aq1 rfl rfl fun K HK => ?_; (try refine aOp_pick rfl ?_); simp only [go_sem, ↓reduceIte, Nat.reduceEqDiff, Nat.reduceAdd, Nat.reduceLeDiff, Nat.reduceBEq, Nat.reduceMul, Int.reduceEq, Int.reduceLT, Int.reduceLE, decide_true, decide_false, Bool.not_true, Bool.not_false, hi]; (first | refine splitB (fun hq => ?_) (fun hq => ?_) | refine splitN (fun hq => ?_) (fun hq => ?_) | (refine slc_sl (by simp only [go_sem]) rfl rfl (by first | omega | simp) (by first | omega | simp) (by simp only [go_sem]; omega) ?_) | (refine ⟨by omega, by omega, ?_⟩; first | refine row_at (by assumption) ?_ | (intro row hrow; obtain ⟨x, hx, rfl⟩ := row_inv hrow; clear hrow) | (intro row hrow)) | (refine ⟨by omega, ?_⟩; refine row_at (by assumption) ?_) | skip) <;> (refine HK _ _ rfl ?_; clear HK K))
  | refine aq0 rfl rfl ?_
  | refine aq_nil ?_
  | (refine aw_draw mixd (by kernel_rfl) ?_)
  | refine ao_appB rfl rfl rfl rfl (by first | assumption | (simp only [go_sem, ↓reduceIte, Nat.reduceEqDiff, Nat.reduceAdd, Nat.reduceLeDiff, Nat.reduceBEq, Nat.reduceMul, Int.reduceEq, Int.reduceLT, Int.reduceLE, decide_true, decide_false, Bool.not_true, Bool.not_false, hi]; rfl) | (simp only [go_sem, ↓reduceIte, Nat.reduceEqDiff, Nat.reduceAdd, Nat.reduceLeDiff, Nat.reduceBEq, Nat.reduceMul, Int.reduceEq, Int.reduceLT, Int.reduceLE, decide_true, decide_false, Bool.not_true, Bool.not_false, hi]; done)) (by simp) (by simp only [go_sem]; rfl) (by first | assumption | (simp only [go_sem, ↓reduceIte, Nat.reduceEqDiff, Nat.reduceAdd, Nat.reduceLeDiff, Nat.reduceBEq, Nat.reduceMul, Int.reduceEq, Int.reduceLT, Int.reduceLE, decide_true, decide_false, Bool.not_true, Bool.not_false, hi]; rfl) | (simp only [go_sem, ↓reduceIte, Nat.reduceEqDiff, Nat.reduceAdd, Nat.reduceLeDiff, Nat.reduceBEq, Nat.reduceMul, Int.reduceEq, Int.reduceLT, Int.reduceLE, decide_true, decide_false, Bool.not_true, Bool.not_false, hi]; done)) (by simp) (by first | assumption | exact rowsOk_nil _ | exact rowsOk_by _ | (rw [byD_cut]; exact rowsOk_by _) | (simp [rowsOk, D.one, Value.oneCell']; done)) (by first | omega | (simp; done) | (simp; omega) | (simp [byD]; omega)) ?_
  | refine ao_appNB rfl rfl rfl rfl (by simp only [go_sem]; rfl) (by first | assumption | (simp only [go_sem, ↓reduceIte, Nat.reduceEqDiff, Nat.reduceAdd, Nat.reduceLeDiff, Nat.reduceBEq, Nat.reduceMul, Int.reduceEq, Int.reduceLT, Int.reduceLE, decide_true, decide_false, Bool.not_true, Bool.not_false, hi]; rfl) | (simp only [go_sem, ↓reduceIte, Nat.reduceEqDiff, Nat.reduceAdd, Nat.reduceLeDiff, Nat.reduceBEq, Nat.reduceMul, Int.reduceEq, Int.reduceLT, Int.reduceLE, decide_true, decide_false, Bool.not_true, Bool.not_false, hi]; done)) (by simp) (by first | assumption | exact rowsOk_nil _ | exact rowsOk_by _ | (rw [byD_cut]; exact rowsOk_by _) | (simp [rowsOk, D.one, Value.oneCell']; done)) (by first | omega | (simp; done) | (simp; omega) | (simp [byD]; omega)) ?_
  | refine ao_appR rfl rfl rfl (by first | assumption | (simp only [go_sem, ↓reduceIte, Nat.reduceEqDiff, Nat.reduceAdd, Nat.reduceLeDiff, Nat.reduceBEq, Nat.reduceMul, Int.reduceEq, Int.reduceLT, Int.reduceLE, decide_true, decide_false, Bool.not_true, Bool.not_false, hi]; rfl) | (simp only [go_sem, ↓reduceIte, Nat.reduceEqDiff, Nat.reduceAdd, Nat.reduceLeDiff, Nat.reduceBEq, Nat.reduceMul, Int.reduceEq, Int.reduceLT, Int.reduceLE, decide_true, decide_false, Bool.not_true, Bool.not_false, hi]; done)) (by simp) (by simp only [go_sem]; rfl) rfl (by first | assumption | exact rowsOk_nil _ | exact rowsOk_by _ | (rw [byD_cut]; exact rowsOk_by _) | (simp [rowsOk, D.one, Value.oneCell']; done)) (by first | omega | (simp; done) | (simp; omega) | (simp [byD]; omega)) ?_
  | refine ao_appNR rfl rfl rfl (by simp only [go_sem]; rfl) rfl (by first | assumption | exact rowsOk_nil _ | exact rowsOk_by _ | (rw [byD_cut]; exact rowsOk_by _) | (simp [rowsOk, D.one, Value.oneCell']; done)) (by first | omega | (simp; done) | (simp; omega) | (simp [byD]; omega)) ?_
  | refine ao0 rfl rfl ?_
  | (refine ao1' rfl fun K HK => ?_; simp only [go_sem, ↓reduceIte, Nat.reduceEqDiff, Nat.reduceAdd, Nat.reduceLeDiff, Nat.reduceBEq, Nat.reduceMul, Int.reduceEq, Int.reduceLT, Int.reduceLE, decide_true, decide_false, Bool.not_true, Bool.not_false, hi]; refine HK _ _ ?_; clear HK K)
  | refine ao0' rfl ?_
  | refine aw_if1 rfl ?_
  | refine aw_if0 rfl ?_
  | refine aw_skip ?_
  | refine aw_exit ?_
  | refine aw_ret ?_
  | refine thenS_n ?_
  | refine thenS_x ?_
  | refine thenS_r ?_
  | refine inB_n ?_
  | refine inB_r ?_
  | refine inB_x ?_
  | refine inB_y rfl ?_
  | (exfalso; omega)
 exact ⟨by simp, endS (i := i) (ob := rdrOb (rdBytes s).2) (r := .v _) hl0 (low_rdr _ _) rfl (by simp [take_set]) (by simp) rfl (by rw [low]; trivial) ⟨rfl, rfl⟩⟩
end
section
set_option maxRecDepth 100000
set_option maxHeartbeats 4000000
set_option pp.maxSteps 1000000
set_option pp.deepTerms true
attribute [local irreducible] on aOp
attribute [local go_sem] decide_true decide_false Bool.not_true Bool.not_false
attribute [local simp] byD_len
def dM (A B x w : Ob) (T : List Ob) : List Ob := A :: B :: x :: w :: T
section
variable {A B x w y z : Ob} {T l : List Ob}
theorem dM_0 : (dM A B x w T)[0]? = some A := rfl
theorem dM_1 : (dM A B x w T)[1]? = some B := rfl
theorem dM_2 : (dM A B x w T)[2]? = some x := rfl
theorem dM_3 : (dM A B x w T)[3]? = some w := rfl
theorem dM_s1 : (dM A B x w T).set 1 y = dM A y x w T := rfl
theorem dM_s2 : (dM A B x w T).set 2 y = dM A B y w T := rfl
theorem dM_s3 : (dM A B x w T).set 3 y = dM A B x y T := rfl
theorem dM_app : dM A B x w T ++ l = dM A B x w (T ++ l) := rfl
theorem dM_len : (dM A B x w T).length = T.length + 4 := rfl
theorem dM_l : (dM A B x w (T ++ [y]))[T.length + 4]? = some y := by simp [dM]
theorem dM_sl : (dM A B x w (T ++ [y])).set (T.length + 4) z = dM A B x w (T ++ [z]) := by simp [dM]
theorem dM_l2 : (dM A B x w (T ++ [y, z]))[T.length + 4]? = some y := by simp [dM]
theorem dM_sl2 {y' : Ob} : (dM A B x w (T ++ [y, z])).set (T.length + 4) y' = dM A B x w (T ++ [y', z]) := by simp [dM]
theorem dM_l4 : (dM A B x w (T ++ [y, z]))[T.length + 1 + 4]? = some z := by simp [dM]
theorem dM_l3 : (dM A B x w (T ++ [y, z]))[(T ++ [y]).length + 4]? = some z := by simp [dM]
end
def zC : List D := [.v (.int .i64 0), .v (.int .i64 0), .v (.int .i64 0), .v (.slice none 0 0), .v (.int .i64 0), .v (.slice none 0 0)]
theorem zC_weak : ∀ (hd : List Value) (hh : List Ob) (W : World) (u : Value), rd hd hh W (.tup [.agg zC, .v (.int .i64 2)]) u → rd hd hh W (.tup [.agg (cmdX zeroC), .v (.int .i64 2)]) u := fun hd hh W u q => by
 simp only [rd, rdL, zC] at q
 obtain ⟨cs, rfl, u1, t1, e1, ⟨ar, rfl, a0, b0, f0, rfl, a1, b1, f1, rfl, a2, b2, f2, rfl, a3, b3, f3, g3, a4, b4, f4, rfl, a5, b5, f5, g5, rfl⟩, u2, t2, e2, rfl, rfl⟩ := q
 subst g3 g5 f5 f4 f3 f2 f1 e2
 simp only [rd, rdL, cmdX, zeroC]
 refine ⟨cs, rfl, _, _, e1, ⟨ar, rfl, _, _, f0, rfl, _, _, rfl, rfl, _, _, rfl, rfl, _, _, rfl, ?_, _, _, rfl, rfl, _, _, rfl, ?_, rfl⟩, _, _, rfl, rfl, rfl⟩
 · have := nil_sl (k := 2) hd hh W (.slice none 0 0) (by rw [rd]); rw [rd] at this; exact this
 · have := nil_sl (k := 1) hd hh W (.slice none 0 0) (by rw [rd]); rw [rd] at this; exact this
variable (G : Nat → D) (hG : ∀ g, low 0 (G g))
include hG
theorem decode_p (b : List UInt8) (hb : b.length ≤ 100000000) : Does Tryz.prog G 18 [] [.sl 1 (byD b)] (fun h' r => h' = [] ∧ r = .tup [.agg (cmdX (decC b).1), .v (.int .i64 (decC b).2)]) := by
 apply Does.weak
 obtain ⟨o1, k1, _⟩ := rdInt_ok (newR_ok b)
 obtain ⟨o2, k2, _⟩ := rdInt_ok o1
 obtain ⟨o3, k3, _⟩ := rdInt_ok o2
 obtain ⟨o4, k4, hN⟩ := rdCount_ok o3
 refine does_of_aw Tryz.func18 rfl (Nat.le_of_ble_eq_true rfl) hG fun hl0 _ => ?_
 simp only [Tryz.ntmps18]
 repeat' first
  | refine aw_seq' ?_
  | refine aw_region' ?_
  | refine aw_block ?_
  | refine ao_nil ?_
  | (refine ao1 rfl rfl fun K HK => ?_; simp only [go_sem, ↓reduceIte, Nat.reduceEqDiff, Nat.reduceAdd, Nat.reduceLeDiff, Nat.reduceBEq, Nat.reduceMul, Int.reduceEq, Int.reduceLT, Int.reduceLE] <;> (refine HK _ _ ?_; clear HK K))
  | (refine ao2 rfl rfl rfl ent_47 (newReader_d G hG b (by omega) _) ?_; rintro _ _ ⟨rfl, rfl⟩)
  | (refine ao2 rfl rfl rfl ent_48 (rInt_d G hG 1 ⟨b, 0, 0, 0⟩ _ rfl (newR_ok b) (by show b.length ≤ _; omega)) ?_; rintro _ _ ⟨rfl, rfl⟩)
  | (refine ao2 rfl rfl rfl ent_48 (rInt_d G hG 1 _ _ rfl o1 (by rw [k1]; show b.length ≤ _; omega)) ?_; rintro _ _ ⟨rfl, rfl⟩)
  | (refine ao2 rfl rfl rfl ent_48 (rInt_d G hG 1 _ _ rfl o2 (by rw [k2, k1]; show b.length ≤ _; omega)) ?_; rintro _ _ ⟨rfl, rfl⟩)
  | (refine ao2 rfl rfl rfl ent_49 (rCount_d G hG 1 _ _ rfl o3 (by rw [k3, k2, k1]; show b.length ≤ _; omega)) ?_; rintro _ _ ⟨rfl, rfl⟩)
  | (refine ao1' rfl fun K HK => ?_; simp only [go_sem, ↓reduceIte, Nat.reduceEqDiff, Nat.reduceAdd, Nat.reduceLeDiff, Nat.reduceBEq, Nat.reduceMul, Int.reduceEq, Int.reduceLT, Int.reduceLE]; refine HK _ _ ?_; clear HK K)
 generalize e1 : rdInt ⟨b, 0, 0, 0⟩ = r1 at o1 k1 o2 k2 o3 k3 o4 k4 hN ⊢
 generalize e2 : rdInt r1.2 = r2 at o2 k2 o3 k3 o4 k4 hN ⊢
 generalize e3 : rdInt r2.2 = r3 at o3 k3 o4 k4 hN ⊢
 generalize e4 : rdCount r3.2 = r4 at o4 k4 hN ⊢
 have hd : r4.2.data = b := by rw [k4, k3, k2, k1]
 have hN' : r4.1 ≤ b.length := by rw [k3, k2, k1] at hN; exact hN
 refine aw_nilcell 72 2 2 [.v (.int .i64 r1.1), .v (.int .i64 r2.1), .v (.int .i64 r3.1)] [.v (.int .i64 0), .v (.slice none 0 0)] rfl ?_
 refine aw_for (fun m e h' => ∃ (k : Nat) (acc : List (ByteArray × List UInt8)) (s : RS) (T : List Ob), k ≤ r4.1 ∧ m = r4.1 - k ∧ (acc ++ (rdAll rdWr (r4.1 - k) s).1, (rdAll rdWr (r4.1 - k) s).2) = rdAll rdWr r4.1 r4.2 ∧ s.Ok ∧ s.data = b ∧ acc.length = k ∧ h' = dM (.cells [.v (.int .i64 0), .v (.int .i64 0), .v (.int .i64 0), .v (.slice none 0 0), .v (.int .i64 0), .v (.slice none 0 0)]) (rdrOb s) (.cells [.v (.int .i64 r1.1), .v (.int .i64 r2.1), .v (.int .i64 r3.1), .buf 3 k, .v (.int .i64 0), .v (.slice none 0 0)]) (.buf 72 2 (acc.map wrX)) T ∧ e 2 = .ptr 0 0 ∧ e 4 = .ptr 1 0 ∧ e 5 = .ptr 2 0 ∧ e 19 = .v (.int .i64 r4.1) ∧ e 20 = .v (.int .i64 k)) r4.1 ⟨0, [], r4.2, [], Nat.zero_le _, rfl, rfl, o4, hd, rfl, rfl, rfl, rfl, rfl, rfl, rfl⟩ ?_
 rintro m e h' ⟨k, acc, s, T, hk, rfl, hR, ho, hsd, hal, rfl, e2', e4', e5', e19, e20⟩
 have hsl : s.data.length ≤ 1000000000 := by rw [hsd]; omega
 by_cases hlt : k < r4.1
 · have ⟨ob, kb, hbl⟩ := rdBytes_ok ho
   have ⟨oc, kc, hcl⟩ := rdBytes_ok ob
   have hbl2 : (rdBytes s).2.data.length ≤ 1000000000 := by rw [kb]; exact hsl
   have wk : IntKind.i64.wrap ((k : Int) + 1) = ((k + 1 : Nat) : Int) := IntWalk.i64_in _ (by omega)
   repeat' first
    | (refine ao_appB rfl rfl rfl rfl dM_3 (by simp [hal]) (by simp only [go_sem]; rfl) (by first | exact dM_l4 | exact dM_l3 | exact dM_l) (by simp) (by simp [rowsOk, D.one, Value.oneCell']) (by simp; omega) ?_)
    | refine aw_seq' ?_
    | refine aw_region' ?_
    | refine aw_block ?_
    | refine ao_nil ?_
    | (refine ao1 rfl rfl fun K HK => ?_; simp only [go_sem, ↓reduceIte, Nat.reduceEqDiff, Nat.reduceAdd, Nat.reduceLeDiff, Nat.reduceBEq, Nat.reduceMul, Int.reduceEq, Int.reduceLT, Int.reduceLE, e2', e4', e5', e19, e20, wk, dM_0, dM_1, dM_2, dM_3, dM_s1, dM_s2, dM_s3, dM_app, dM_len, dM_l, dM_sl, dM_l2, dM_sl2]; (first | refine splitB (fun hq => ?_) (fun hq => ?_) | skip) <;> (refine HK _ _ ?_; clear HK K))
    | (refine ao2 rfl rfl rfl ent_50 (rText_d G hG 1 s _ dM_1 ho hsl) ?_; rintro _ _ ⟨rfl, rfl⟩)
    | (refine ao2 rfl rfl rfl ent_51 (rBytes_d G hG 1 (rdBytes s).2 _ (by first | exact dM_1 | rfl) ob hbl2) ?_; rintro _ _ ⟨rfl, rfl⟩)
    | (refine ao1' rfl fun K HK => ?_; simp only [go_sem, ↓reduceIte, Nat.reduceEqDiff, Nat.reduceAdd, Nat.reduceLeDiff, Nat.reduceBEq, Nat.reduceMul, Int.reduceEq, Int.reduceLT, Int.reduceLE, e2', e4', e5', e19, e20, wk, dM_0, dM_1, dM_2, dM_3, dM_s1, dM_s2, dM_s3, dM_app, dM_len, dM_l, dM_sl, dM_l2, dM_sl2]; refine HK _ _ ?_; clear HK K)
    | refine aw_if1 rfl ?_
    | refine aw_if0 rfl ?_
    | refine aw_skip ?_
    | refine aw_exit ?_
    | refine thenS_n ?_
    | (exfalso; omega)
   refine ⟨rfl, r4.1 - (k + 1), by omega, k + 1, acc ++ [(rdWr s).1], (rdWr s).2, T ++ [.cells (wrX (rdWr s).1), .buf 72 2 [wrX (rdWr s).1]], by omega, rfl, ?_, oc, (kc.trans (kb.trans hsd) : (rdBytes (rdBytes s).2).2.data = b), by simp [hal], ?_, by simp [upd, e2'], by simp [upd, e4'], by simp [upd, e5'], by simp [upd, e19], rfl⟩
   · rw [← hR, show r4.1 - k = r4.1 - (k + 1) + 1 by omega, rdAll]
     simp only [List.append_assoc, List.singleton_append]
   · exact congrArg (fun x => dM (.cells [.v (.int .i64 0), .v (.int .i64 0), .v (.int .i64 0), .v (.slice none 0 0), .v (.int .i64 0), .v (.slice none 0 0)]) (rdrOb (rdWr s).2) (.cells [.v (.int .i64 r1.1), .v (.int .i64 r2.1), .v (.int .i64 r3.1), .buf 3 (k + 1), .v (.int .i64 0), .v (.slice none 0 0)]) (  .buf 72 2 x) (T ++ [.cells (wrX (rdWr s).1), .buf 72 2 [wrX (rdWr s).1]])) (by simp : acc.map wrX ++ [wrX (rdWr s).1] = (acc ++ [(rdWr s).1]).map wrX)
 have hk' : k = r4.1 := by omega
 subst hk'
 rw [Nat.sub_self, rdAll, List.append_nil] at hR
 have hA : rdCmdA ⟨b, 0, 0, 0⟩ = (⟨r1.1, r2.1, r3.1, acc, (rdInt s).1, (rdBytes (rdInt s).2).1⟩, (rdBytes (rdInt s).2).2) := by
  unfold rdCmdA rdCw rdListA
  simp only [e1, e2, e3, e4, ← hR]
 have ⟨o5, k5, _⟩ := rdInt_ok ho
 have ⟨o6, k6, _⟩ := rdBytes_ok o5
 have l5 : (rdInt s).2.data.length ≤ 1000000000 := by rw [k5]; exact hsl
 have l6 : (rdBytes (rdInt s).2).2.data.length ≤ 1000000000 := by rw [k6, k5]; exact hsl
 repeat' first
  | (refine ao_ldgive (j := 3) (d' := .agg (cmdX ⟨r1.1, r2.1, r3.1, acc, (rdInt s).1, (rdBytes (rdInt s).2).1⟩)) rfl rfl (by first | rfl | (simp only [go_sem, e5']; rfl)) dM_2 (by rw [getD_agg' (by simp only [go_sem])]; simp only [go_sem]; rfl) (by simp [cvD, cv1, dM_3, hal, cmdX]) ?_)
  | (refine ao1' rfl fun K HK => ?_; refine aOp_stw (i := 0) (es := cmdX ⟨r1.1, r2.1, r3.1, acc, (rdInt s).1, (rdBytes (rdInt s).2).1⟩) (by first | rfl | (simp only [go_sem, e2']; rfl)) rfl rfl (by simp only [go_sem]; rfl) rfl ?_; refine HK _ _ ?_; clear HK K)
  | refine aw_seq' ?_
  | refine aw_region' ?_
  | refine aw_block ?_
  | refine ao_nil ?_
  | (refine ao1 rfl rfl fun K HK => ?_; simp only [go_sem, ↓reduceIte, Nat.reduceEqDiff, Nat.reduceAdd, Nat.reduceLeDiff, Nat.reduceBEq, Nat.reduceMul, Int.reduceEq, Int.reduceLT, Int.reduceLE, e2', e4', e5', e19, e20, dM_0, dM_1, dM_2, dM_3, dM_s1, dM_s2, dM_s3, dM_app, dM_len, dM_l, dM_sl, dM_l2, dM_sl2]; (first | refine splitB (fun hq => ?_) (fun hq => ?_) | refine splitN (fun hq => ?_) (fun hq => ?_) | skip) <;> (refine HK _ _ ?_; clear HK K))
  | (refine ao2 rfl rfl rfl ent_48 (rInt_d G hG 1 s _ dM_1 ho hsl) ?_; rintro _ _ ⟨rfl, rfl⟩)
  | (refine ao2 rfl rfl rfl ent_51 (rBytes_d G hG 1 (rdInt s).2 _ (by first | exact dM_1 | rfl) o5 l5) ?_; rintro _ _ ⟨rfl, rfl⟩)
  | (refine ao2 rfl rfl rfl ent_52 (rEnd_d G hG 1 (rdBytes (rdInt s).2).2 _ (by first | exact dM_1 | rfl) o6 l6) ?_; rintro _ _ ⟨rfl, rfl⟩)
  | (refine ao1' rfl fun K HK => ?_; simp only [go_sem, ↓reduceIte, Nat.reduceEqDiff, Nat.reduceAdd, Nat.reduceLeDiff, Nat.reduceBEq, Nat.reduceMul, Int.reduceEq, Int.reduceLT, Int.reduceLE, e2', e4', e5', e19, e20, dM_0, dM_1, dM_2, dM_3, dM_s1, dM_s2, dM_s3, dM_app, dM_len, dM_l, dM_sl, dM_l2, dM_sl2]; refine HK _ _ ?_; clear HK K)
  | refine aw_if1 rfl ?_
  | refine aw_if0 rfl ?_
  | refine aw_skip ?_
  | refine aw_exit ?_
  | refine aw_ret ?_
  | refine thenS_r ?_
  | (exfalso; omega)
 · have hdec := decC_yes hA hq o6.pos (by rw [k6, k5, hsd])
   rw [hdec]
   exact ⟨.inr rfl, endD (ds := [.agg (cmdX ⟨r1.1, r2.1, r3.1, acc, (rdInt s).1, (rdBytes (rdInt s).2).1⟩), .v (.int .i64 0)]) (r := .tup [.agg (cmdX ⟨r1.1, r2.1, r3.1, acc, (rdInt s).1, (rdBytes (rdInt s).2).1⟩), .v (.int .i64 0)]) hl0 (resD_cell2 (i := 0) (o := 0) (by simp [upd, e2']) rfl (by rw [getD_agg' (by simp only [go_sem])]; simp only [go_sem]; rfl) rfl) (by simp) (by simp) rfl (by rw [low, lowL, lowL, lowL]; exact ⟨low_agg _ _, by rw [low]; trivial, trivial⟩) ⟨_, ⟨rfl, rfl⟩, fun _ _ _ _ q => q⟩⟩
 · rw [decC_no hA hq (by rw [k6, k5, hsd])]
   exact ⟨.inr rfl, endD (ds := [.agg zC, .v (.int .i64 2)]) (r := .tup [.agg zC, .v (.int .i64 2)]) hl0 (resD_cell2 (i := 0) (o := 0) (by simp [upd, e2']) rfl (by rw [getD_agg' (by simp only [go_sem])]; simp only [go_sem]; rfl) rfl) (by simp) (by simp) rfl (by simp [low, lowL, zC]) ⟨_, ⟨rfl, rfl⟩, zC_weak⟩⟩
end
section
set_option maxRecDepth 100000
set_option maxHeartbeats 1000000
attribute [local irreducible] on aOp
attribute [local go_sem] decide_true decide_false Bool.not_true Bool.not_false
attribute [local simp] byD_len
def rG (rows : List (List D)) (T : List Ob) : List Ob := .buf 5 1 rows :: T
section
variable {rows r2 : List (List D)} {T l : List Ob}
theorem rG_0 : (rG rows T)[0]? = some (.buf 5 1 rows) := rfl
theorem rG_s0 : (rG rows T).set 0 (.buf 5 1 r2) = rG r2 T := rfl
theorem rG_a0 : (rG rows T ++ l)[0]? = some (.buf 5 1 rows) := rfl
theorem rG_b0 : (rG rows T ++ l).set 0 (.buf 5 1 r2) = rG r2 (T ++ l) := rfl
end
theorem endB {res : Array ResultVar} {K : List Ob → D → Prop} {l : List UInt8} {n : Nat} {rows : List (List D)} {T : List Ob} {s : S} (h1 : resD Tryz.prog s res.toList = some [.buf 0 n]) (h2 : s.h = rG rows T) (h3 : n = l.length) (h4 : rows = byD l) (hK : K [.buf 5 1 (byD l)] (.buf 0 l.length)) : EndD Tryz.prog res ([] : List Ob).length K s := by
 subst h3 h4
 have e : s.h.take 1 = [.buf 5 1 (byD l)] := by rw [h2]; rfl
 refine ⟨[.buf 0 l.length], 1, h1, Nat.zero_le _, by rw [h2]; exact Nat.le_add_left 1 T.length, ?_, ?_, ?_⟩
 · rw [e]
   intro x hx
   rw [List.mem_singleton.1 hx]
   exact low_by 1 l
 · simp [outD, cvD, cv1, low]
 · rw [e]; simpa [outD, cvD, cv1] using hK
theorem rem_byte (m : Nat) : IntKind.u8.wrap (IntKind.u8.wrap ((m : Int).tmod 128) + 128) = ((UInt8.ofNat (m % 128 + 128)).toNat : Int) := by
 have e : (m : Int).tmod 128 = ((m % 128 : Nat) : Int) := by rw [Int.tmod_eq_emod_of_nonneg (by omega)]; omega
 rw [e, u8_wrap, byte_lo _ (by omega)]
 have : ((m % 128 % 256 : Nat) : Int) + 128 = ((m % 128 % 256 + 128 : Nat) : Int) := by omega
 rw [this, u8_wrap]; omega
theorem quo128 {m : Nat} (h : m < 18446744073709551616) : IntKind.u64.wrap ((m : Int).tdiv 128) = ((m / 128 : Nat) : Int) := by
 have e : (m : Int).tdiv 128 = ((m / 128 : Nat) : Int) := by rw [Int.tdiv_eq_ediv_of_nonneg (by omega)]; omega
 rw [e, IntKind.wrap_u64]; omega
variable (G : Nat → D) (hG : ∀ g, low 0 (G g))
include hG
theorem rUint0 (l : List UInt8) (n : Nat) (hn : n < 18446744073709551616) (hl : l.length ≤ 100000000) :
 Does Tryz.prog G 85 [] [.sl 1 (byD l), .v (.int .u64 n)] (fun h' r => h' = [.buf 5 1 (byD (l ++ uintE n))] ∧ r = .buf 0 (l ++ uintE n).length) := by
 refine does_of_aw Tryz.func85 rfl (Nat.le_of_ble_eq_true rfl) hG fun hl0 _ => ?_
 simp only [Tryz.ntmps85]
 repeat' first
  | refine aw_seq' ?_
  | refine aw_region' ?_
  | refine aw_block ?_
  | refine ao_nil ?_
  | (refine ao1 rfl rfl fun K HK => ?_; simp only [go_sem, ↓reduceIte, Nat.reduceEqDiff, Nat.reduceAdd, Nat.reduceLeDiff, Nat.reduceBEq, Nat.reduceMul, Int.reduceEq, Int.reduceLT, Int.reduceLE, rG_0, rG_s0, rG_a0, rG_b0] <;> (refine HK _ _ ?_; clear HK K))
  | refine ao_appR rfl rfl rfl (by (simp only [go_sem, ↓reduceIte, Nat.reduceEqDiff, Nat.reduceAdd, Nat.reduceLeDiff, Nat.reduceBEq, Nat.reduceMul, Int.reduceEq, Int.reduceLT, Int.reduceLE, rG_0, rG_s0, rG_a0, rG_b0]; rfl)) (by simp) (by simp only [go_sem]; rfl) rfl (by exact rowsOk_by _) (by (simp; omega)) ?_
 refine aw_for (fun m e h' => ∃ (k n0 : Nat) (cur : List UInt8) (T : List Ob), m = k ∧ k < 18446744073709551616 ∧ n0 = cur.length ∧ cur ++ uintE k = l ++ uintE n ∧ h' = rG (byD cur) T ∧ e 1 = .v (.int .u64 k) ∧ e 5 = .buf 0 n0) n ⟨n, _, l, [], rfl, hn, (by simp), rfl, rfl, rfl, rfl⟩ ?_
 rintro m e h' ⟨k, n0, cur, T, rfl, hk, hn0, hE, rfl, e1, e5⟩
 have hc : cur.length ≤ 100000010 := by
  have h1 := congrArg List.length hE
  rw [List.length_append, List.length_append] at h1
  have := (uintE_len10 n hn).1
  omega
 subst hn0
 repeat' first
  | refine aw_seq' ?_
  | refine aw_region' ?_
  | refine aw_block ?_
  | refine ao_nil ?_
  | (refine ao1 rfl rfl fun K HK => ?_; simp only [go_sem, ↓reduceIte, Nat.reduceEqDiff, Nat.reduceAdd, Nat.reduceLeDiff, Nat.reduceBEq, Nat.reduceMul, Int.reduceEq, Int.reduceLT, Int.reduceLE, e1, e5, rG_0, rG_s0, rG_a0, rG_b0, Int.reduceBEq]; (first | refine splitB (fun hq => ?_) (fun hq => ?_) | skip) <;> (refine HK _ _ ?_; clear HK K))
  | refine ao_appB rfl rfl rfl rfl (by (simp only [go_sem, ↓reduceIte, Nat.reduceEqDiff, Nat.reduceAdd, Nat.reduceLeDiff, Nat.reduceBEq, Nat.reduceMul, Int.reduceEq, Int.reduceLT, Int.reduceLE, e1, e5, rG_0, rG_s0, rG_a0, rG_b0, Int.reduceBEq]; rfl)) (by simp) (by simp only [go_sem]; rfl) (by (simp only [go_sem, ↓reduceIte, Nat.reduceEqDiff, Nat.reduceAdd, Nat.reduceLeDiff, Nat.reduceBEq, Nat.reduceMul, Int.reduceEq, Int.reduceLT, Int.reduceLE, e1, e5, rG_0, rG_s0, rG_a0, rG_b0, Int.reduceBEq]; rfl)) (by simp) (by (simp [rowsOk, D.one, Value.oneCell']; done)) (by (simp; omega)) ?_
  | refine aw_if1 rfl ?_
  | refine aw_if0 rfl ?_
  | refine aw_skip ?_
  | refine aw_exit ?_
  | refine aw_ret ?_
  | refine thenS_n ?_
  | refine inB_n ?_
 · have hc' : byD cur ++ [[.v (.int .u8 (IntKind.u8.wrap (IntKind.u8.wrap ((m : Int).tmod 128) + 128)))]] = byD (cur ++ [UInt8.ofNat (m % 128 + 128)]) := byD_one _ _ (rem_byte m)
   refine ⟨rfl, m / 128, by omega, m / 128, _, cur ++ [UInt8.ofNat (m % 128 + 128)], _, rfl, by omega, ?_, ?_, congrArg (fun r => rG r _) hc', ?_, rfl⟩
   · simp
   · rw [List.append_assoc, ← hE, uintE_ge (n := m) (by omega)]; rfl
   · simp only [upd, quo128 hk]; rfl
 · refine ⟨.inr rfl, endB (l := l ++ uintE n) (n := cur.length + 1) rfl rfl ?_ ?_ ⟨rfl, rfl⟩⟩
   · rw [← hE, uintE_lt (by omega)]; simp
   · rw [← hE, uintE_lt (by omega), byD_one _ (UInt8.ofNat m)]
     rw [u8_wrap, byte_lo _ (by omega)]; omega
theorem rUint_z {l : List UInt8} {n : Nat} {Z : Int} (hz : Z = (n : Int)) (hn : n < 18446744073709551616) (hl : l.length ≤ 100000000) :
 Does Tryz.prog G 85 [] [.sl 1 (byD l), .v (.int .u64 Z)] (fun h' r => h' = [.buf 5 1 (byD (l ++ uintE n))] ∧ r = .buf 0 (l ++ uintE n).length) := hz ▸ rUint0 G hG l n hn hl
omit hG in
theorem zz_p {n : Int} (hn : I64 n) (h0 : 0 ≤ n) : IntKind.u64.wrap (2 * IntKind.u64.wrap n) = ((zz n : Nat) : Int) := by
 obtain ⟨h1, h2⟩ := hn
 unfold zz
 rw [if_pos h0, IntKind.wrap_u64, IntKind.wrap_u64]; omega
omit hG in
theorem zz_n {n : Int} (hn : I64 n) (h0 : ¬ 0 ≤ n) : IntKind.u64.wrap (IntKind.u64.wrap (2 * IntKind.u64.wrap (IntKind.i64.wrap (0 - IntKind.i64.wrap (n + 1)))) + 1) = ((zz n : Nat) : Int) := by
 obtain ⟨h1, h2⟩ := hn
 have e1 : IntKind.i64.wrap (n + 1) = n + 1 := IntWalk.i64_in _ (by omega)
 have e2 : IntKind.i64.wrap (0 - (n + 1)) = 0 - (n + 1) := IntWalk.i64_in _ (by omega)
 unfold zz
 rw [e1, e2, if_neg h0, IntKind.wrap_u64, IntKind.wrap_u64, IntKind.wrap_u64]; omega
theorem rInt0 (l : List UInt8) (n : Int) (hn : I64 n) (hl : l.length ≤ 100000000) :
 Does Tryz.prog G 86 [] [.sl 1 (byD l), .v (.int .i64 n)] (fun h' r => h' = [.buf 5 1 (byD (l ++ intE n))] ∧ r = .buf 0 (l ++ intE n).length) := by
 have hz := zz_lt n hn.1 hn.2
 refine does_of_aw Tryz.func86 rfl (Nat.le_of_ble_eq_true rfl) hG fun hl0 _ => ?_
 simp only [Tryz.ntmps86]
 by_cases h0 : 0 ≤ n
 · skip
   repeat' first
    | refine aw_seq' ?_
    | refine aw_region' ?_
    | refine ao_nil ?_
    | (refine ao1 rfl rfl fun K HK => ?_; simp only [go_sem, ↓reduceIte, Nat.reduceEqDiff, Nat.reduceAdd, Nat.reduceLeDiff, Nat.reduceBEq, Nat.reduceMul, Int.reduceEq, Int.reduceLT, Int.reduceLE, h0] <;> (refine HK _ _ ?_; clear HK K))
    | (refine ao2 rfl rfl rfl ent_85 (rUint_z G hG (zz_p hn h0) hz hl) ?_; rintro _ _ ⟨rfl, rfl⟩)
    | refine aw_if1 rfl ?_
    | refine aw_ret ?_
    | refine thenS_r ?_
   exact ⟨.inr rfl, endB (l := l ++ intE n) rfl (T := []) rfl (by simp [intE]) rfl ⟨rfl, rfl⟩⟩
 · skip
   repeat' first
    | refine aw_seq' ?_
    | refine aw_region' ?_
    | refine ao_nil ?_
    | (refine ao1 rfl rfl fun K HK => ?_; simp only [go_sem, ↓reduceIte, Nat.reduceEqDiff, Nat.reduceAdd, Nat.reduceLeDiff, Nat.reduceBEq, Nat.reduceMul, Int.reduceEq, Int.reduceLT, Int.reduceLE, h0] <;> (refine HK _ _ ?_; clear HK K))
    | (refine ao2 rfl rfl rfl ent_85 (rUint_z G hG (zz_n hn h0) hz hl) ?_; rintro _ _ ⟨rfl, rfl⟩)
    | refine aw_if0 rfl ?_
    | refine aw_skip ?_
    | refine aw_ret ?_
   exact ⟨.inr rfl, endB (l := l ++ intE n) rfl (T := []) rfl (by simp [intE]) rfl ⟨rfl, rfl⟩⟩
theorem rText0 (l : List UInt8) (s : ByteArray) (hs : s.size ≤ 10000000) (hl : l.length ≤ 80000000) :
 Does Tryz.prog G 56 [] [.sl 1 (byD l), .v (.string s)] (fun h' r => h' = [.buf 5 1 (byD (l ++ textE s))] ∧ r = .buf 0 (l ++ textE s).length) := by
 have hu := (uintE_len10 s.size (by omega)).1
 refine does_of_aw Tryz.func56 rfl (Nat.le_of_ble_eq_true rfl) hG fun hl0 _ => ?_
 simp only [Tryz.ntmps56]
 repeat' first
  | refine aw_seq' ?_
  | refine aw_region' ?_
  | refine ao_nil ?_
  | (refine ao1 rfl rfl fun K HK => ?_; simp only [go_sem, ↓reduceIte, Nat.reduceEqDiff, Nat.reduceAdd, Nat.reduceLeDiff, Nat.reduceBEq, Nat.reduceMul, Int.reduceEq, Int.reduceLT, Int.reduceLE, lenU (a := s.size) (by omega)] <;> (refine HK _ _ ?_; clear HK K))
  | refine ao_appR rfl rfl rfl (by (simp only [go_sem, ↓reduceIte, Nat.reduceEqDiff, Nat.reduceAdd, Nat.reduceLeDiff, Nat.reduceBEq, Nat.reduceMul, Int.reduceEq, Int.reduceLT, Int.reduceLE, lenU (a := s.size) (by omega)]; rfl)) (by simp) (by simp only [go_sem]; rfl) rfl (by exact rowsOk_by _) (by (simp; omega)) ?_
  | (refine ao2 rfl rfl rfl ent_85 (rUint0 G hG l _ (by omega) (by omega)) ?_; rintro _ _ ⟨rfl, rfl⟩)
  | refine aw_ret ?_
 exact ⟨.inr rfl, endB (l := l ++ textE s) rfl (T := []) rfl (by simp [textE]; try omega) (by rw [byD_app, List.append_assoc]; rfl) ⟨rfl, rfl⟩⟩
theorem rBytes0 (l b : List UInt8) (hs : b.length ≤ 10000000) (hl : l.length ≤ 80000000) :
 Does Tryz.prog G 53 [] [.sl 1 (byD l), .sl 1 (byD b)] (fun h' r => h' = [.buf 5 1 (byD (l ++ bytesE b))] ∧ r = .buf 0 (l ++ bytesE b).length) := by
 have hu := (uintE_len10 b.length (by omega)).1
 refine does_of_aw Tryz.func53 rfl (Nat.le_of_ble_eq_true rfl) hG fun hl0 _ => ?_
 simp only [Tryz.ntmps53]
 repeat' first
  | refine aw_seq' ?_
  | refine aw_region' ?_
  | refine ao_nil ?_
  | (refine ao1 rfl rfl fun K HK => ?_; simp only [go_sem, ↓reduceIte, Nat.reduceEqDiff, Nat.reduceAdd, Nat.reduceLeDiff, Nat.reduceBEq, Nat.reduceMul, Int.reduceEq, Int.reduceLT, Int.reduceLE, byD_len, lenU (a := b.length) (by omega)] <;> (refine HK _ _ ?_; clear HK K))
  | refine ao_appR rfl rfl rfl (by (simp only [go_sem, ↓reduceIte, Nat.reduceEqDiff, Nat.reduceAdd, Nat.reduceLeDiff, Nat.reduceBEq, Nat.reduceMul, Int.reduceEq, Int.reduceLT, Int.reduceLE, byD_len, lenU (a := b.length) (by omega)]; rfl)) (by simp) (by simp only [go_sem]; rfl) rfl (by exact rowsOk_by _) (by (simp; omega)) ?_
  | (refine ao2 rfl rfl rfl ent_85 (rUint0 G hG l _ (by omega) (by omega)) ?_; rintro _ _ ⟨rfl, rfl⟩)
  | refine aw_ret ?_
 exact ⟨.inr rfl, endB (l := l ++ bytesE b) rfl (T := []) rfl (by simp [bytesE]; try omega) (by rw [byD_app, List.append_assoc]; rfl) ⟨rfl, rfl⟩⟩
end
end Go.Proofs.YtgkjcmglcnhpaaaGreatDoor
