/-
  What the statements of the chapter share, part 15: RI3, RI4, RB0, SHS, CL0, CL2, AL, OF0, AR, OF2.
-/
import Derived.Test.YtgkjcmglcnhpaaaGreatDoorO09
import Derived.Test.YtgkjcmglcnhpaaaGreatDoorO12
import Derived.Test.YtgkjcmglcnhpaaaGreatDoorO13
import Derived.Test.YtgkjcmglcnhpaaaGreatDoorO14
import Derived.Laws.CopyRow
set_option linter.unusedVariables false
set_option linter.unusedSimpArgs false
set_option maxRecDepth 100000
set_option maxHeartbeats 8000000
namespace Go.Proofs.YtgkjcmglcnhpaaaGreatDoor
open Go.RowKit
section
set_option maxRecDepth 100000
set_option maxHeartbeats 2000000
attribute [local irreducible] on aOp
variable (G : Nat → D) (hG : ∀ g, low 0 (G g))
include hG
theorem inBytes_d (i : Nat) (s : RS) (h : List Ob) (hi : h[i]? = some (inOb s)) (ho : s.Ok) (hl : s.data.length ≤ 1000000000) :
 Does Tryz.prog G 90 h [.ptr i 0] (fun h' r => h' = h.set i (inOb (rdBytes s).2) ∧ r = .sl 1 (byD (rdBytes s).1)) := by
 have hil := (List.getElem?_eq_some_iff.1 hi).1
 have hi0 := hi
 rw [inOb_eq] at hi
 obtain ⟨g1, g2, g3, g4, g5⟩ := own_get hi
 apply Does.weak
 refine does_of_aw Tryz.func90 rfl (Nat.le_of_ble_eq_true rfl) hG fun hl0 _ => ?_
 simp only [Tryz.ntmps90]
 have hp := ho.pos
 by_cases hb : s.err = 0
 rotate_left
 · rw [decide_eq_true hb] at hi
   repeat' first
    | refine aw_seq' ?_
    | refine aw_region' ?_
    | refine aw_block ?_
    | refine ao_nil ?_
    | (refine ao1 rfl rfl fun K HK => ?_; (try refine aOp_pick rfl ?_); simp only [go_sem, ↓reduceIte, Nat.reduceEqDiff, Nat.reduceAdd, Nat.reduceLeDiff, Nat.reduceBEq, Nat.reduceMul, Int.reduceEq, Int.reduceLT, Int.reduceLE, decide_true, decide_false, Bool.not_true, Bool.not_false, hi, g1]; (first | refine splitB (fun hq => ?_) (fun hq => ?_) | refine splitN (fun hq => ?_) (fun hq => ?_) | (refine slc_sl (by simp only [go_sem]) rfl rfl (by first | omega | simp) (by first | omega | simp) (by simp only [go_sem]; omega) ?_) | (refine ⟨by omega, by omega, ?_⟩; first | refine row_at (by assumption) ?_ | (intro row hrow; obtain ⟨x, hx, rfl⟩ := row_inv hrow; clear hrow) | (intro row hrow)) | (refine ⟨by omega, ?_⟩; refine row_at (by assumption) ?_) | skip) <;> (refine HK _ _ ?_; clear HK K))
    | (refine aq1 rfl rfl fun K HK => ?_; (try refine aOp_pick rfl ?_); simp only [go_sem, ↓reduceIte, Nat.reduceEqDiff, Nat.reduceAdd, Nat.reduceLeDiff, Nat.reduceBEq, Nat.reduceMul, Int.reduceEq, Int.reduceLT, Int.reduceLE, decide_true, decide_false, Bool.not_true, Bool.not_false, hi, g1]; (first | refine splitB (fun hq => ?_) (fun hq => ?_) | refine splitN (fun hq => ?_) (fun hq => ?_) | (refine slc_sl (by simp only [go_sem]) rfl rfl (by first | omega | simp) (by first | omega | simp) (by simp only [go_sem]; omega) ?_) | (refine ⟨by omega, by omega, ?_⟩; first | refine row_at (by assumption) ?_ | (intro row hrow; obtain ⟨x, hx, rfl⟩ := row_inv hrow; clear hrow) | (intro row hrow)) | (refine ⟨by omega, ?_⟩; refine row_at (by assumption) ?_) | skip) <;> (refine HK _ _ rfl ?_; clear HK K))
    | refine aq0 rfl rfl ?_
    | refine aq_nil ?_
    | (refine aw_draw mixd (by kernel_rfl) ?_)
    | refine ao_appB rfl rfl rfl rfl (by first | assumption | (simp only [go_sem, ↓reduceIte, Nat.reduceEqDiff, Nat.reduceAdd, Nat.reduceLeDiff, Nat.reduceBEq, Nat.reduceMul, Int.reduceEq, Int.reduceLT, Int.reduceLE, decide_true, decide_false, Bool.not_true, Bool.not_false, hi, g1]; rfl) | (simp only [go_sem, ↓reduceIte, Nat.reduceEqDiff, Nat.reduceAdd, Nat.reduceLeDiff, Nat.reduceBEq, Nat.reduceMul, Int.reduceEq, Int.reduceLT, Int.reduceLE, decide_true, decide_false, Bool.not_true, Bool.not_false, hi, g1]; done)) (by simp) (by simp only [go_sem]; rfl) (by first | assumption | (simp only [go_sem, ↓reduceIte, Nat.reduceEqDiff, Nat.reduceAdd, Nat.reduceLeDiff, Nat.reduceBEq, Nat.reduceMul, Int.reduceEq, Int.reduceLT, Int.reduceLE, decide_true, decide_false, Bool.not_true, Bool.not_false, hi, g1]; rfl) | (simp only [go_sem, ↓reduceIte, Nat.reduceEqDiff, Nat.reduceAdd, Nat.reduceLeDiff, Nat.reduceBEq, Nat.reduceMul, Int.reduceEq, Int.reduceLT, Int.reduceLE, decide_true, decide_false, Bool.not_true, Bool.not_false, hi, g1]; done)) (by simp) (by first | assumption | exact rowsOk_nil _ | exact rowsOk_by _ | (rw [byD_cut]; exact rowsOk_by _) | (simp [rowsOk, D.one, Value.oneCell']; done)) (by first | omega | (simp; done) | (simp; omega) | (simp [byD]; omega)) ?_
    | refine ao_appNB rfl rfl rfl rfl (by simp only [go_sem]; rfl) (by first | assumption | (simp only [go_sem, ↓reduceIte, Nat.reduceEqDiff, Nat.reduceAdd, Nat.reduceLeDiff, Nat.reduceBEq, Nat.reduceMul, Int.reduceEq, Int.reduceLT, Int.reduceLE, decide_true, decide_false, Bool.not_true, Bool.not_false, hi, g1]; rfl) | (simp only [go_sem, ↓reduceIte, Nat.reduceEqDiff, Nat.reduceAdd, Nat.reduceLeDiff, Nat.reduceBEq, Nat.reduceMul, Int.reduceEq, Int.reduceLT, Int.reduceLE, decide_true, decide_false, Bool.not_true, Bool.not_false, hi, g1]; done)) (by simp) (by first | assumption | exact rowsOk_nil _ | exact rowsOk_by _ | (rw [byD_cut]; exact rowsOk_by _) | (simp [rowsOk, D.one, Value.oneCell']; done)) (by first | omega | (simp; done) | (simp; omega) | (simp [byD]; omega)) ?_
    | refine ao_appR rfl rfl rfl (by first | assumption | (simp only [go_sem, ↓reduceIte, Nat.reduceEqDiff, Nat.reduceAdd, Nat.reduceLeDiff, Nat.reduceBEq, Nat.reduceMul, Int.reduceEq, Int.reduceLT, Int.reduceLE, decide_true, decide_false, Bool.not_true, Bool.not_false, hi, g1]; rfl) | (simp only [go_sem, ↓reduceIte, Nat.reduceEqDiff, Nat.reduceAdd, Nat.reduceLeDiff, Nat.reduceBEq, Nat.reduceMul, Int.reduceEq, Int.reduceLT, Int.reduceLE, decide_true, decide_false, Bool.not_true, Bool.not_false, hi, g1]; done)) (by simp) (by simp only [go_sem]; rfl) rfl (by first | assumption | exact rowsOk_nil _ | exact rowsOk_by _ | (rw [byD_cut]; exact rowsOk_by _) | (simp [rowsOk, D.one, Value.oneCell']; done)) (by first | omega | (simp; done) | (simp; omega) | (simp [byD]; omega)) ?_
    | refine ao_appNR rfl rfl rfl (by simp only [go_sem]; rfl) rfl (by first | assumption | exact rowsOk_nil _ | exact rowsOk_by _ | (rw [byD_cut]; exact rowsOk_by _) | (simp [rowsOk, D.one, Value.oneCell']; done)) (by first | omega | (simp; done) | (simp; omega) | (simp [byD]; omega)) ?_
    | refine ao0 rfl rfl ?_
    | (refine ao1' rfl fun K HK => ?_; simp only [go_sem, ↓reduceIte, Nat.reduceEqDiff, Nat.reduceAdd, Nat.reduceLeDiff, Nat.reduceBEq, Nat.reduceMul, Int.reduceEq, Int.reduceLT, Int.reduceLE, decide_true, decide_false, Bool.not_true, Bool.not_false, hi, g1]; refine HK _ _ ?_; clear HK K)
    | refine ao0' rfl ?_
    | refine aw_if1 rfl ?_
    | refine aw_if0 rfl ?_
    | refine aw_skip ?_
    | refine aw_exit ?_
    | refine aw_ret ?_
    | refine thenS_n ?_
    | refine thenS_x ?_
    | refine thenS_r ?_
    | refine inB_n ?_
    | refine inB_r ?_
    | refine inB_x ?_
    | refine inB_y rfl ?_
    | (exfalso; omega)
   have hR : rdBytes s = ([], s) := by unfold rdBytes; rw [if_pos hb]
   exact ⟨by simp, endS (i := i) (ob := inOb s) (r := .v _) hl0 (low_in _ _) rfl (by simp [set_same hi0]) (by simp) rfl (by rw [low]; trivial) ⟨_, ⟨by rw [hR], by rw [hR]; rfl⟩, nil_sl⟩⟩
 rw [decide_eq_false (fun h => h hb)] at hi
 rcases hN : s.num with _ | ⟨m, c⟩
 · have hr := rawD_none hN
   have hR : rdBytes s = ([], s.bad) := by unfold rdBytes; rw [if_neg (fun h => h hb), hN]
   repeat' first
    | refine aw_seq' ?_
    | refine aw_region' ?_
    | refine aw_block ?_
    | refine ao_nil ?_
    | (refine ao1 rfl rfl fun K HK => ?_; (try refine aOp_pick rfl ?_); simp only [go_sem, ↓reduceIte, Nat.reduceEqDiff, Nat.reduceAdd, Nat.reduceLeDiff, Nat.reduceBEq, Nat.reduceMul, Int.reduceEq, Int.reduceLT, Int.reduceLE, decide_true, decide_false, Bool.not_true, Bool.not_false, hi, g1]; (first | refine splitB (fun hq => ?_) (fun hq => ?_) | refine splitN (fun hq => ?_) (fun hq => ?_) | (refine slc_sl (by simp only [go_sem]) rfl rfl (by first | omega | simp) (by first | omega | simp) (by simp only [go_sem]; omega) ?_) | (refine ⟨by omega, by omega, ?_⟩; first | refine row_at (by assumption) ?_ | (intro row hrow; obtain ⟨x, hx, rfl⟩ := row_inv hrow; clear hrow) | (intro row hrow)) | (refine ⟨by omega, ?_⟩; refine row_at (by assumption) ?_) | skip) <;> (refine HK _ _ ?_; clear HK K))
    | (refine aq1 rfl rfl fun K HK => ?_; (try refine aOp_pick rfl ?_); simp only [go_sem, ↓reduceIte, Nat.reduceEqDiff, Nat.reduceAdd, Nat.reduceLeDiff, Nat.reduceBEq, Nat.reduceMul, Int.reduceEq, Int.reduceLT, Int.reduceLE, decide_true, decide_false, Bool.not_true, Bool.not_false, hi, g1]; (first | refine splitB (fun hq => ?_) (fun hq => ?_) | refine splitN (fun hq => ?_) (fun hq => ?_) | (refine slc_sl (by simp only [go_sem]) rfl rfl (by first | omega | simp) (by first | omega | simp) (by simp only [go_sem]; omega) ?_) | (refine ⟨by omega, by omega, ?_⟩; first | refine row_at (by assumption) ?_ | (intro row hrow; obtain ⟨x, hx, rfl⟩ := row_inv hrow; clear hrow) | (intro row hrow)) | (refine ⟨by omega, ?_⟩; refine row_at (by assumption) ?_) | skip) <;> (refine HK _ _ rfl ?_; clear HK K))
    | refine aq0 rfl rfl ?_
    | refine aq_nil ?_
    | (refine aw_draw mixd (by kernel_rfl) ?_)
    | refine ao_appB rfl rfl rfl rfl (by first | assumption | (simp only [go_sem, ↓reduceIte, Nat.reduceEqDiff, Nat.reduceAdd, Nat.reduceLeDiff, Nat.reduceBEq, Nat.reduceMul, Int.reduceEq, Int.reduceLT, Int.reduceLE, decide_true, decide_false, Bool.not_true, Bool.not_false, hi, g1]; rfl) | (simp only [go_sem, ↓reduceIte, Nat.reduceEqDiff, Nat.reduceAdd, Nat.reduceLeDiff, Nat.reduceBEq, Nat.reduceMul, Int.reduceEq, Int.reduceLT, Int.reduceLE, decide_true, decide_false, Bool.not_true, Bool.not_false, hi, g1]; done)) (by simp) (by simp only [go_sem]; rfl) (by first | assumption | (simp only [go_sem, ↓reduceIte, Nat.reduceEqDiff, Nat.reduceAdd, Nat.reduceLeDiff, Nat.reduceBEq, Nat.reduceMul, Int.reduceEq, Int.reduceLT, Int.reduceLE, decide_true, decide_false, Bool.not_true, Bool.not_false, hi, g1]; rfl) | (simp only [go_sem, ↓reduceIte, Nat.reduceEqDiff, Nat.reduceAdd, Nat.reduceLeDiff, Nat.reduceBEq, Nat.reduceMul, Int.reduceEq, Int.reduceLT, Int.reduceLE, decide_true, decide_false, Bool.not_true, Bool.not_false, hi, g1]; done)) (by simp) (by first | assumption | exact rowsOk_nil _ | exact rowsOk_by _ | (rw [byD_cut]; exact rowsOk_by _) | (simp [rowsOk, D.one, Value.oneCell']; done)) (by first | omega | (simp; done) | (simp; omega) | (simp [byD]; omega)) ?_
    | refine ao_appNB rfl rfl rfl rfl (by simp only [go_sem]; rfl) (by first | assumption | (simp only [go_sem, ↓reduceIte, Nat.reduceEqDiff, Nat.reduceAdd, Nat.reduceLeDiff, Nat.reduceBEq, Nat.reduceMul, Int.reduceEq, Int.reduceLT, Int.reduceLE, decide_true, decide_false, Bool.not_true, Bool.not_false, hi, g1]; rfl) | (simp only [go_sem, ↓reduceIte, Nat.reduceEqDiff, Nat.reduceAdd, Nat.reduceLeDiff, Nat.reduceBEq, Nat.reduceMul, Int.reduceEq, Int.reduceLT, Int.reduceLE, decide_true, decide_false, Bool.not_true, Bool.not_false, hi, g1]; done)) (by simp) (by first | assumption | exact rowsOk_nil _ | exact rowsOk_by _ | (rw [byD_cut]; exact rowsOk_by _) | (simp [rowsOk, D.one, Value.oneCell']; done)) (by first | omega | (simp; done) | (simp; omega) | (simp [byD]; omega)) ?_
    | refine ao_appR rfl rfl rfl (by first | assumption | (simp only [go_sem, ↓reduceIte, Nat.reduceEqDiff, Nat.reduceAdd, Nat.reduceLeDiff, Nat.reduceBEq, Nat.reduceMul, Int.reduceEq, Int.reduceLT, Int.reduceLE, decide_true, decide_false, Bool.not_true, Bool.not_false, hi, g1]; rfl) | (simp only [go_sem, ↓reduceIte, Nat.reduceEqDiff, Nat.reduceAdd, Nat.reduceLeDiff, Nat.reduceBEq, Nat.reduceMul, Int.reduceEq, Int.reduceLT, Int.reduceLE, decide_true, decide_false, Bool.not_true, Bool.not_false, hi, g1]; done)) (by simp) (by simp only [go_sem]; rfl) rfl (by first | assumption | exact rowsOk_nil _ | exact rowsOk_by _ | (rw [byD_cut]; exact rowsOk_by _) | (simp [rowsOk, D.one, Value.oneCell']; done)) (by first | omega | (simp; done) | (simp; omega) | (simp [byD]; omega)) ?_
    | refine ao_appNR rfl rfl rfl (by simp only [go_sem]; rfl) rfl (by first | assumption | exact rowsOk_nil _ | exact rowsOk_by _ | (rw [byD_cut]; exact rowsOk_by _) | (simp [rowsOk, D.one, Value.oneCell']; done)) (by first | omega | (simp; done) | (simp; omega) | (simp [byD]; omega)) ?_
    | refine ao0 rfl rfl ?_
    | refine aq2 rfl rfl rfl ent_110 (raw_e G hG hr _ hl ho.pos) ?_
    | (refine ao2 rfl rfl rfl ent_110 (raw_e G hG hr _ hl ho.pos) ?_; rintro _ _ ⟨rfl, rfl⟩)
    | (refine ao1' rfl fun K HK => ?_; simp only [go_sem, ↓reduceIte, Nat.reduceEqDiff, Nat.reduceAdd, Nat.reduceLeDiff, Nat.reduceBEq, Nat.reduceMul, Int.reduceEq, Int.reduceLT, Int.reduceLE, decide_true, decide_false, Bool.not_true, Bool.not_false, hi, g1]; refine HK _ _ ?_; clear HK K)
    | refine ao0' rfl ?_
    | refine aw_if1 rfl ?_
    | refine aw_if0 rfl ?_
    | refine aw_skip ?_
    | refine aw_exit ?_
    | refine aw_ret ?_
    | refine thenS_n ?_
    | refine thenS_x ?_
    | refine thenS_r ?_
    | refine inB_n ?_
    | refine inB_r ?_
    | refine inB_x ?_
    | refine inB_y rfl ?_
    | (exfalso; omega)
   exact ⟨by simp, endS (i := i) (ob := inOb s.bad) (r := .v _) hl0 (low_in _ _) rfl (by simp [inOb, RS.bad, putL_succ, putL_zero, take_set]) (by simp) rfl (by rw [low]; trivial) ⟨_, ⟨by rw [hR], by rw [hR]; rfl⟩, nil_sl⟩⟩
 · have hr := rawD_some hN
   obtain ⟨hn1, hn2, hn3, hn4⟩ := RS.num_some hN hp
   have w1 : IntKind.i64.wrap ((s.data.length : Int) - ((s.pos : Int) + (c : Int))) = (s.data.length : Int) - ((s.pos : Int) + (c : Int)) := IntWalk.i64_in _ (by omega)
   have w2 : IntKind.u64.wrap ((s.data.length : Int) - ((s.pos : Int) + (c : Int))) = (s.data.length : Int) - ((s.pos : Int) + (c : Int)) := by rw [IntKind.wrap_u64]; omega
   have hR : rdBytes s = (if s.data.length - (s.pos + c) < m then ([], s.bad) else ((s.data.drop (s.pos + c)).take m, s.go (c + m))) := by unfold rdBytes; rw [if_neg (fun h => h hb), hN]
   by_cases hm : s.data.length - (s.pos + c) < m
   · have hR2 : rdBytes s = ([], s.bad) := by rw [hR, if_pos hm]
     repeat' first
      | refine aw_seq' ?_
      | refine aw_region' ?_
      | refine aw_block ?_
      | refine ao_nil ?_
      | (refine ao1 rfl rfl fun K HK => ?_; (try refine aOp_pick rfl ?_); simp only [go_sem, ↓reduceIte, Nat.reduceEqDiff, Nat.reduceAdd, Nat.reduceLeDiff, Nat.reduceBEq, Nat.reduceMul, Int.reduceEq, Int.reduceLT, Int.reduceLE, decide_true, decide_false, Bool.not_true, Bool.not_false, hi, g1, w1, w2]; (first | refine splitB (fun hq => ?_) (fun hq => ?_) | refine splitN (fun hq => ?_) (fun hq => ?_) | (refine slc_sl (by simp only [go_sem]) rfl rfl (by first | omega | simp) (by first | omega | simp) (by simp only [go_sem]; omega) ?_) | (refine ⟨by omega, by omega, ?_⟩; first | refine row_at (by assumption) ?_ | (intro row hrow; obtain ⟨x, hx, rfl⟩ := row_inv hrow; clear hrow) | (intro row hrow)) | (refine ⟨by omega, ?_⟩; refine row_at (by assumption) ?_) | skip) <;> (refine HK _ _ ?_; clear HK K))
      | (refine aq1 rfl rfl fun K HK => ?_; (try refine aOp_pick rfl ?_); simp only [go_sem, ↓reduceIte, Nat.reduceEqDiff, Nat.reduceAdd, Nat.reduceLeDiff, Nat.reduceBEq, Nat.reduceMul, Int.reduceEq, Int.reduceLT, Int.reduceLE, decide_true, decide_false, Bool.not_true, Bool.not_false, hi, g1, w1, w2]; (first | refine splitB (fun hq => ?_) (fun hq => ?_) | refine splitN (fun hq => ?_) (fun hq => ?_) | (refine slc_sl (by simp only [go_sem]) rfl rfl (by first | omega | simp) (by first | omega | simp) (by simp only [go_sem]; omega) ?_) | (refine ⟨by omega, by omega, ?_⟩; first | refine row_at (by assumption) ?_ | (intro row hrow; obtain ⟨x, hx, rfl⟩ := row_inv hrow; clear hrow) | (intro row hrow)) | (refine ⟨by omega, ?_⟩; refine row_at (by assumption) ?_) | skip) <;> (refine HK _ _ rfl ?_; clear HK K))
      | refine aq0 rfl rfl ?_
      | refine aq_nil ?_
      | (refine aw_draw mixd (by kernel_rfl) ?_)
      | refine ao_appB rfl rfl rfl rfl (by first | assumption | (simp only [go_sem, ↓reduceIte, Nat.reduceEqDiff, Nat.reduceAdd, Nat.reduceLeDiff, Nat.reduceBEq, Nat.reduceMul, Int.reduceEq, Int.reduceLT, Int.reduceLE, decide_true, decide_false, Bool.not_true, Bool.not_false, hi, g1, w1, w2]; rfl) | (simp only [go_sem, ↓reduceIte, Nat.reduceEqDiff, Nat.reduceAdd, Nat.reduceLeDiff, Nat.reduceBEq, Nat.reduceMul, Int.reduceEq, Int.reduceLT, Int.reduceLE, decide_true, decide_false, Bool.not_true, Bool.not_false, hi, g1, w1, w2]; done)) (by simp) (by simp only [go_sem]; rfl) (by first | assumption | (simp only [go_sem, ↓reduceIte, Nat.reduceEqDiff, Nat.reduceAdd, Nat.reduceLeDiff, Nat.reduceBEq, Nat.reduceMul, Int.reduceEq, Int.reduceLT, Int.reduceLE, decide_true, decide_false, Bool.not_true, Bool.not_false, hi, g1, w1, w2]; rfl) | (simp only [go_sem, ↓reduceIte, Nat.reduceEqDiff, Nat.reduceAdd, Nat.reduceLeDiff, Nat.reduceBEq, Nat.reduceMul, Int.reduceEq, Int.reduceLT, Int.reduceLE, decide_true, decide_false, Bool.not_true, Bool.not_false, hi, g1, w1, w2]; done)) (by simp) (by first | assumption | exact rowsOk_nil _ | exact rowsOk_by _ | (rw [byD_cut]; exact rowsOk_by _) | (simp [rowsOk, D.one, Value.oneCell']; done)) (by first | omega | (simp; done) | (simp; omega) | (simp [byD]; omega)) ?_
      | refine ao_appNB rfl rfl rfl rfl (by simp only [go_sem]; rfl) (by first | assumption | (simp only [go_sem, ↓reduceIte, Nat.reduceEqDiff, Nat.reduceAdd, Nat.reduceLeDiff, Nat.reduceBEq, Nat.reduceMul, Int.reduceEq, Int.reduceLT, Int.reduceLE, decide_true, decide_false, Bool.not_true, Bool.not_false, hi, g1, w1, w2]; rfl) | (simp only [go_sem, ↓reduceIte, Nat.reduceEqDiff, Nat.reduceAdd, Nat.reduceLeDiff, Nat.reduceBEq, Nat.reduceMul, Int.reduceEq, Int.reduceLT, Int.reduceLE, decide_true, decide_false, Bool.not_true, Bool.not_false, hi, g1, w1, w2]; done)) (by simp) (by first | assumption | exact rowsOk_nil _ | exact rowsOk_by _ | (rw [byD_cut]; exact rowsOk_by _) | (simp [rowsOk, D.one, Value.oneCell']; done)) (by first | omega | (simp; done) | (simp; omega) | (simp [byD]; omega)) ?_
      | refine ao_appR rfl rfl rfl (by first | assumption | (simp only [go_sem, ↓reduceIte, Nat.reduceEqDiff, Nat.reduceAdd, Nat.reduceLeDiff, Nat.reduceBEq, Nat.reduceMul, Int.reduceEq, Int.reduceLT, Int.reduceLE, decide_true, decide_false, Bool.not_true, Bool.not_false, hi, g1, w1, w2]; rfl) | (simp only [go_sem, ↓reduceIte, Nat.reduceEqDiff, Nat.reduceAdd, Nat.reduceLeDiff, Nat.reduceBEq, Nat.reduceMul, Int.reduceEq, Int.reduceLT, Int.reduceLE, decide_true, decide_false, Bool.not_true, Bool.not_false, hi, g1, w1, w2]; done)) (by simp) (by simp only [go_sem]; rfl) rfl (by first | assumption | exact rowsOk_nil _ | exact rowsOk_by _ | (rw [byD_cut]; exact rowsOk_by _) | (simp [rowsOk, D.one, Value.oneCell']; done)) (by first | omega | (simp; done) | (simp; omega) | (simp [byD]; omega)) ?_
      | refine ao_appNR rfl rfl rfl (by simp only [go_sem]; rfl) rfl (by first | assumption | exact rowsOk_nil _ | exact rowsOk_by _ | (rw [byD_cut]; exact rowsOk_by _) | (simp [rowsOk, D.one, Value.oneCell']; done)) (by first | omega | (simp; done) | (simp; omega) | (simp [byD]; omega)) ?_
      | refine ao0 rfl rfl ?_
      | refine aq2 rfl rfl rfl ent_110 (raw_e G hG hr _ hl ho.pos) ?_
      | (refine ao2 rfl rfl rfl ent_110 (raw_e G hG hr _ hl ho.pos) ?_; rintro _ _ ⟨rfl, rfl⟩)
      | (refine ao1' rfl fun K HK => ?_; simp only [go_sem, ↓reduceIte, Nat.reduceEqDiff, Nat.reduceAdd, Nat.reduceLeDiff, Nat.reduceBEq, Nat.reduceMul, Int.reduceEq, Int.reduceLT, Int.reduceLE, decide_true, decide_false, Bool.not_true, Bool.not_false, hi, g1, w1, w2]; refine HK _ _ ?_; clear HK K)
      | refine ao0' rfl ?_
      | refine aw_if1 rfl ?_
      | refine aw_if0 rfl ?_
      | refine aw_skip ?_
      | refine aw_exit ?_
      | refine aw_ret ?_
      | refine thenS_n ?_
      | refine thenS_x ?_
      | refine thenS_r ?_
      | refine inB_n ?_
      | refine inB_r ?_
      | refine inB_x ?_
      | refine inB_y rfl ?_
      | (exfalso; omega)
     exact ⟨by simp, endS (i := i) (ob := inOb s.bad) (r := .v _) hl0 (low_in _ _) rfl (by simp [inOb, RS.bad, putL_succ, putL_zero, take_set]) (by simp) rfl (by rw [low]; trivial) ⟨_, ⟨by rw [hR2], by rw [hR2]; rfl⟩, nil_sl⟩⟩
   · have w3 : IntKind.i64.wrap (m : Int) = (m : Int) := IntWalk.i64_in _ (by omega)
     have w4 : IntKind.i64.wrap ((s.pos : Int) + (c : Int) + (m : Int)) = (s.pos : Int) + (c : Int) + (m : Int) := IntWalk.i64_in _ (by omega)
     have hR2 : rdBytes s = ((s.data.drop (s.pos + c)).take m, s.go (c + m)) := by rw [hR, if_neg hm]
     repeat' first
      | refine aw_seq' ?_
      | refine aw_region' ?_
      | refine aw_block ?_
      | refine ao_nil ?_
      | (refine ao1 rfl rfl fun K HK => ?_; (try refine aOp_pick rfl ?_); simp only [go_sem, ↓reduceIte, Nat.reduceEqDiff, Nat.reduceAdd, Nat.reduceLeDiff, Nat.reduceBEq, Nat.reduceMul, Int.reduceEq, Int.reduceLT, Int.reduceLE, decide_true, decide_false, Bool.not_true, Bool.not_false, hi, g1, g2, g3, g4, g5, w1, w2, w3, w4]; (first | refine splitB (fun hq => ?_) (fun hq => ?_) | refine splitN (fun hq => ?_) (fun hq => ?_) | (refine slc_sl (by simp only [go_sem]) rfl rfl (by first | omega | simp) (by first | omega | simp) (by simp only [go_sem]; omega) ?_) | (refine ⟨by omega, by omega, ?_⟩; first | refine row_at (by assumption) ?_ | (intro row hrow; obtain ⟨x, hx, rfl⟩ := row_inv hrow; clear hrow) | (intro row hrow)) | (refine ⟨by omega, ?_⟩; refine row_at (by assumption) ?_) | skip) <;> (refine HK _ _ ?_; clear HK K))
      | (refine aq1 rfl rfl fun K HK => ?_; (try refine aOp_pick rfl ?_); simp only [go_sem, ↓reduceIte, Nat.reduceEqDiff, Nat.reduceAdd, Nat.reduceLeDiff, Nat.reduceBEq, Nat.reduceMul, Int.reduceEq, Int.reduceLT, Int.reduceLE, decide_true, decide_false, Bool.not_true, Bool.not_false, hi, g1, g2, g3, g4, g5, w1, w2, w3, w4]; (first | refine splitB (fun hq => ?_) (fun hq => ?_) | refine splitN (fun hq => ?_) (fun hq => ?_) | (refine slc_sl (by simp only [go_sem]) rfl rfl (by first | omega | simp) (by first | omega | simp) (by simp only [go_sem]; omega) ?_) | (refine ⟨by omega, by omega, ?_⟩; first | refine row_at (by assumption) ?_ | (intro row hrow; obtain ⟨x, hx, rfl⟩ := row_inv hrow; clear hrow) | (intro row hrow)) | (refine ⟨by omega, ?_⟩; refine row_at (by assumption) ?_) | skip) <;> (refine HK _ _ rfl ?_; clear HK K))
      | refine aq0 rfl rfl ?_
      | refine aq_nil ?_
      | (refine aw_drawE mixd (by kernel_rfl) ?_)
      | (refine aS1 rfl rfl fun K HK => ?_; (try refine aOp_pick rfl ?_); simp only [go_sem, ↓reduceIte, Nat.reduceEqDiff, Nat.reduceAdd, Nat.reduceLeDiff, Nat.reduceBEq, Nat.reduceMul, Int.reduceEq, Int.reduceLT, Int.reduceLE, decide_true, decide_false, Bool.not_true, Bool.not_false, hi, g1, g2, g3, g4, g5, w1, w2, w3, w4]; (first | refine splitB (fun hq => ?_) (fun hq => ?_) | refine splitN (fun hq => ?_) (fun hq => ?_) | (refine slc_sl (by simp only [go_sem]) rfl rfl (by first | omega | simp) (by first | omega | simp) (by simp only [go_sem]; omega) ?_) | (refine ⟨by omega, by omega, ?_⟩; first | refine row_at (by assumption) ?_ | (intro row hrow; obtain ⟨x, hx, rfl⟩ := row_inv hrow; clear hrow) | (intro row hrow)) | (refine ⟨by omega, ?_⟩; refine row_at (by assumption) ?_) | skip) <;> (refine HK _ _ rfl ?_; clear HK K))
      | refine aS0 rfl rfl ?_
      | refine aS_load rfl rfl rfl (by first | assumption | (simp only [go_sem, ↓reduceIte, Nat.reduceEqDiff, Nat.reduceAdd, Nat.reduceLeDiff, Nat.reduceBEq, Nat.reduceMul, Int.reduceEq, Int.reduceLT, Int.reduceLE, decide_true, decide_false, Bool.not_true, Bool.not_false, hi, g1, g2, g3, g4, g5, w1, w2, w3, w4]; rfl) | (simp only [go_sem, ↓reduceIte, Nat.reduceEqDiff, Nat.reduceAdd, Nat.reduceLeDiff, Nat.reduceBEq, Nat.reduceMul, Int.reduceEq, Int.reduceLT, Int.reduceLE, decide_true, decide_false, Bool.not_true, Bool.not_false, hi, g1, g2, g3, g4, g5, w1, w2, w3, w4]; done)) (by rw [getD_one (by simp only [go_sem, ↓reduceIte, Nat.reduceEqDiff, Nat.reduceAdd, Nat.reduceLeDiff, Nat.reduceBEq, Nat.reduceMul, Int.reduceEq, Int.reduceLT, Int.reduceLE, decide_true, decide_false, Bool.not_true, Bool.not_false, hi, g1, g2, g3, g4, g5, w1, w2, w3, w4])]; rfl) ?_
      | refine aS_store rfl rfl (by first | assumption | (simp only [go_sem, ↓reduceIte, Nat.reduceEqDiff, Nat.reduceAdd, Nat.reduceLeDiff, Nat.reduceBEq, Nat.reduceMul, Int.reduceEq, Int.reduceLT, Int.reduceLE, decide_true, decide_false, Bool.not_true, Bool.not_false, hi, g1, g2, g3, g4, g5, w1, w2, w3, w4]; rfl) | (simp only [go_sem, ↓reduceIte, Nat.reduceEqDiff, Nat.reduceAdd, Nat.reduceLeDiff, Nat.reduceBEq, Nat.reduceMul, Int.reduceEq, Int.reduceLT, Int.reduceLE, decide_true, decide_false, Bool.not_true, Bool.not_false, hi, g1, g2, g3, g4, g5, w1, w2, w3, w4]; done)) rfl (by simp only [go_sem, ↓reduceIte, Nat.reduceEqDiff, Nat.reduceAdd, Nat.reduceLeDiff, Nat.reduceBEq, Nat.reduceMul, Int.reduceEq, Int.reduceLT, Int.reduceLE, decide_true, decide_false, Bool.not_true, Bool.not_false, hi, g1, g2, g3, g4, g5, w1, w2, w3, w4]) (by simp) ?_
      | refine aS_lit rfl rfl (by simp only [litD, litRows, go_sem, List.length_cons, List.length_nil, Option.map_some, Option.bind_some, ↓reduceIte, Nat.reduceAdd, Nat.reduceMul, Nat.reduceLeDiff, and_self, ↓reduceIte, Nat.reduceEqDiff, Nat.reduceAdd, Nat.reduceLeDiff, Nat.reduceBEq, Nat.reduceMul, Int.reduceEq, Int.reduceLT, Int.reduceLE, decide_true, decide_false, Bool.not_true, Bool.not_false, hi, g1, g2, g3, g4, g5, w1, w2, w3, w4]; rfl) ?_
      | refine ao_appB rfl rfl rfl rfl (by first | assumption | (simp only [go_sem, ↓reduceIte, Nat.reduceEqDiff, Nat.reduceAdd, Nat.reduceLeDiff, Nat.reduceBEq, Nat.reduceMul, Int.reduceEq, Int.reduceLT, Int.reduceLE, decide_true, decide_false, Bool.not_true, Bool.not_false, hi, g1, g2, g3, g4, g5, w1, w2, w3, w4]; rfl) | (simp only [go_sem, ↓reduceIte, Nat.reduceEqDiff, Nat.reduceAdd, Nat.reduceLeDiff, Nat.reduceBEq, Nat.reduceMul, Int.reduceEq, Int.reduceLT, Int.reduceLE, decide_true, decide_false, Bool.not_true, Bool.not_false, hi, g1, g2, g3, g4, g5, w1, w2, w3, w4]; done)) (by simp) (by simp only [go_sem]; rfl) (by first | assumption | (simp only [go_sem, ↓reduceIte, Nat.reduceEqDiff, Nat.reduceAdd, Nat.reduceLeDiff, Nat.reduceBEq, Nat.reduceMul, Int.reduceEq, Int.reduceLT, Int.reduceLE, decide_true, decide_false, Bool.not_true, Bool.not_false, hi, g1, g2, g3, g4, g5, w1, w2, w3, w4]; rfl) | (simp only [go_sem, ↓reduceIte, Nat.reduceEqDiff, Nat.reduceAdd, Nat.reduceLeDiff, Nat.reduceBEq, Nat.reduceMul, Int.reduceEq, Int.reduceLT, Int.reduceLE, decide_true, decide_false, Bool.not_true, Bool.not_false, hi, g1, g2, g3, g4, g5, w1, w2, w3, w4]; done)) (by simp) (by first | assumption | exact rowsOk_nil _ | exact rowsOk_by _ | (rw [byD_cut]; exact rowsOk_by _) | (simp [rowsOk, D.one, Value.oneCell']; done)) (by first | omega | (simp; done) | (simp; omega) | (simp [byD]; omega)) ?_
      | refine ao_appNB rfl rfl rfl rfl (by simp only [go_sem]; rfl) (by first | assumption | (simp only [go_sem, ↓reduceIte, Nat.reduceEqDiff, Nat.reduceAdd, Nat.reduceLeDiff, Nat.reduceBEq, Nat.reduceMul, Int.reduceEq, Int.reduceLT, Int.reduceLE, decide_true, decide_false, Bool.not_true, Bool.not_false, hi, g1, g2, g3, g4, g5, w1, w2, w3, w4]; rfl) | (simp only [go_sem, ↓reduceIte, Nat.reduceEqDiff, Nat.reduceAdd, Nat.reduceLeDiff, Nat.reduceBEq, Nat.reduceMul, Int.reduceEq, Int.reduceLT, Int.reduceLE, decide_true, decide_false, Bool.not_true, Bool.not_false, hi, g1, g2, g3, g4, g5, w1, w2, w3, w4]; done)) (by simp) (by first | assumption | exact rowsOk_nil _ | exact rowsOk_by _ | (rw [byD_cut]; exact rowsOk_by _) | (simp [rowsOk, D.one, Value.oneCell']; done)) (by first | omega | (simp; done) | (simp; omega) | (simp [byD]; omega)) ?_
      | refine ao_appR rfl rfl rfl (by first | assumption | (simp only [go_sem, ↓reduceIte, Nat.reduceEqDiff, Nat.reduceAdd, Nat.reduceLeDiff, Nat.reduceBEq, Nat.reduceMul, Int.reduceEq, Int.reduceLT, Int.reduceLE, decide_true, decide_false, Bool.not_true, Bool.not_false, hi, g1, g2, g3, g4, g5, w1, w2, w3, w4]; rfl) | (simp only [go_sem, ↓reduceIte, Nat.reduceEqDiff, Nat.reduceAdd, Nat.reduceLeDiff, Nat.reduceBEq, Nat.reduceMul, Int.reduceEq, Int.reduceLT, Int.reduceLE, decide_true, decide_false, Bool.not_true, Bool.not_false, hi, g1, g2, g3, g4, g5, w1, w2, w3, w4]; done)) (by simp) (by simp only [go_sem]; rfl) rfl (by first | assumption | exact rowsOk_nil _ | exact rowsOk_by _ | (rw [byD_cut]; exact rowsOk_by _) | (simp [rowsOk, D.one, Value.oneCell']; done)) (by first | omega | (simp; done) | (simp; omega) | (simp [byD]; omega)) ?_
      | refine ao_appNR rfl rfl rfl (by simp only [go_sem]; rfl) rfl (by first | assumption | exact rowsOk_nil _ | exact rowsOk_by _ | (rw [byD_cut]; exact rowsOk_by _) | (simp [rowsOk, D.one, Value.oneCell']; done)) (by first | omega | (simp; done) | (simp; omega) | (simp [byD]; omega)) ?_
      | refine aS_appB rfl rfl rfl rfl (by first | assumption | (simp only [go_sem, ↓reduceIte, Nat.reduceEqDiff, Nat.reduceAdd, Nat.reduceLeDiff, Nat.reduceBEq, Nat.reduceMul, Int.reduceEq, Int.reduceLT, Int.reduceLE, decide_true, decide_false, Bool.not_true, Bool.not_false, hi, g1, g2, g3, g4, g5, w1, w2, w3, w4]; rfl) | (simp only [go_sem, ↓reduceIte, Nat.reduceEqDiff, Nat.reduceAdd, Nat.reduceLeDiff, Nat.reduceBEq, Nat.reduceMul, Int.reduceEq, Int.reduceLT, Int.reduceLE, decide_true, decide_false, Bool.not_true, Bool.not_false, hi, g1, g2, g3, g4, g5, w1, w2, w3, w4]; done)) (by simp) (by simp only [go_sem]; rfl) (by first | assumption | (simp only [go_sem, ↓reduceIte, Nat.reduceEqDiff, Nat.reduceAdd, Nat.reduceLeDiff, Nat.reduceBEq, Nat.reduceMul, Int.reduceEq, Int.reduceLT, Int.reduceLE, decide_true, decide_false, Bool.not_true, Bool.not_false, hi, g1, g2, g3, g4, g5, w1, w2, w3, w4]; rfl) | (simp only [go_sem, ↓reduceIte, Nat.reduceEqDiff, Nat.reduceAdd, Nat.reduceLeDiff, Nat.reduceBEq, Nat.reduceMul, Int.reduceEq, Int.reduceLT, Int.reduceLE, decide_true, decide_false, Bool.not_true, Bool.not_false, hi, g1, g2, g3, g4, g5, w1, w2, w3, w4]; done)) (by simp) (by first | assumption | exact rowsOk_nil _ | exact rowsOk_by _ | (rw [byD_cut]; exact rowsOk_by _) | (simp [rowsOk, D.one, Value.oneCell']; done)) (by first | omega | (simp; done) | (simp; omega) | (simp [byD]; omega)) ?_
      | refine aS_appNB rfl rfl rfl rfl (by simp only [go_sem]; rfl) (by first | assumption | (simp only [go_sem, ↓reduceIte, Nat.reduceEqDiff, Nat.reduceAdd, Nat.reduceLeDiff, Nat.reduceBEq, Nat.reduceMul, Int.reduceEq, Int.reduceLT, Int.reduceLE, decide_true, decide_false, Bool.not_true, Bool.not_false, hi, g1, g2, g3, g4, g5, w1, w2, w3, w4]; rfl) | (simp only [go_sem, ↓reduceIte, Nat.reduceEqDiff, Nat.reduceAdd, Nat.reduceLeDiff, Nat.reduceBEq, Nat.reduceMul, Int.reduceEq, Int.reduceLT, Int.reduceLE, decide_true, decide_false, Bool.not_true, Bool.not_false, hi, g1, g2, g3, g4, g5, w1, w2, w3, w4]; done)) (by simp) (by first | assumption | exact rowsOk_nil _ | exact rowsOk_by _ | (rw [byD_cut]; exact rowsOk_by _) | (simp [rowsOk, D.one, Value.oneCell']; done)) (by first | omega | (simp; done) | (simp; omega) | (simp [byD]; omega)) ?_
      | refine aS_appR rfl rfl rfl (by first | assumption | (simp only [go_sem, ↓reduceIte, Nat.reduceEqDiff, Nat.reduceAdd, Nat.reduceLeDiff, Nat.reduceBEq, Nat.reduceMul, Int.reduceEq, Int.reduceLT, Int.reduceLE, decide_true, decide_false, Bool.not_true, Bool.not_false, hi, g1, g2, g3, g4, g5, w1, w2, w3, w4]; rfl) | (simp only [go_sem, ↓reduceIte, Nat.reduceEqDiff, Nat.reduceAdd, Nat.reduceLeDiff, Nat.reduceBEq, Nat.reduceMul, Int.reduceEq, Int.reduceLT, Int.reduceLE, decide_true, decide_false, Bool.not_true, Bool.not_false, hi, g1, g2, g3, g4, g5, w1, w2, w3, w4]; done)) (by simp) (by simp only [go_sem]; rfl) rfl (by first | assumption | exact rowsOk_nil _ | exact rowsOk_by _ | (rw [byD_cut]; exact rowsOk_by _) | (simp [rowsOk, D.one, Value.oneCell']; done)) (by first | omega | (simp; done) | (simp; omega) | (simp [byD]; omega)) ?_
      | refine aS_appNR rfl rfl rfl (by simp only [go_sem]; rfl) rfl (by first | assumption | exact rowsOk_nil _ | exact rowsOk_by _ | (rw [byD_cut]; exact rowsOk_by _) | (simp [rowsOk, D.one, Value.oneCell']; done)) (by first | omega | (simp; done) | (simp; omega) | (simp [byD]; omega)) ?_
      | refine aS_nil (by simp only [List.reverse_cons, List.reverse_nil, List.nil_append, List.cons_append, chkAll, chk1]; repeat' first | exact trivial | refine And.intro ?_ ?_ | exact .inr compat_pl | exact .inr compat_pr | exact .inr compat_nl | exact .inr compat_nr | exact .inr compat_rr | exact .inr (compat_rw (by omega)) | exact .inr (compat_wr (by omega)) | exact .inr (compat_ww (by omega)) | (refine .inr ?_; simp [compat, readE, writE, pureE, nop] <;> omega) | exact .inl (by kernel_rfl)) ?_
      | refine ao0 rfl rfl ?_
      | refine aS_call0 rfl rfl rfl ent_110 (fun h2 => raw_e G hG hr _ hl ho.pos) ?_
      | refine aq2 rfl rfl rfl ent_110 (raw_e G hG hr _ hl ho.pos) ?_
      | (refine ao2 rfl rfl rfl ent_110 (raw_e G hG hr _ hl ho.pos) ?_; rintro _ _ ⟨rfl, rfl⟩)
      | (refine ao1' rfl fun K HK => ?_; simp only [go_sem, ↓reduceIte, Nat.reduceEqDiff, Nat.reduceAdd, Nat.reduceLeDiff, Nat.reduceBEq, Nat.reduceMul, Int.reduceEq, Int.reduceLT, Int.reduceLE, decide_true, decide_false, Bool.not_true, Bool.not_false, hi, g1, g2, g3, g4, g5, w1, w2, w3, w4]; refine HK _ _ ?_; clear HK K)
      | refine ao0' rfl ?_
      | refine aw_if1 rfl ?_
      | refine aw_if0 rfl ?_
      | refine aw_skip ?_
      | refine aw_exit ?_
      | refine aw_ret ?_
      | refine thenS_n ?_
      | refine thenS_x ?_
      | refine thenS_r ?_
      | refine inB_n ?_
      | refine inB_r ?_
      | refine inB_x ?_
      | refine inB_y rfl ?_
      | (exfalso; omega)
     have e2 : ((s.pos : Int) + (c : Int) + (m : Int)).toNat = s.pos + c + m := by omega
     have e1 : ((s.pos : Int) + (c : Int)).toNat = s.pos + c := by omega
     refine ⟨by simp, endS (i := i) (ob := inOb (s.go (c + m))) (r := .sl 1 _) hl0 (low_in _ _) rfl (by simp [inOb, RS.go, hb, putL_succ, putL_zero, take_set, take_set_app, Int.add_assoc]) (by simp) (by simp [outD, cvD, cv1, upd_app]; rfl) ?_ ⟨_, ⟨by rw [hR2], rfl⟩, ?_⟩⟩
     · rw [byD_cut, e1, e2]; exact low_by _ _
     · rw [byD_cut, e1, e2, hR2, show (s.data.take (s.pos + c + m)).drop (s.pos + c) = (s.data.drop (s.pos + c)).take m by rw [List.drop_take]; congr 1; omega]
       exact fun _ _ _ _ h => h
end
section
set_option maxRecDepth 100000
set_option maxHeartbeats 2000000
set_option maxHeartbeats 1000000
attribute [local irreducible] on aOp
variable (G : Nat → D) (hG : ∀ g, low 0 (G g))
include hG
theorem inText_d (i : Nat) (s : RS) (h : List Ob) (hi : h[i]? = some (inOb s)) (ho : s.Ok) (hl : s.data.length ≤ 1000000000) :
 Does Tryz.prog G 89 h [.ptr i 0] (fun h' r => h' = h.set i (inOb (rdText s).2) ∧ r = .v (.string (rdText s).1)) := by
 have hil := (List.getElem?_eq_some_iff.1 hi).1
 refine does_of_aw Tryz.func89 rfl (Nat.le_of_ble_eq_true rfl) hG fun hl0 _ => ?_
 simp only [Tryz.ntmps89]
 repeat' first
  | refine aw_seq' ?_
  | refine aw_region' ?_
  | refine aw_block ?_
  | refine ao_nil ?_
  | (refine ao1 rfl rfl fun K HK => ?_; (try refine aOp_pick rfl ?_); simp only [go_sem, ↓reduceIte, Nat.reduceEqDiff, Nat.reduceAdd, Nat.reduceLeDiff, Nat.reduceBEq, Nat.reduceMul, Int.reduceEq, Int.reduceLT, Int.reduceLE, decide_true, decide_false, Bool.not_true, Bool.not_false, hi]; (first | refine splitB (fun hq => ?_) (fun hq => ?_) | refine splitN (fun hq => ?_) (fun hq => ?_) | (refine slc_sl (by simp only [go_sem]) rfl rfl (by first | omega | simp) (by first | omega | simp) (by simp only [go_sem]; omega) ?_) | (refine ⟨by omega, by omega, ?_⟩; first | refine row_at (by assumption) ?_ | (intro row hrow; obtain ⟨x, hx, rfl⟩ := row_inv hrow; clear hrow) | (intro row hrow)) | (refine ⟨by omega, ?_⟩; refine row_at (by assumption) ?_) | skip) <;> (refine HK _ _ ?_; clear HK K))
  | (refine aq1 rfl rfl fun K HK => ?_; (try refine aOp_pick rfl ?_); simp only [go_sem, ↓reduceIte, Nat.reduceEqDiff, Nat.reduceAdd, Nat.reduceLeDiff, Nat.reduceBEq, Nat.reduceMul, Int.reduceEq, Int.reduceLT, Int.reduceLE, decide_true, decide_false, Bool.not_true, Bool.not_false, hi]; (first | refine splitB (fun hq => ?_) (fun hq => ?_) | refine splitN (fun hq => ?_) (fun hq => ?_) | (refine slc_sl (by simp only [go_sem]) rfl rfl (by first | omega | simp) (by first | omega | simp) (by simp only [go_sem]; omega) ?_) | (refine ⟨by omega, by omega, ?_⟩; first | refine row_at (by assumption) ?_ | (intro row hrow; obtain ⟨x, hx, rfl⟩ := row_inv hrow; clear hrow) | (intro row hrow)) | (refine ⟨by omega, ?_⟩; refine row_at (by assumption) ?_) | skip) <;> (refine HK _ _ rfl ?_; clear HK K))
  | refine aq0 rfl rfl ?_
  | refine aq_nil ?_
  | (refine aw_draw mixd (by kernel_rfl) ?_)
  | refine ao_appB rfl rfl rfl rfl (by first | assumption | (simp only [go_sem, ↓reduceIte, Nat.reduceEqDiff, Nat.reduceAdd, Nat.reduceLeDiff, Nat.reduceBEq, Nat.reduceMul, Int.reduceEq, Int.reduceLT, Int.reduceLE, decide_true, decide_false, Bool.not_true, Bool.not_false, hi]; rfl) | (simp only [go_sem, ↓reduceIte, Nat.reduceEqDiff, Nat.reduceAdd, Nat.reduceLeDiff, Nat.reduceBEq, Nat.reduceMul, Int.reduceEq, Int.reduceLT, Int.reduceLE, decide_true, decide_false, Bool.not_true, Bool.not_false, hi]; done)) (by simp) (by simp only [go_sem]; rfl) (by first | assumption | (simp only [go_sem, ↓reduceIte, Nat.reduceEqDiff, Nat.reduceAdd, Nat.reduceLeDiff, Nat.reduceBEq, Nat.reduceMul, Int.reduceEq, Int.reduceLT, Int.reduceLE, decide_true, decide_false, Bool.not_true, Bool.not_false, hi]; rfl) | (simp only [go_sem, ↓reduceIte, Nat.reduceEqDiff, Nat.reduceAdd, Nat.reduceLeDiff, Nat.reduceBEq, Nat.reduceMul, Int.reduceEq, Int.reduceLT, Int.reduceLE, decide_true, decide_false, Bool.not_true, Bool.not_false, hi]; done)) (by simp) (by first | assumption | exact rowsOk_nil _ | exact rowsOk_by _ | (rw [byD_cut]; exact rowsOk_by _) | (simp [rowsOk, D.one, Value.oneCell']; done)) (by first | omega | (simp; done) | (simp; omega) | (simp [byD]; omega)) ?_
  | refine ao_appNB rfl rfl rfl rfl (by simp only [go_sem]; rfl) (by first | assumption | (simp only [go_sem, ↓reduceIte, Nat.reduceEqDiff, Nat.reduceAdd, Nat.reduceLeDiff, Nat.reduceBEq, Nat.reduceMul, Int.reduceEq, Int.reduceLT, Int.reduceLE, decide_true, decide_false, Bool.not_true, Bool.not_false, hi]; rfl) | (simp only [go_sem, ↓reduceIte, Nat.reduceEqDiff, Nat.reduceAdd, Nat.reduceLeDiff, Nat.reduceBEq, Nat.reduceMul, Int.reduceEq, Int.reduceLT, Int.reduceLE, decide_true, decide_false, Bool.not_true, Bool.not_false, hi]; done)) (by simp) (by first | assumption | exact rowsOk_nil _ | exact rowsOk_by _ | (rw [byD_cut]; exact rowsOk_by _) | (simp [rowsOk, D.one, Value.oneCell']; done)) (by first | omega | (simp; done) | (simp; omega) | (simp [byD]; omega)) ?_
  | refine ao_appR rfl rfl rfl (by first | assumption | (simp only [go_sem, ↓reduceIte, Nat.reduceEqDiff, Nat.reduceAdd, Nat.reduceLeDiff, Nat.reduceBEq, Nat.reduceMul, Int.reduceEq, Int.reduceLT, Int.reduceLE, decide_true, decide_false, Bool.not_true, Bool.not_false, hi]; rfl) | (simp only [go_sem, ↓reduceIte, Nat.reduceEqDiff, Nat.reduceAdd, Nat.reduceLeDiff, Nat.reduceBEq, Nat.reduceMul, Int.reduceEq, Int.reduceLT, Int.reduceLE, decide_true, decide_false, Bool.not_true, Bool.not_false, hi]; done)) (by simp) (by simp only [go_sem]; rfl) rfl (by first | assumption | exact rowsOk_nil _ | exact rowsOk_by _ | (rw [byD_cut]; exact rowsOk_by _) | (simp [rowsOk, D.one, Value.oneCell']; done)) (by first | omega | (simp; done) | (simp; omega) | (simp [byD]; omega)) ?_
  | refine ao_appNR rfl rfl rfl (by simp only [go_sem]; rfl) rfl (by first | assumption | exact rowsOk_nil _ | exact rowsOk_by _ | (rw [byD_cut]; exact rowsOk_by _) | (simp [rowsOk, D.one, Value.oneCell']; done)) (by first | omega | (simp; done) | (simp; omega) | (simp [byD]; omega)) ?_
  | refine ao0 rfl rfl ?_
  | refine aq2 rfl rfl rfl ent_90 (inBytes_d G hG _ _ _ hi ho hl) ?_
  | (refine ao2 rfl rfl rfl ent_90 (inBytes_d G hG _ _ _ hi ho hl) ?_; rintro _ _ ⟨rfl, rfl⟩)
  | (refine ao1' rfl fun K HK => ?_; simp only [go_sem, ↓reduceIte, Nat.reduceEqDiff, Nat.reduceAdd, Nat.reduceLeDiff, Nat.reduceBEq, Nat.reduceMul, Int.reduceEq, Int.reduceLT, Int.reduceLE, decide_true, decide_false, Bool.not_true, Bool.not_false, hi]; refine HK _ _ ?_; clear HK K)
  | refine ao0' rfl ?_
  | refine aw_if1 rfl ?_
  | refine aw_if0 rfl ?_
  | refine aw_skip ?_
  | refine aw_exit ?_
  | refine aw_ret ?_
  | refine thenS_n ?_
  | refine thenS_x ?_
  | refine thenS_r ?_
  | refine inB_n ?_
  | refine inB_r ?_
  | refine inB_x ?_
  | refine inB_y rfl ?_
  | (exfalso; omega)
 refine ao1 rfl rfl fun K HK => ?_
 simp only [go_sem, ↓reduceIte, Nat.reduceEqDiff]
 refine bst_by (by simp only [go_sem]) (by simp only [go_sem]) ?_
 refine HK _ _ ?_; clear HK K
 repeat' first
  | refine aw_seq' ?_
  | refine aw_region' ?_
  | refine aw_block ?_
  | refine ao_nil ?_
  | (refine ao1 rfl rfl fun K HK => ?_; (try refine aOp_pick rfl ?_); simp only [go_sem, ↓reduceIte, Nat.reduceEqDiff, Nat.reduceAdd, Nat.reduceLeDiff, Nat.reduceBEq, Nat.reduceMul, Int.reduceEq, Int.reduceLT, Int.reduceLE, decide_true, decide_false, Bool.not_true, Bool.not_false, hi]; (first | refine splitB (fun hq => ?_) (fun hq => ?_) | refine splitN (fun hq => ?_) (fun hq => ?_) | (refine slc_sl (by simp only [go_sem]) rfl rfl (by first | omega | simp) (by first | omega | simp) (by simp only [go_sem]; omega) ?_) | (refine ⟨by omega, by omega, ?_⟩; first | refine row_at (by assumption) ?_ | (intro row hrow; obtain ⟨x, hx, rfl⟩ := row_inv hrow; clear hrow) | (intro row hrow)) | (refine ⟨by omega, ?_⟩; refine row_at (by assumption) ?_) | skip) <;> (refine HK _ _ ?_; clear HK K))
  | (refine aq1 rfl rfl fun K HK => ?_; (try refine aOp_pick rfl ?_); simp only [go_sem, ↓reduceIte, Nat.reduceEqDiff, Nat.reduceAdd, Nat.reduceLeDiff, Nat.reduceBEq, Nat.reduceMul, Int.reduceEq, Int.reduceLT, Int.reduceLE, decide_true, decide_false, Bool.not_true, Bool.not_false, hi]; (first | refine splitB (fun hq => ?_) (fun hq => ?_) | refine splitN (fun hq => ?_) (fun hq => ?_) | (refine slc_sl (by simp only [go_sem]) rfl rfl (by first | omega | simp) (by first | omega | simp) (by simp only [go_sem]; omega) ?_) | (refine ⟨by omega, by omega, ?_⟩; first | refine row_at (by assumption) ?_ | (intro row hrow; obtain ⟨x, hx, rfl⟩ := row_inv hrow; clear hrow) | (intro row hrow)) | (refine ⟨by omega, ?_⟩; refine row_at (by assumption) ?_) | skip) <;> (refine HK _ _ rfl ?_; clear HK K))
  | refine aq0 rfl rfl ?_
  | refine aq_nil ?_
  | (refine aw_draw mixd (by kernel_rfl) ?_)
  | refine ao_appB rfl rfl rfl rfl (by first | assumption | (simp only [go_sem, ↓reduceIte, Nat.reduceEqDiff, Nat.reduceAdd, Nat.reduceLeDiff, Nat.reduceBEq, Nat.reduceMul, Int.reduceEq, Int.reduceLT, Int.reduceLE, decide_true, decide_false, Bool.not_true, Bool.not_false, hi]; rfl) | (simp only [go_sem, ↓reduceIte, Nat.reduceEqDiff, Nat.reduceAdd, Nat.reduceLeDiff, Nat.reduceBEq, Nat.reduceMul, Int.reduceEq, Int.reduceLT, Int.reduceLE, decide_true, decide_false, Bool.not_true, Bool.not_false, hi]; done)) (by simp) (by simp only [go_sem]; rfl) (by first | assumption | (simp only [go_sem, ↓reduceIte, Nat.reduceEqDiff, Nat.reduceAdd, Nat.reduceLeDiff, Nat.reduceBEq, Nat.reduceMul, Int.reduceEq, Int.reduceLT, Int.reduceLE, decide_true, decide_false, Bool.not_true, Bool.not_false, hi]; rfl) | (simp only [go_sem, ↓reduceIte, Nat.reduceEqDiff, Nat.reduceAdd, Nat.reduceLeDiff, Nat.reduceBEq, Nat.reduceMul, Int.reduceEq, Int.reduceLT, Int.reduceLE, decide_true, decide_false, Bool.not_true, Bool.not_false, hi]; done)) (by simp) (by first | assumption | exact rowsOk_nil _ | exact rowsOk_by _ | (rw [byD_cut]; exact rowsOk_by _) | (simp [rowsOk, D.one, Value.oneCell']; done)) (by first | omega | (simp; done) | (simp; omega) | (simp [byD]; omega)) ?_
  | refine ao_appNB rfl rfl rfl rfl (by simp only [go_sem]; rfl) (by first | assumption | (simp only [go_sem, ↓reduceIte, Nat.reduceEqDiff, Nat.reduceAdd, Nat.reduceLeDiff, Nat.reduceBEq, Nat.reduceMul, Int.reduceEq, Int.reduceLT, Int.reduceLE, decide_true, decide_false, Bool.not_true, Bool.not_false, hi]; rfl) | (simp only [go_sem, ↓reduceIte, Nat.reduceEqDiff, Nat.reduceAdd, Nat.reduceLeDiff, Nat.reduceBEq, Nat.reduceMul, Int.reduceEq, Int.reduceLT, Int.reduceLE, decide_true, decide_false, Bool.not_true, Bool.not_false, hi]; done)) (by simp) (by first | assumption | exact rowsOk_nil _ | exact rowsOk_by _ | (rw [byD_cut]; exact rowsOk_by _) | (simp [rowsOk, D.one, Value.oneCell']; done)) (by first | omega | (simp; done) | (simp; omega) | (simp [byD]; omega)) ?_
  | refine ao_appR rfl rfl rfl (by first | assumption | (simp only [go_sem, ↓reduceIte, Nat.reduceEqDiff, Nat.reduceAdd, Nat.reduceLeDiff, Nat.reduceBEq, Nat.reduceMul, Int.reduceEq, Int.reduceLT, Int.reduceLE, decide_true, decide_false, Bool.not_true, Bool.not_false, hi]; rfl) | (simp only [go_sem, ↓reduceIte, Nat.reduceEqDiff, Nat.reduceAdd, Nat.reduceLeDiff, Nat.reduceBEq, Nat.reduceMul, Int.reduceEq, Int.reduceLT, Int.reduceLE, decide_true, decide_false, Bool.not_true, Bool.not_false, hi]; done)) (by simp) (by simp only [go_sem]; rfl) rfl (by first | assumption | exact rowsOk_nil _ | exact rowsOk_by _ | (rw [byD_cut]; exact rowsOk_by _) | (simp [rowsOk, D.one, Value.oneCell']; done)) (by first | omega | (simp; done) | (simp; omega) | (simp [byD]; omega)) ?_
  | refine ao_appNR rfl rfl rfl (by simp only [go_sem]; rfl) rfl (by first | assumption | exact rowsOk_nil _ | exact rowsOk_by _ | (rw [byD_cut]; exact rowsOk_by _) | (simp [rowsOk, D.one, Value.oneCell']; done)) (by first | omega | (simp; done) | (simp; omega) | (simp [byD]; omega)) ?_
  | refine ao0 rfl rfl ?_
  | (refine ao1' rfl fun K HK => ?_; simp only [go_sem, ↓reduceIte, Nat.reduceEqDiff, Nat.reduceAdd, Nat.reduceLeDiff, Nat.reduceBEq, Nat.reduceMul, Int.reduceEq, Int.reduceLT, Int.reduceLE, decide_true, decide_false, Bool.not_true, Bool.not_false, hi]; refine HK _ _ ?_; clear HK K)
  | refine ao0' rfl ?_
  | refine aw_if1 rfl ?_
  | refine aw_if0 rfl ?_
  | refine aw_skip ?_
  | refine aw_exit ?_
  | refine aw_ret ?_
  | refine thenS_n ?_
  | refine thenS_x ?_
  | refine thenS_r ?_
  | refine inB_n ?_
  | refine inB_r ?_
  | refine inB_x ?_
  | refine inB_y rfl ?_
  | (exfalso; omega)
 exact ⟨by simp, endS (i := i) (ob := inOb (rdBytes s).2) (r := .v _) hl0 (low_in _ _) rfl (by simp [take_set]) (by simp) rfl (by rw [low]; trivial) ⟨rfl, rfl⟩⟩
end
section
variable {P : Program} {G : Nat → D} {h : List Ob} {f : FuncId} {args : List D}
theorem Does.drop {K K' : List Ob → D → Prop} (hG : ∀ g, low 0 (G g)) (q : Does P G f h args K) (k : ∀ h' r, K h' r → ∃ m, h.length ≤ m ∧ m ≤ h'.length ∧ lowH m (h'.take m) ∧ low m (cvD (fun i => decide (m ≤ i)) h' r) ∧ K' (h'.take m) (cvD (fun i => decide (m ≤ i)) h' r)) : Does P G f h args K' := fun w hd p vs o ha => by
 refine (q w hd p vs o ha).mono ?_
 rintro e w' ⟨v, hd', h', r, p', rfl, hK, ok, hr, ev⟩
 obtain ⟨m, h2, h3, h4, h5, h6⟩ := k _ _ hK
 obtain ⟨p2, o2, ev2, cv⟩ := ok.give fun i => decide (m ≤ i)
 have htk : (killH (fun i => decide (m ≤ i)) h').take m = h'.take m := by
  apply List.ext_getElem?
  intro i
  rw [List.getElem?_take, List.getElem?_take]
  split
  · rename_i hi
    unfold killH
    rw [List.getElem?_mapIdx]
    cases h'[i]? with
    | none => rfl
    | some ob => simp [show ¬ m ≤ i by omega]
  · rfl
 have hlk : (killH (fun i => decide (m ≤ i)) h').length = h'.length := by simp [killH]
 have o3 := o2.take (m := m) (by rw [htk]; exact h4) fun g => low_mono (Nat.zero_le _) _ (hG g)
 have ev3 := (ev.trans ev2).take o h2 (by rw [hlk]; exact h3)
 have q3 := rd_take (m := m) (by rw [hlk, ok.len]) _ _ h5 (cv _ _ hr)
 rw [htk] at o3 ev3 q3
 exact ⟨v, _, _, _, p2, rfl, h6, o3, q3, ev3⟩
theorem does_gave (hG : ∀ g, low 0 (G g)) {e n : Nat} {l : List UInt8} (la : lowL 0 args) (hn : n = l.length) (q : Does P G f [] args (fun h' r => h' = [.buf e 1 (byD l)] ∧ r = .buf 0 n)) (h : List Ob) : Does P G f h args (fun h' r => h' = h ∧ r = .sl 1 (byD l)) := by
 subst hn
 refine does_any G hG la (low_by _ _) (q.drop hG ?_) h
 rintro _ _ ⟨rfl, rfl⟩
 refine ⟨0, Nat.le_refl _, Nat.zero_le _, fun x hx => by simp at hx, ?_, ?_⟩
 · simp [cvD, cv1, byD_len, low_by]
 · simp [cvD, cv1, byD_len]
end
section
def w32 (z : Int) : Int := IntKind.u32.wrap z
def add32 (a b : Int) : Int := IntKind.u32.wrap (a + b)
def xor32 (a b : Int) : Int := IntKind.u32.wrap ((BitVec.ofInt 32 a ^^^ BitVec.ofInt 32 b).toNat : Int)
def and32 (a b : Int) : Int := IntKind.u32.wrap ((BitVec.ofInt 32 a &&& BitVec.ofInt 32 b).toNat : Int)
def or32 (a b : Int) : Int := IntKind.u32.wrap ((BitVec.ofInt 32 a ||| BitVec.ofInt 32 b).toNat : Int)
def not32 (a : Int) : Int := IntKind.u32.wrap ((BitVec.ofInt 32 4294967295 ^^^ BitVec.ofInt 32 a).toNat : Int)
def shr32 (a : Int) (n : Nat) : Int := a.fdiv (2 ^ n)
def shl32 (a : Int) (n : Nat) : Int := IntKind.u32.wrap (a * 2 ^ n)
def rotrZ (x : Int) (n : Nat) : Int := or32 (x.fdiv (2 ^ min n 32)) (IntKind.u32.wrap (x * 2 ^ min (32 - n) 32))
def zD (z : Int) : D := .v (.int .u32 z)
def be4 (a b c d : UInt8) : Int := or32 (or32 (or32 (shl32 (w32 a.toNat) 24) (shl32 (w32 b.toNat) 16)) (shl32 (w32 c.toNat) 8)) (w32 d.toNat)
def sgZ (x15 x2 x7 x16 : Int) : Int :=
 add32 (add32 (add32 (xor32 (xor32 (rotrZ x2 17) (rotrZ x2 19)) (shr32 x2 10)) x7) (xor32 (xor32 (rotrZ x15 7) (rotrZ x15 18)) (shr32 x15 3))) x16
structure W8 where
 a : Int
 b : Int
 c : Int
 d : Int
 e : Int
 f : Int
 g : Int
 h : Int
def W8.ls (x : W8) : List Int := [x.a, x.b, x.c, x.d, x.e, x.f, x.g, x.h]
def W8.add (x y : W8) : W8 := ⟨add32 x.a y.a, add32 x.b y.b, add32 x.c y.c, add32 x.d y.d, add32 x.e y.e, add32 x.f y.f, add32 x.g y.g, add32 x.h y.h⟩
def t1Z (u : W8) (k w : Int) : Int := add32 (add32 (add32 (add32 u.h (xor32 (xor32 (rotrZ u.e 6) (rotrZ u.e 11)) (rotrZ u.e 25))) (xor32 (and32 u.e u.f) (and32 (not32 u.e) u.g))) k) w
def s0Z (u : W8) : Int := xor32 (xor32 (rotrZ u.a 2) (rotrZ u.a 13)) (rotrZ u.a 22)
def majZ (u : W8) : Int := xor32 (xor32 (and32 u.a u.b) (and32 u.a u.c)) (and32 u.b u.c)
def rndZ (k w : Int) (u : W8) : W8 := ⟨add32 (t1Z u k w) (add32 (s0Z u) (majZ u)), u.a, u.b, u.c, add32 u.d (t1Z u k w), u.e, u.f, u.g⟩
def sch1 (b : List UInt8) : Nat → List Int → List Int
 | 0, W => W
 | n + 1, W => sch1 b n (W.set (15 - n) (be4 (b.getD (4 * (15 - n)) 0) (b.getD (4 * (15 - n) + 1) 0) (b.getD (4 * (15 - n) + 2) 0) (b.getD (4 * (15 - n) + 3) 0)))
def sch2 : Nat → List Int → List Int
 | 0, W => W
 | n + 1, W => sch2 n (W.set (63 - n) (sgZ (W.getD (63 - n - 15) 0) (W.getD (63 - n - 2) 0) (W.getD (63 - n - 7) 0) (W.getD (63 - n - 16) 0)))
def rndsZ (K W : List Int) : Nat → W8 → W8
 | 0, u => u
 | n + 1, u => rndsZ K W n (rndZ (K.getD (63 - n) 0) (W.getD (63 - n) 0) u)
def shaK : List Int := [0x428a2f98, 0x71374491, 0xb5c0fbcf, 0xe9b5dba5, 0x3956c25b, 0x59f111f1, 0x923f82a4, 0xab1c5ed5,
 0xd807aa98, 0x12835b01, 0x243185be, 0x550c7dc3, 0x72be5d74, 0x80deb1fe, 0x9bdc06a7, 0xc19bf174,
 0xe49b69c1, 0xefbe4786, 0x0fc19dc6, 0x240ca1cc, 0x2de92c6f, 0x4a7484aa, 0x5cb0a9dc, 0x76f988da,
 0x983e5152, 0xa831c66d, 0xb00327c8, 0xbf597fc7, 0xc6e00bf3, 0xd5a79147, 0x06ca6351, 0x14292967,
 0x27b70a85, 0x2e1b2138, 0x4d2c6dfc, 0x53380d13, 0x650a7354, 0x766a0abb, 0x81c2c92e, 0x92722c85,
 0xa2bfe8a1, 0xa81a664b, 0xc24b8b70, 0xc76c51a3, 0xd192e819, 0xd6990624, 0xf40e3585, 0x106aa070,
 0x19a4c116, 0x1e376c08, 0x2748774c, 0x34b0bcb5, 0x391c0cb3, 0x4ed8aa4a, 0x5b9cca4f, 0x682e6ff3,
 0x748f82ee, 0x78a5636f, 0x84c87814, 0x8cc70208, 0x90befffa, 0xa4506ceb, 0xbef9a3f7, 0xc67178f2]
def shaIV : W8 := ⟨0x6a09e667, 0xbb67ae85, 0x3c6ef372, 0xa54ff53a, 0x510e527f, 0x9b05688c, 0x1f83d9ab, 0x5be0cd19⟩
def schZ (b : List UInt8) : List Int := sch2 48 (sch1 b 16 (List.replicate 64 0))
def blkZ (v : W8) (b : List UInt8) : W8 := (rndsZ shaK (schZ b) 64 v).add v
def blksZ (v : W8) (l : List UInt8) : W8 := if l.length < 64 then v else blksZ (blkZ v (l.take 64)) (l.drop 64)
termination_by l.length
decreasing_by simp; omega
def zc (m : Nat) : Nat := (119 - m % 64) % 64
def be8 (n : Nat) : List UInt8 := (List.range 8).map fun j => UInt8.ofNat (n / 2 ^ (56 - 8 * j))
def padZ (b : List UInt8) (n : Nat) : List UInt8 := b ++ [128] ++ List.replicate (zc b.length) 0 ++ be8 (8 * n)
def byZ (z : Int) : UInt8 := UInt8.ofNat (IntKind.u8.wrap z).toNat
def outW (z : Int) : List UInt8 := [byZ (z.fdiv (2 ^ 24)), byZ (z.fdiv (2 ^ 16)), byZ (z.fdiv (2 ^ 8)), byZ z]
def outZ (v : W8) : List UInt8 := (v.ls.map outW).flatten
def sumZ (b : List UInt8) : List UInt8 := outZ (blksZ shaIV (padZ b b.length))
theorem sumZ_len (b : List UInt8) : (sumZ b).length = 32 := rfl
theorem wrap8_nn (z : Int) : IntKind.u8.wrap z = z % 256 := by simp [IntKind.wrap, IntKind.bits, IntKind.signed]
theorem byZ_eq (z : Int) : ((byZ z).toNat : Int) = IntKind.u8.wrap z := by
 unfold byZ; rw [wrap8_nn]; simp; omega
theorem blksZ_lt {v : W8} {l : List UInt8} (h : l.length < 64) : blksZ v l = v := by rw [blksZ, if_pos h]
theorem blksZ_ge {v : W8} {l : List UInt8} (h : 64 ≤ l.length) : blksZ v l = blksZ (blkZ v (l.take 64)) (l.drop 64) := by rw [blksZ, if_neg (by omega)]
theorem blksZ_app : ∀ (n : Nat) (v : W8) (x y : List UInt8), x.length = 64 * n → blksZ v (x ++ y) = blksZ (blksZ v x) y
 | 0, v, x, y, h => by
   obtain rfl : x = [] := List.eq_nil_of_length_eq_zero (by omega)
   rw [blksZ_lt (l := []) (by simp)]; rfl
 | n + 1, v, x, y, h => by
   rw [blksZ_ge (l := x ++ y) (by simp; omega), blksZ_ge (l := x) (by omega), List.take_append_of_le_length (by omega), List.drop_append_of_le_length (by omega)]
   exact blksZ_app n _ _ _ (by simp; omega)
def restZ (b : List UInt8) : List UInt8 := b.drop (64 * (b.length / 64))
theorem sumZ_cut (b : List UInt8) : sumZ b = outZ (blksZ (blksZ shaIV b) (padZ (restZ b) b.length)) := by
 unfold sumZ
 have e : padZ b b.length = b.take (64 * (b.length / 64)) ++ padZ (restZ b) b.length := by
  unfold padZ
  have hz : zc b.length = zc (restZ b).length := by unfold zc restZ; rw [List.length_drop]; congr 2; omega
  rw [hz, ← List.append_assoc, ← List.append_assoc, ← List.append_assoc]
  congr 3
  exact (List.take_append_drop _ _).symm
 have e2 : blksZ shaIV b = blksZ shaIV (b.take (64 * (b.length / 64))) := by
  conv => lhs; rw [← List.take_append_drop (64 * (b.length / 64)) b]
  rw [blksZ_app (b.length / 64) _ _ _ (by simp; omega)]
  exact blksZ_lt (by simp; omega)
 rw [e, blksZ_app (b.length / 64) _ _ _ (by simp; omega), e2]
/-! Keyed digests. -/
def keyZ (k : List UInt8) : List UInt8 := let k' := if 64 < k.length then sumZ k else k
 k' ++ List.replicate (64 - k'.length) 0
def xorB (x : UInt8) (k : List UInt8) : List UInt8 := k.map (· ^^^ x)
def tagZ (k m : List UInt8) : List UInt8 := sumZ (xorB 0x5c (keyZ k) ++ sumZ (xorB 0x36 (keyZ k) ++ m))
theorem tagZ_len (k m : List UInt8) : (tagZ k m).length = 32 := rfl
theorem keyZ_len (k : List UInt8) : (keyZ k).length = 64 := by
 unfold keyZ
 split
 · rfl
 · simp; omega
attribute [irreducible] schZ rndsZ blkZ sumZ tagZ
end
section
variable {P : Program} {G : Nat → D} {n : Nat} {e : Nat → D} {h : List Ob} {ops : Array Oper} {rest : List Oper} {Q : S → Prop}
theorem tri_soundE {B : Base} {a : Act} {w : World} {o : Oper} {K : Act → World → Prop} {KD : List Ob → D → Prop} {R : Exit → Act → World → Prop} (q : OpTri P G o ((opds o.op).map (ev G e)) h KD) (r : Sit G B ⟨n, e, h⟩ a w) (k : ∀ h' d, KD h' d → ∀ a' w', Sit G B ⟨n, putE n e o.dst d, h'⟩ a' w' → K a' w') : o.wp P a w K R := by
 obtain ⟨hd, p, r⟩ := r
 refine Oper.wp_mono ?_ (q a w hd p R r.defers r.ok (rdL_map r _))
 rintro a' w' ⟨v, rfl, hd', h'', d', p', hk, o', q', ev'⟩
 have := r.put o' ev' q' o.dst
 rw [put_putE] at this
 exact k _ _ hk _ _ ⟨hd', p', this⟩
theorem ao_ex {o : Oper} {KD : List Ob → D → Prop} (hw : wantedD ops o.guard e = some true) (q : OpTri P G o ((opds o.op).map (ev G e)) h KD) (k : ∀ h' d, KD h' d → ao P G ops rest Q ⟨n, putE n e o.dst d, h'⟩) : ao P G ops (o :: rest) Q ⟨n, e, h⟩ := by
 rintro B a w r R hR
 obtain ⟨hd, p, r'⟩ := id r
 unfold wpList
 rw [if_pos (wantedD_sound (o := o) r' hw)]
 exact .inl (tri_soundE q r fun h' d hk a' w' r2 => k h' d hk B a' w' r2 R hR)
end
section
section
variable {P : Program} {G : Nat → D} {n m0 : Nat} {e : Nat → D} {h : List Ob} {ops : Array Oper} {rest : List Oper} {Q : (Nat → D) → List Ob → Prop} {done : List Eff} {t : Nat} {ty : TypeId} {pos : String} {aft : Array Edge} {gd : Option (Nat × Bool)}
end
end
section
theorem putL_set {W : List Int} {k : Nat} {z : Int} (h : k < W.length) : putL (W.map zD) k [zD z] = (W.set k z).map zD := by
 apply List.ext_getElem?
 intro i
 rw [putL_get (by simp; omega), List.getElem?_map, List.getElem?_map, List.getElem?_set]
 by_cases hi : i = k
 · subst hi; simp [h]
 · rw [if_neg (by simp; omega), if_neg (fun e => hi e.symm)]
theorem aOp_iarr {P : Program} {G : Nat → D} {e : Nat → D} {h : List Ob} {K : List Ob → D → Prop} {u : TypeId} {x y : Operand} {i o k l el : Nat} {κ : IntKind} (hx : ev G e x = .ptr i o) (hy : ev G e y = .v (.int κ (k : Int))) (ha : arrT P u = some (l, el)) (hz : szT P el = some 1) (hk : k < l) (q : K h (.ptr i (o + k))) : aOp P G e h K (.indexAddr u x y) := by
 rw [aOp_iaddr, hx, hy]
 exact ⟨l, el, 1, ha, hz, by omega, by omega, by simpa using q⟩
theorem aOp_larr {P : Program} {G : Nat → D} {e : Nat → D} {h : List Ob} {K : List Ob → D → Prop} {u : TypeId} {x : Operand} {i o : Nat} {ds : List D} {d : D} (hx : ev G e x = .ptr i o) (hi : h[i]? = some (.cells ds)) (hg : getD P u ds o = some d) (q : K h d) : aOp P G e h K (.load u x) := by
 rw [aOp_load, hx]
 simp only [loadD, hi, hg]
 rw [on_some]; exact q
theorem getD_zs {P : Program} {u k : Nat} {W : List Int} {x : Int} (ha : aggT P u = some false) (hx : W[k]? = some x) : getD P u (W.map zD) (0 + k) = some (.v (.int .u32 x)) := by
 rw [getD_one ha, Nat.zero_add, List.getElem?_map, hx]; rfl
theorem putL_set0 {W : List Int} {k : Nat} {z : Int} (h : k < W.length) : putL (W.map zD) (0 + k) [.v (.int .u32 z)] = (W.set k z).map zD := by
 rw [Nat.zero_add]; exact putL_set h
theorem aOp_ilit {P : Program} {G : Nat → D} {e : Nat → D} {h : List Ob} {K : List Ob → D → Prop} {u : TypeId} {x y : Operand} {i o l el : Nat} {κ : IntKind} {z : Int} (hx : ev G e x = .ptr i o) (hy : ev G e y = .v (.int κ z)) (ha : arrT P u = some (l, el)) (hz : szT P el = some 1) (h0 : 0 ≤ z) (hk : z < (l : Int)) (q : K h (.ptr i (o + z.toNat))) : aOp P G e h K (.indexAddr u x y) := by
 rw [aOp_iaddr, hx, hy]
 exact ⟨l, el, 1, ha, hz, h0, hk, by simpa using q⟩
theorem aOp_irp {P : Program} {G : Nat → D} {e : Nat → D} {h : List Ob} {K : List Ob → D → Prop} {u : TypeId} {x y : Operand} {ds : List D} {k l el : Nat} {κ : IntKind} (hx : ev G e x = .rp ds) (hy : ev G e y = .v (.int κ (k : Int))) (ha : arrT P u = some (l, el)) (hz : szT P el = some 1) (hk : k < l) (q : K h (.rp (ds.drop k))) : aOp P G e h K (.indexAddr u x y) := by
 rw [aOp_iaddr, hx, hy]
 exact ⟨l, el, 1, ha, hz, by omega, by omega, by simpa using q⟩
theorem aOp_lrp {P : Program} {G : Nat → D} {e : Nat → D} {h : List Ob} {K : List Ob → D → Prop} {u : TypeId} {x : Operand} {ds : List D} {d : D} (hx : ev G e x = .rp ds) (hg : getD P u ds 0 = some d) (q : K h d) : aOp P G e h K (.load u x) := by
 rw [aOp_load, hx, loadD_rp, hg, on_some]; exact q
theorem getD_zd {P : Program} {u k : Nat} {W : List Int} {x : Int} (ha : aggT P u = some false) (hx : W[k]? = some x) : getD P u ((W.map zD).drop k) 0 = some (.v (.int .u32 x)) := by
 rw [getD_one ha, List.getElem?_drop, Nat.add_zero, List.getElem?_map, hx]; rfl
theorem getD_ws {P : Program} {u : TypeId} {v : W8} (ha : aggT P u = some true) (hs : szT P u = some 8) : getD P u (v.ls.map zD) 0 = some (.agg (v.ls.map zD)) := by
 rw [getD_agg ha hs (Nat.le_refl _)]; rfl
theorem aOp_stw {P : Program} {G : Nat → D} {e : Nat → D} {h : List Ob} {K : List Ob → D → Prop} {u : TypeId} {x y : Operand} {i : Nat} {ds es : List D} (hx : ev G e x = .ptr i 0) (hi : h[i]? = some (.cells ds)) (hy : ev G e y = .agg es) (hc : (es.all D.one && szT P u == some es.length) = true) (hl : es.length = ds.length) (q : K (h.set i (.cells es)) (.v undef)) : aOp P G e h K (.store u x y) := by
 rw [aOp_store, hx, hy]
 have e1 : storeD P h u (.ptr i 0) (.agg es) = some (h.set i (.cells es)) := by
  simp only [storeD, D.cells, hi, hc, if_true]
  rw [if_pos (by omega)]
  congr 3
  simp [putL, hl]
 rw [e1]; exact q
theorem aOp_lz {P : Program} {G : Nat → D} {e : Nat → D} {h : List Ob} {K : List Ob → D → Prop} {u : TypeId} {x : Operand} {i o : Nat} {ds : List D} {z : Int} (hx : ev G e x = .ptr i o) (hi : h[i]? = some (.cells ds)) (hg : getD P u ds o = some (zD z)) (q : K h (.v (.int .u32 z))) : aOp P G e h K (.load u x) := aOp_larr hx hi hg q
theorem aOp_unx {P : Program} {G : Nat → D} {e : Nat → D} {h : List Ob} {K : List Ob → D → Prop} {u : TypeId} {x : Operand} {z : Int} (hx : ev G e x = .v (.int .u32 z)) (q : K h (.v (.int .u32 (not32 z)))) : aOp P G e h K (.unOp .xor u x) := by
 have e1 : aOp P G e h K (.unOp .xor u x) = on (unD P .xor (ev G e x)) (K h) := rfl
 rw [e1, hx]
 exact q
theorem cv1_zs (S : Nat → Bool) (h : List Ob) : ∀ l : List Int, (l.map zD).map (cv1 S h) = l.map zD
 | [] => rfl
 | a :: l => by rw [List.map_cons, List.map_cons, cv1_zs S h l]; rfl
theorem cvD_zs (S : Nat → Bool) (h : List Ob) (l : List Int) : cvD S h (.agg (l.map zD)) = .agg (l.map zD) := by
 simp only [cvD, cv1_zs]
theorem resD_cell1 {P : Program} {s : S} {c t i o : Nat} {ds : List D} {d : D} (hx : s.env c = .ptr i o) (hi : s.h[i]? = some (.cells ds)) (hg : getD P t ds o = some d) : resD P s [.cell c t] = some [d] := by
 simp [resD, hx, loadD, hi, hg]
theorem all_zs : ∀ l : List Int, (l.map zD).all D.one = true
 | [] => rfl
 | a :: l => by rw [List.map_cons, List.all_cons, all_zs l]; rfl
theorem aOp_stv {P : Program} {G : Nat → D} {e : Nat → D} {h : List Ob} {K : List Ob → D → Prop} {u : TypeId} {x y : Operand} {i : Nat} {ds : List D} {v : W8} (hx : ev G e x = .ptr i 0) (hi : h[i]? = some (.cells ds)) (hy : ev G e y = .agg (v.ls.map zD)) (hs : szT P u = some 8) (hl : ds.length = 8) (q : K (h.set i (.cells (v.ls.map zD))) (.v undef)) : aOp P G e h K (.store u x y) :=
 aOp_stw hx hi hy (by rw [all_zs, hs]; rfl) (by rw [hl]; rfl) q
def addJ (V : List Int) : Nat → List Int → List Int
 | 0, U => U
 | n + 1, U => addJ V n (U.set (7 - n) (add32 (U.getD (7 - n) 0) (V.getD (7 - n) 0)))
theorem addJ_eq (u v : W8) : addJ v.ls 8 u.ls = (u.add v).ls := rfl
theorem low_zs (m : Nat) : ∀ l : List Int, lowL m (l.map zD)
 | [] => by rw [List.map_nil, lowL]; trivial
 | a :: l => by rw [List.map_cons, lowL]; exact ⟨by rw [zD, low]; trivial, low_zs m l⟩
theorem low_ws (m : Nat) (v : W8) : low m (.agg (v.ls.map zD)) := by rw [low]; exact low_zs m _
end
section
section
variable {P : Program} {G : Nat → D} {n : Nat} {e : Nat → D} {h : List Ob} {ops : Array Oper} {rest : List Oper} {Q : S → Prop} {t : Nat} {ty : TypeId} {pos : String} {aft : Array Edge} {gd : Option (Nat × Bool)}
theorem ao_make {u el k by' : Nat} {x y : Operand} {m : Nat} {zs : List D} (hw : wantedD ops gd e = some true) (ht : decide (t < n) = true) (hx : ev G e x = .v (.int .i64 m)) (hy : ev G e y = .v (.int .i64 m)) (ha : apT P u = some (el, k, by')) (hz : zeroD P el = some zs) (hk : zs.length = k) (hb : (by' : Int) * m ≤ 281474976710656) (hm : m ≤ 1000000)
 (q : ao P G ops rest Q ⟨n, upd e t (.buf h.length m), h ++ [.buf el k (List.replicate m zs)]⟩) : ao P G ops (⟨some t, .makeSlice u x y, ty, pos, aft, gd⟩ :: rest) Q ⟨n, e, h⟩ := by
 have hN : nF P G e h (.makeSlice u x y) = some (h ++ [.buf el k (List.replicate m zs)], .buf h.length m) := by
  show makF P h u (ev G e x) (ev G e y) = _
  rw [hx, hy]
  have c1 : decide ((0 : Int) ≤ (m : Int)) = true := decide_eq_true (by omega)
  have c2 : decide ((m : Int) ≤ (m : Int)) = true := decide_eq_true (by omega)
  have c3 : decide ((by' : Int) * (m : Int) ≤ 281474976710656) = true := decide_eq_true hb
  have c4 : decide ((m : Int) ≤ 281474976710656) = true := decide_eq_true (by omega)
  have c5 : decide (zs.length = k) = true := decide_eq_true hk
  simp only [makF, ha, hz, c1, c2, c3, c4, c5, Bool.and_self, cond_true, Int.toNat_natCast]
 refine ao_tri hw (nF_sound hN) ?_
 unfold putE
 simp only [if_pos (of_decide_eq_true ht)]
 exact q
end
end
section
section
variable {P : Program} {G : Nat → D} {e : Nat → D} {h : List Ob}
theorem sl_news {k : Nat} {W : World} {hd : List Value} {ys : List (List D)} {u : Value} (q : rd hd h W (.sl k ys) u) : ∃ ad cap news, u = .slice ad ys.length cap ∧ (ad = none → cap = 0 ∧ ys = []) ∧ rdL hd h W ys.flatten news ∧ news.length = ys.length * k ∧ ys.length ≤ cap ∧ ∀ a, ad = some a → ys ≠ [] → a.spot = none ∧ ∀ (j : Nat) v, news[j]? = some v → W.cell? ⟨a.block, a.off + j, none⟩ = some v := by
 rw [rd] at q
 obtain ⟨ad, cap, rfl, ⟨h1, h1'⟩, h2, h3⟩ := q
 obtain ⟨news, n1, n2, n3⟩ := rows_news ad ys 0 h3
 refine ⟨ad, cap, news, rfl, fun h => ⟨h1 h, List.eq_nil_of_length_eq_zero (by have := h1 h; omega)⟩, n1, n2, h1', fun a ha hne => ?_⟩
 subst ha
 cases ys with
 | nil => exact absurd rfl hne
 | cons row t =>
  rw [rdRows] at h3
  obtain ⟨⟨b, q0, e, _⟩, _⟩ := h3
  cases e
  exact ⟨rfl, fun j v hj => by have := n3 b q0 rfl j v hj; simpa using this⟩
theorem addr_at {a : Addr} (h : a.spot = none) (n : Nat) : a.add n = ⟨a.block, a.off + n, none⟩ := by
 unfold Addr.add
 split
 · rename_i h0; subst h0; cases a; simp_all
 · rfl
theorem tri_cpArr {dst : Option Nat} {t u ty : TypeId} {x y : Operand} {pos : String} {aft : Array Edge} {gd : Option (Nat × Bool)} {i o n c : Nat} {ds : List D} {ys : List (List D)}
 (hx : ev G e x = .arr i o n c 1) (hy : ev G e y = .sl 1 ys) (he : (elT P t).bind (szT P) = some 1) (hi : h[i]? = some (.cells ds)) (hn : ys.length ≤ n) (hf : o + n ≤ ds.length) (ho : rowsOk 1 ys) :
 OpTri P G ⟨dst, .call ⟨.builtin .copy, #[x, y], #[t, u]⟩, ty, pos, aft, gd⟩ ((opds (.call ⟨.builtin .copy, #[x, y], #[t, u]⟩)).map (ev G e)) h (fun h' r => h' = h.set i (.cells (putL ds o ys.flatten)) ∧ r = .v (.int .i64 ys.length)) :=
 tri_intro fun a w hd p ok ha => by
 have hox : opds (.call ⟨.builtin .copy, #[x, y], #[t, u]⟩) = [x, y] := by simp [opds, Op.operands, Call.operands]
 have q1 := ha x (by rw [hox]; simp)
 have q2 := ha y (by rw [hox]; simp)
 rw [hx, rd] at q1
 obtain ⟨B, hB, e1⟩ := q1
 rw [hy] at q2
 obtain ⟨ad, cap, news, e2, g1, g2, g3, g4, g5⟩ := sl_news q2
 obtain ⟨B', cs, tt, hB', o2, o3, o4⟩ := ok.ob i _ _ hi hB
 cases hB'
 obtain ⟨el, h1, h2⟩ := el_bind he
 have hu := elT_spec h1
 have hs : (P.info? el).map (·.size) = some 1 := by
  unfold szT at h2; exact h2
 have hl3 : ds.length = cs.size := by simpa using rdL_len o3
 have hnl : news.length = ys.length := by omega
 have ones := rowsOk_ones ho
 have hones := rdL_ones g2 ones
 have hfl : ys.flatten.length = ys.length := by rw [rdL_len g2, hnl]
 have res := ok.repl (w' := w.setRow B (putL cs.toList o news).toArray) (ob' := .cells (putL ds o ys.flatten)) (u' := .pointer (some ⟨B, 0, none⟩)) hi hB rfl setRow_same.1 setRow_same.2.1 setRow_same.2.2.1 (Nat.le_of_eq setRow_same.2.2.2.1.symm) (fun b _ hb => setRow_same.2.2.2.2 b fun e => hb (by rw [e]; rfl)) (fun b hb => .inl hb) (fun _ _ => rfl) (fun _ _ _ e => by cases e) fun c sb => by
  exact ⟨B, _, tt, rfl, setRow_at o2, rdL_carry c sb _ _ (rdL_putL o3 g2 o), by simp [o4]⟩
 rw [show hd.set i (Value.pointer (some ⟨B, 0, none⟩)) = hd.set i (Value.pointer (some ⟨B, 0, none⟩)) from rfl] at res
 refine ⟨goInt ys.length, _, .inl (?_ : (execOp a.eval _).run P w = .ok (.value (goInt ys.length)) (w.setRow B (putL cs.toList o news).toArray)), _, _, _, _, ⟨rfl, rfl⟩, res.1, by rw [rd]; rfl, res.2⟩
 have hrun : (Builtin.copy_ #[t, u] ty #[.slice (some ⟨B, o, none⟩) n c, .slice ad ys.length cap]).run P w = .ok (goInt ys.length) (w.setRow B (putL cs.toList o news).toArray) := by
  cases ad with
  | none =>
   obtain ⟨rfl, rfl⟩ := g1 rfl
   obtain rfl : news = [] := List.eq_nil_of_length_eq_zero (by simpa using g3)
   have e0 : (putL cs.toList o ([] : List Value)).toArray = cs := by simp [putL]
   rw [e0, setRow_self w B cs tt (0, 0) o2]
   exact run_copy_nil P w t u ty el _ n c hu (by rw [hs]; rfl)
  | some a =>
   cases hys : ys with
   | nil =>
    subst hys
    obtain rfl : news = [] := List.eq_nil_of_length_eq_zero (by simpa using g3)
    have := run_copy_row (P := P) w t u ty el B o n c a 0 cap cs tt [] hu hs o2 (by simp) (by simp) (by simp; omega) (by simp)
    simpa [putL] using this
   | cons row tl =>
    rw [← hys]
    obtain ⟨k1, k2⟩ := g5 a rfl (by rw [hys]; simp)
    have := run_copy_row (P := P) w t u ty el B o n c a ys.length cap cs tt news hu hs o2 (by rw [hnl]; exact (Nat.min_eq_left hn).symm) (fun j v hj => by
     rw [addr_at k1]
     have := k2 j v hj
     rw [only_cell] at this
     split at this
     · exact this
     · cases this) (by omega) hones
    rw [hnl] at this
    unfold putL
    rw [hnl]
    exact this
 simp [execOp, resolve, invoke, builtin, e1, e2, hrun]
theorem tri_apArr {dst : Option Nat} {t ty E by' : TypeId} {x y : Operand} {pos : String} {aft : Array Edge} {gd : Option (Nat × Bool)} {i o n : Nat} {ds : List D} {ys : List (List D)}
 (hx : ev G e x = .arr i o n n 1) (hy : ev G e y = .sl 1 ys) (ha : apT P t = some (E, 1, by')) (hi : h[i]? = some (.cells ds)) (h0 : ys ≠ []) (hf : o + n ≤ ds.length) (ho : rowsOk 1 ys) (hb : (n + ys.length) * (by' + 1) ≤ 140737488355328) :
 OpTri P G ⟨dst, .call ⟨.builtin .append, #[x, y], #[t, t]⟩, ty, pos, aft, gd⟩ ((opds (.call ⟨.builtin .append, #[x, y], #[t, t]⟩)).map (ev G e)) h (fun h' r => h' = h ++ [.buf E 1 (((ds.drop o).take n).map (fun d => [d]) ++ ys)] ∧ r = .buf h.length (n + ys.length)) :=
 tri_intro fun a w hd p ok hh => by
 have hox : opds (.call ⟨.builtin .append, #[x, y], #[t, t]⟩) = [x, y] := by simp [opds, Op.operands, Call.operands]
 have q1 := hh x (by rw [hox]; simp)
 have q2 := hh y (by rw [hox]; simp)
 rw [hx, rd] at q1
 obtain ⟨B, hB, e1⟩ := q1
 rw [hy] at q2
 obtain ⟨ad, cap, news, e2, g1, g2, g3, g4, g5⟩ := sl_news q2
 obtain ⟨B', cs, tt, hB', o2, o3, o4⟩ := ok.ob i _ _ hi hB
 cases hB'
 obtain ⟨hu, inf, z, hinf, hz, hsz, hby, hzs, hpos⟩ := apT_spec ha
 have hnl : news.length = ys.length := by omega
 have hl3 : ds.length = cs.size := by simpa using rdL_len o3
 cases ad with
 | none => exact absurd (g1 rfl).2 h0
 | some ad =>
 obtain ⟨k1, k2⟩ := g5 ad rfl h0
 have hol : ((cs.toList.drop o).take n).length = n := by simp; omega
 have hy0 : 0 < ys.length := List.length_pos_iff.2 h0
 have hbs : n + ys.length ≤ 140737488355328 := Nat.le_trans (Nat.le_mul_of_pos_right _ (Nat.succ_pos _)) hb
 have hrun := run_append_grow (P := P) w t ty E inf z hu hinf hz ⟨B, o, none⟩ n n ((cs.toList.drop o).take n) (by rw [hol, hsz]; omega) (fun j v hj => by
   rw [addr_at rfl]
   rw [List.getElem?_take] at hj
   split at hj
   · rw [List.getElem?_drop] at hj
     simp [World.cell?, o2]
     simpa using hj
   · cases hj) ad ys.length cap news (by rw [hnl, hsz]; omega) (fun j v hj => by
   rw [addr_at k1]
   have := k2 j v hj
   rw [only_cell] at this
   split at this
   · exact this
   · cases this) (by omega) (by omega) (growslice_fits (by omega) (by rw [hby]; exact Nat.le_trans (Nat.mul_le_mul_left _ (Nat.le_succ _)) hb))
 have hrd : rdL hd h (only p w) (((ds.drop o).take n).map (fun d => [d]) ++ ys).flatten ((cs.toList.drop o).take n ++ news) := by
  rw [List.flatten_append, show (((ds.drop o).take n).map (fun d => [d])).flatten = (ds.drop o).take n by
   generalize (ds.drop o).take n = l
   induction l with
   | nil => rfl
   | cons a t ih => simp [ih]]
  exact rdL_append (rdL_take (rdL_drop o3 o) n) g2
 have hge := grownCap_ge w (n + ys.length) n E
 have hcm : grownCap w (n + ys.length) n E ≤ maxLen := grownCap_le_maxLen w (n + ys.length) n E (by simp only [maxLen]; omega)
 have res := ok.grow (w' := w.drew.alloc (.cells (((cs.toList.drop o).take n).toArray ++ news.toArray ++ Builtin.zeroCells z.cells (grownCap w (n + ys.length) n E - (n + ys.length))) E)) (ob := .buf E 1 (((ds.drop o).take n).map (fun d => [d]) ++ ys)) (u := .slice (some ⟨w.heap.size, 0, none⟩) (n + ys.length) (grownCap w (n + ys.length) n E)) (h1 := rfl) (h2 := rfl) (h3 := rfl) (h0 := run_drawn_ok hrun) (by simp) (fun b hb => heap_alloc_at w.drew _ hb) (fun b hb => by cases hb; rfl)
  (fun c sb => ⟨(cs.toList.drop o).take n ++ news, ⟨by simp only [List.length_append, List.length_map, hol, hnl]; simp; omega, .inr ⟨w.heap.size, _, _, by simp; omega, Nat.zero_le _, heap_alloc_new w.drew _, by simp; omega, hcm, by
    simp only [Array.size_append, List.size_toArray, size_zeroCells, hzs, hol, hnl]; omega, by
    simp only [Array.toList_append, List.append_assoc]
    rw [← List.append_assoc, List.take_append_of_le_length (by simp; omega), List.take_of_length_le (by simp; omega)]⟩⟩, rdL_carry c sb _ _ hrd, fun row hr => by
    rcases List.mem_append.1 hr with hr | hr
    · obtain ⟨d, _, rfl⟩ := List.mem_map.1 hr; rfl
    · exact (ho row hr).1, fun g hg => by cases hg; simp⟩)
 refine ⟨_, _, .inl (by simp [execOp, resolve, invoke, builtin, e1, e2, hrun]; rfl), _, _, _, _, ⟨rfl, rfl⟩, res.1, ?_, res.2⟩
 rw [rd]
 refine ⟨⟨_, _, rfl⟩, .of (ob := .buf E 1 (((ds.drop o).take n).map (fun d => [d]) ++ ys)) (by simp) rfl, fun e' k' xs' hx' => ?_⟩
 simp at hx'
 obtain ⟨rfl, rfl, rfl⟩ := hx'
 exact ⟨by simp; omega, fun _ => by rw [← ok.len]; simp⟩
theorem tri_cpBuf {dst : Option Nat} {t u ty E : TypeId} {x y : Operand} {pos : String} {aft : Array Edge} {gd : Option (Nat × Bool)} {i n : Nat} {xs ys : List (List D)}
 (hx : ev G e x = .buf i n) (hy : ev G e y = .sl 1 ys) (he : (elT P t).bind (szT P) = some 1) (hi : h[i]? = some (.buf E 1 xs)) (hxs : xs.length = n) (hn : ys.length = n) (ho : rowsOk 1 ys) :
 OpTri P G ⟨dst, .call ⟨.builtin .copy, #[x, y], #[t, u]⟩, ty, pos, aft, gd⟩ ((opds (.call ⟨.builtin .copy, #[x, y], #[t, u]⟩)).map (ev G e)) h (fun h' r => h' = h.set i (.buf E 1 ys) ∧ r = .v (.int .i64 n)) :=
 tri_intro fun a w hd p ok ha => by
 have hox : opds (.call ⟨.builtin .copy, #[x, y], #[t, u]⟩) = [x, y] := by simp [opds, Op.operands, Call.operands]
 have q1 := ha x (by rw [hox]; simp)
 have q2 := ha y (by rw [hox]; simp)
 rw [hx, rd] at q1
 obtain ⟨_, _, q1⟩ := q1
 have hv := (q1 E 1 xs hi).2 hxs
 rw [hy] at q2
 obtain ⟨ad, cap, news, e2, g1, g2, g3, g4, g5⟩ := sl_news q2
 obtain ⟨el, h1, h2⟩ := el_bind he
 have hu := elT_spec h1
 have hs : (P.info? el).map (·.size) = some 1 := by unfold szT at h2; exact h2
 obtain ⟨cs, o1, o2, o3, o4⟩ := ok.ob i _ _ hi hv
 rw [hxs] at o1
 have hnl : news.length = n := by omega
 have hones := rdL_ones g2 (rowsOk_ones ho)
 obtain ⟨inf, hinf, hisz⟩ : ∃ inf, P.info? el = some inf ∧ inf.size = 1 := by
  cases hq : P.info? el with
  | none => rw [hq] at hs; cases hs
  | some inf => rw [hq] at hs; exact ⟨inf, rfl, by simpa using hs⟩
 by_cases hn0 : n = 0
 · subst hn0
   obtain rfl : ys = [] := List.eq_nil_of_length_eq_zero hn
   obtain rfl : xs = [] := List.eq_nil_of_length_eq_zero hxs
   obtain rfl : news = [] := List.eq_nil_of_length_eq_zero hnl
   have hset : h.set i (.buf E 1 []) = h := by
    apply List.ext_getElem?
    intro j
    by_cases hij : i = j
    · subst hij; rw [List.getElem?_set_self (List.getElem?_eq_some_iff.1 hi).1, hi]
    · rw [List.getElem?_set_ne hij]
   refine ⟨goInt 0, w, .inl ?_, .same ok ⟨hset.symm, rfl⟩ (d := .v (.int .i64 0)) (by rw [rd]; rfl)⟩
   have hrun : (Builtin.copy_ #[t, u] ty #[a.eval x, .slice ad 0 cap]).run P w = .ok (goInt 0) w := by
    obtain ⟨a0, c0, e1⟩ : ∃ a0 c0, a.eval x = .slice a0 0 c0 := owns_shape o1
    rw [e1]
    cases a0 <;> cases ad <;> simp [Builtin.copy_, run_underlying hu, Builtin.lenOf, Builtin.firstCells, sizeOf, typeInfo, hinf, storeCells, loadCells, loadCellsFrom]
   have e3 : a.eval y = .slice ad 0 cap := e2
   simp [execOp, resolve, invoke, builtin, e3, hrun]
 · rcases id o1.2 with ⟨_, hz⟩ | ⟨g, cap', cur, h5, hb0, hg, hnc, hcm, hcs, htake⟩
   · exact absurd hz hn0
   cases ad with
   | none =>
    have := (g1 rfl).2
    subst this
    exact absurd hn.symm hn0
   | some aa =>
   obtain ⟨k1, k2⟩ := g5 aa rfl (by intro h; subst h; exact hn0 hn.symm)
   have hrun := run_copy_row (P := P) w t u ty el g 0 n cap' aa ys.length cap cur E news hu hs hg (by rw [hnl, hn]; exact (Nat.min_self n).symm) (fun j v hj => by
    rw [addr_at k1]
    have := k2 j v hj
    rw [only_cell] at this
    split at this
    · exact this
    · cases this) (by rw [hnl, hcs]; omega) hones
   rw [hnl] at hrun
   have e0 : (cur.toList.take 0 ++ news ++ cur.toList.drop (0 + n)) = putL cur.toList 0 news := by unfold putL; rw [hnl]
   rw [e0] at hrun
   have hfl : ys.flatten.length = n := by rw [rdL_len g2, hnl]
   have res := ok.repl (w' := w.setRow g (putL cur.toList 0 news).toArray) (ob' := .buf E 1 ys) (u' := a.eval x) hi hv rfl setRow_same.1 setRow_same.2.1 setRow_same.2.2.1 (Nat.le_of_eq setRow_same.2.2.2.1.symm) (fun b _ hb => setRow_same.2.2.2.2 b fun e => hb (by rw [h5, e]; rfl)) (fun b hb => .inl hb) (fun _ _ => rfl)
    (fun e' k' xs' e => by cases e; exact ⟨E, xs, rfl, by omega, fun _ => rfl⟩) fun c sb => ⟨news, ⟨by rw [hnl, hn]; omega, .inr ⟨g, cap', _, by rw [h5, hn], hb0, setRow_at hg, by omega, hcm, by rw [List.size_toArray, putL_len (by simp; omega)]; simpa using hcs, by
      rw [List.toList_toArray, hn, ← hnl]; simp [putL]⟩⟩, rdL_carry c sb _ _ g2, fun row hr => (ho row hr).1, fun g' hg' => by have := o4 g' hg'; simp [this]⟩
   refine ⟨goInt n, _, .inl ?_, _, _, _, _, ⟨rfl, rfl⟩, res.1, by rw [rd]; rfl, res.2⟩
   have e3 : a.eval x = .slice (some ⟨g, 0, none⟩) n cap' := h5
   simp [execOp, resolve, invoke, builtin, e3, e2, hrun]
theorem tri_slcArr {dst : Option Nat} {t ty el k n : Nat} {x : Operand} {pos : String} {aft : Array Edge} {gd : Option (Nat × Bool)} {i o : Nat}
 (hx : ev G e x = .ptr i o) (ha : arrT P t = some (n, el)) (hs : szT P el = some k) :
 OpTri P G ⟨dst, .slice t x none none none, ty, pos, aft, gd⟩ ((opds (.slice t x none none none)).map (ev G e)) h (fun h' r => h' = h ∧ r = .arr i o n n k) :=
 tri_val fun a w hd p ok hh => by
 have hox : opds (.slice t x none none none) = [x] := by simp [opds, Op.operands]
 have q1 := hh x (by rw [hox]; simp)
 rw [hx, rd] at q1
 obtain ⟨B, hB, e1⟩ := q1
 have hu : P.underlying t = some (.array n el) := by
  unfold arrT at ha
  split at ha
  · rename_i e0; cases ha; exact e0
  · cases ha
 refine ⟨.slice (some ⟨B, o, none⟩) n n, ?_, by rw [rd]; exact ⟨B, hB, rfl⟩⟩
 have h0 : (⟨B, o, none⟩ : Addr).add (0 * k) = ⟨B, o, none⟩ := by rw [Nat.zero_mul]; rfl
 simp [execOp, e1, Instr.sliceAt, run_underlying hu, Instr.sureAddr, Instr.sliceBounds, dr_size hs]
 intro _; rfl
theorem cvL {hd : List Value} {w w' : World} {p p' : Nat → Bool} {h h' : List Ob} {g : D → D} (c : ∀ d u, rd hd h (only p w) d u → rd hd h' (only p' w') (g d) u) {ds : List D} {us : List Value} (q : rdL hd h (only p w) ds us) : rdL hd h' (only p' w') (ds.map g) us := by
 obtain ⟨h1, h2⟩ := (rdL_iff _ _).1 q
 refine (rdL_iff _ _).2 ⟨by simpa using h1, fun j d hd' => ?_⟩
 rw [List.getElem?_map, Option.map_eq_some_iff] at hd'
 obtain ⟨d0, hd0, rfl⟩ := hd'
 obtain ⟨u, hu, hr⟩ := h2 j d0 hd0
 exact ⟨u, hu, c _ _ hr⟩
theorem Does.gaveIn {f : FuncId} {args : List D} {K K' : List Ob → D → Prop} (q : Does P G f h args K) (c : ∀ h' r, K h' r → ∃ i j ds, i ≠ j ∧ h'[i]? = some (.cells ds) ∧ K' ((h'.set j .dead).set i (.cells (ds.map (cvD (fun x => x == j) h')))) r) : Does P G f h args K' := fun w hd p vs o ha => by
 refine (q w hd p vs o ha).mono ?_
 rintro e w' ⟨v, hd', h', r, p', rfl, hK, ok, hr, ev⟩
 obtain ⟨i, j, ds, hij, hi, hk⟩ := c _ _ hK
 obtain ⟨p2, o2, ev2, cv⟩ := ok.give (fun x => x == j)
 rw [killH_one] at o2 ev2 cv
 have hil := (List.getElem?_eq_some_iff.1 hi).1
 have hil' : i < hd'.length := by rw [ok.len]; exact hil
 have hu : hd'[i]? = some hd'[i] := List.getElem?_eq_getElem hil'
 have hi2 : (h'.set j .dead)[i]? = some (.cells ds) := by rw [List.getElem?_set_ne (Ne.symm hij)]; exact hi
 obtain ⟨B, cs, t, e1, e2, e3, e4⟩ := ok.ob i _ _ hi hu
 have e5 := o2.ob i _ _ hi2 hu
 obtain ⟨B', cs', t', e1', e2', e3', e4'⟩ := e5
 have hBB : B' = B := by rw [e1] at e1'; cases e1'; rfl
 subst hBB
 have e6 := cvL cv e3
 have res := o2.repl (w' := w') (ob' := .cells (ds.map (cvD (fun x => x == j) h'))) (u' := hd'[i]) hi2 hu rfl rfl rfl rfl (Nat.le_refl _) (fun _ _ _ => rfl) (fun b hb => .inl hb) (fun _ _ => rfl) (fun _ _ _ e => by cases e) fun c sb => ⟨B', cs, t, e1, e2, rdL_carry c sb _ _ e6, by simp [e4']⟩
 have ev3 := ev2.trans res.2
 exact ⟨v, _, _, r, _, rfl, hk, res.1, ev3.rd ok hr, ev.trans ev3⟩
end
end
section
variable {P : Program} {G : Nat → D} {f : FuncId} {h : List Ob} {args : List D}
theorem Does.reown {K K' : List Ob → D → Prop} (q : Does P G f h args K) (c : ∀ h' r, K h' r → K' h' r ∨ ∃ i n b E k xs, h'[i]? = some (.buf E k xs) ∧ xs.length = n ∧ b ≤ n ∧ r = .win i n 0 b ∧ K' (h'.set i .dead ++ [.buf E k (xs.take b)]) (.buf h'.length b)) : Does P G f h args K' := fun w hd p vs o ha => by
 refine (q w hd p vs o ha).mono ?_
 rintro e w' ⟨v, hd', h', r, p', rfl, hK, ok, hr, ev⟩
 rcases c _ _ hK with hk | ⟨i, n, b, E, k, xs, hi, hn, hb, rfl, hk⟩
 · exact ⟨v, hd', h', r, p', rfl, hk, ok, hr, ev⟩
 · obtain ⟨o2, ev2, hr2⟩ := ok.reown hi hn hb hr
   exact ⟨v, _, _, _, _, rfl, hk, o2, hr2, ev.trans ev2⟩
mutual
theorem rnO_low0 (R : List Nat) : ∀ d, low 0 d → rnO R d = some d
 | .any, _ => by rw [rnO]
 | .v _, _ => by rw [rnO]
 | .e0, _ => by rw [rnO]
 | .sl k xs, l => by rw [low] at l; rw [rnO, rnR_low0 R xs l]
 | .agg ds, l => by rw [low] at l; rw [rnO, rnL_low0 R ds l]
 | .tup ds, l => by rw [low] at l; rw [rnO, rnL_low0 R ds l]
 | .rp ds, l => by rw [low] at l; rw [rnO, rnL_low0 R ds l]
 | .fn f ds, l => by rw [low] at l; rw [rnO, rnL_low0 R ds l]
 | .ptr i o, l => by rw [low] at l; omega
 | .buf i n, l => by rw [low] at l; omega
 | .bp i n r c, l => by rw [low] at l; omega
 | .win i n a b, l => by rw [low] at l; omega
 | .arr i o n c k, l => by rw [low] at l; omega
 | .mp i, l => by rw [low] at l; omega
theorem rnL_low0 (R : List Nat) : ∀ d, lowL 0 d → rnL R d = some d
 | [], _ => by rw [rnL]
 | d :: t, l => by rw [lowL] at l; rw [rnL, rnO_low0 R d l.1, rnL_low0 R t l.2]
theorem rnR_low0 (R : List Nat) : ∀ d, lowR 0 d → rnR R d = some d
 | [], _ => by rw [rnR]
 | d :: t, l => by rw [lowR] at l; rw [rnR, rnL_low0 R d l.1, rnR_low0 R t l.2]
end
end
end Go.Proofs.YtgkjcmglcnhpaaaGreatDoor
