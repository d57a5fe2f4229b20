/-
  What the statements of the chapter share, part 14: RI1, RI2.
-/
import Derived.Test.YtgkjcmglcnhpaaaGreatDoorO13
set_option linter.unusedVariables false
set_option linter.unusedSimpArgs false
set_option maxRecDepth 100000
set_option maxHeartbeats 8000000
namespace Go.Proofs.YtgkjcmglcnhpaaaGreatDoor
open Go.RowKit
section
set_option maxRecDepth 100000
set_option maxHeartbeats 2000000
attribute [local irreducible] on aOp
variable (G : Nat → D) (hG : ∀ g, low 0 (G g))
def inOb (s : RS) : Ob := .cells [.sl 1 (byD s.data), .v (.int .i64 s.pos), .v (.int .i64 s.item), .v (.bool (decide (s.err ≠ 0)))]
theorem rawD_none {s : RS} (q : s.num = none) : rawD s.data s.pos = .tup [.v (.int .u64 (0 : Int)), .v (.int .i64 s.pos), .v (.bool false)] := by
 have q : numF 0 (s.data.drop s.pos) = none := q
 unfold rawD; rw [q]; rfl
theorem rawD_some {s : RS} {n c : Nat} (q : s.num = some (n, c)) : rawD s.data s.pos = .tup [.v (.int .u64 n), .v (.int .i64 ((s.pos : Int) + (c : Int))), .v (.bool true)] := by
 have q : numF 0 (s.data.drop s.pos) = some (n, c) := q
 unfold rawD; rw [q]; simp [rawU]
theorem inOb_eq (s : RS) : inOb s = .cells [.sl 1 (byD s.data), .v (.int .i64 s.pos), .v (.int .i64 s.item), .v (.bool (decide (s.err ≠ 0)))] := rfl
theorem low_in (m : Nat) (s : RS) : lowOb m (inOb s) := ⟨low_by m _, by simp [lowL, low]⟩
include hG
theorem raw_e {l : List UInt8} {p : Nat} {d : D} (q : rawD l p = d) (h : List Ob) (hl : l.length ≤ 1000000000) (hp : p ≤ l.length) : Does Tryz.prog G 110 h [.sl 1 (byD l), .v (.int .i64 p)] (fun h' r => h' = h ∧ r = d) := q ▸ raw_d G hG l p hl hp h
theorem inUint_d (i : Nat) (s : RS) (h : List Ob) (hi : h[i]? = some (inOb s)) (ho : s.Ok) (hl : s.data.length ≤ 1000000000) :
 Does Tryz.prog G 109 h [.ptr i 0] (fun h' r => h' = h.set i (inOb (rdUint s).2) ∧ r = .v (.int .u64 (rdUint s).1)) := by
 have hil := (List.getElem?_eq_some_iff.1 hi).1
 have g1 := fun ob => List.getElem?_set_self (a := ob) hil
 have hi0 := hi
 rw [inOb_eq] at hi
 refine does_of_aw Tryz.func109 rfl (Nat.le_of_ble_eq_true rfl) hG fun hl0 _ => ?_
 simp only [Tryz.ntmps109]
 by_cases hb : s.err = 0
 rotate_left
 · rw [decide_eq_true hb] at hi
   repeat' first
    | refine aw_seq' ?_
    | refine aw_region' ?_
    | refine aw_block ?_
    | refine ao_nil ?_
    | (refine ao1 rfl rfl fun K HK => ?_; (try refine aOp_pick rfl ?_); simp only [go_sem, ↓reduceIte, Nat.reduceEqDiff, Nat.reduceAdd, Nat.reduceLeDiff, Nat.reduceBEq, Nat.reduceMul, Int.reduceEq, Int.reduceLT, Int.reduceLE, decide_true, decide_false, Bool.not_true, Bool.not_false, hi, g1]; (first | refine splitB (fun hq => ?_) (fun hq => ?_) | refine splitN (fun hq => ?_) (fun hq => ?_) | (refine slc_sl (by simp only [go_sem]) rfl rfl (by first | omega | simp) (by first | omega | simp) (by simp only [go_sem]; omega) ?_) | (refine ⟨by omega, by omega, ?_⟩; first | refine row_at (by assumption) ?_ | (intro row hrow; obtain ⟨x, hx, rfl⟩ := row_inv hrow; clear hrow) | (intro row hrow)) | (refine ⟨by omega, ?_⟩; refine row_at (by assumption) ?_) | skip) <;> (refine HK _ _ ?_; clear HK K))
    | (refine aq1 rfl rfl fun K HK => ?_; (try refine aOp_pick rfl ?_); simp only [go_sem, ↓reduceIte, Nat.reduceEqDiff, Nat.reduceAdd, Nat.reduceLeDiff, Nat.reduceBEq, Nat.reduceMul, Int.reduceEq, Int.reduceLT, Int.reduceLE, decide_true, decide_false, Bool.not_true, Bool.not_false, hi, g1]; (first | refine splitB (fun hq => ?_) (fun hq => ?_) | refine splitN (fun hq => ?_) (fun hq => ?_) | (refine slc_sl (by simp only [go_sem]) rfl rfl (by first | omega | simp) (by first | omega | simp) (by simp only [go_sem]; omega) ?_) | (refine ⟨by omega, by omega, ?_⟩; first | refine row_at (by assumption) ?_ | (intro row hrow; obtain ⟨x, hx, rfl⟩ := row_inv hrow; clear hrow) | (intro row hrow)) | (refine ⟨by omega, ?_⟩; refine row_at (by assumption) ?_) | skip) <;> (refine HK _ _ rfl ?_; clear HK K))
    | refine aq0 rfl rfl ?_
    | refine aq_nil ?_
    | (refine aw_draw mixd (by kernel_rfl) ?_)
    | refine ao_appB rfl rfl rfl rfl (by first | assumption | (simp only [go_sem, ↓reduceIte, Nat.reduceEqDiff, Nat.reduceAdd, Nat.reduceLeDiff, Nat.reduceBEq, Nat.reduceMul, Int.reduceEq, Int.reduceLT, Int.reduceLE, decide_true, decide_false, Bool.not_true, Bool.not_false, hi, g1]; rfl) | (simp only [go_sem, ↓reduceIte, Nat.reduceEqDiff, Nat.reduceAdd, Nat.reduceLeDiff, Nat.reduceBEq, Nat.reduceMul, Int.reduceEq, Int.reduceLT, Int.reduceLE, decide_true, decide_false, Bool.not_true, Bool.not_false, hi, g1]; done)) (by simp) (by simp only [go_sem]; rfl) (by first | assumption | (simp only [go_sem, ↓reduceIte, Nat.reduceEqDiff, Nat.reduceAdd, Nat.reduceLeDiff, Nat.reduceBEq, Nat.reduceMul, Int.reduceEq, Int.reduceLT, Int.reduceLE, decide_true, decide_false, Bool.not_true, Bool.not_false, hi, g1]; rfl) | (simp only [go_sem, ↓reduceIte, Nat.reduceEqDiff, Nat.reduceAdd, Nat.reduceLeDiff, Nat.reduceBEq, Nat.reduceMul, Int.reduceEq, Int.reduceLT, Int.reduceLE, decide_true, decide_false, Bool.not_true, Bool.not_false, hi, g1]; done)) (by simp) (by first | assumption | exact rowsOk_nil _ | exact rowsOk_by _ | (rw [byD_cut]; exact rowsOk_by _) | (simp [rowsOk, D.one, Value.oneCell']; done)) (by first | omega | (simp; done) | (simp; omega) | (simp [byD]; omega)) ?_
    | refine ao_appNB rfl rfl rfl rfl (by simp only [go_sem]; rfl) (by first | assumption | (simp only [go_sem, ↓reduceIte, Nat.reduceEqDiff, Nat.reduceAdd, Nat.reduceLeDiff, Nat.reduceBEq, Nat.reduceMul, Int.reduceEq, Int.reduceLT, Int.reduceLE, decide_true, decide_false, Bool.not_true, Bool.not_false, hi, g1]; rfl) | (simp only [go_sem, ↓reduceIte, Nat.reduceEqDiff, Nat.reduceAdd, Nat.reduceLeDiff, Nat.reduceBEq, Nat.reduceMul, Int.reduceEq, Int.reduceLT, Int.reduceLE, decide_true, decide_false, Bool.not_true, Bool.not_false, hi, g1]; done)) (by simp) (by first | assumption | exact rowsOk_nil _ | exact rowsOk_by _ | (rw [byD_cut]; exact rowsOk_by _) | (simp [rowsOk, D.one, Value.oneCell']; done)) (by first | omega | (simp; done) | (simp; omega) | (simp [byD]; omega)) ?_
    | refine ao_appR rfl rfl rfl (by first | assumption | (simp only [go_sem, ↓reduceIte, Nat.reduceEqDiff, Nat.reduceAdd, Nat.reduceLeDiff, Nat.reduceBEq, Nat.reduceMul, Int.reduceEq, Int.reduceLT, Int.reduceLE, decide_true, decide_false, Bool.not_true, Bool.not_false, hi, g1]; rfl) | (simp only [go_sem, ↓reduceIte, Nat.reduceEqDiff, Nat.reduceAdd, Nat.reduceLeDiff, Nat.reduceBEq, Nat.reduceMul, Int.reduceEq, Int.reduceLT, Int.reduceLE, decide_true, decide_false, Bool.not_true, Bool.not_false, hi, g1]; done)) (by simp) (by simp only [go_sem]; rfl) rfl (by first | assumption | exact rowsOk_nil _ | exact rowsOk_by _ | (rw [byD_cut]; exact rowsOk_by _) | (simp [rowsOk, D.one, Value.oneCell']; done)) (by first | omega | (simp; done) | (simp; omega) | (simp [byD]; omega)) ?_
    | refine ao_appNR rfl rfl rfl (by simp only [go_sem]; rfl) rfl (by first | assumption | exact rowsOk_nil _ | exact rowsOk_by _ | (rw [byD_cut]; exact rowsOk_by _) | (simp [rowsOk, D.one, Value.oneCell']; done)) (by first | omega | (simp; done) | (simp; omega) | (simp [byD]; omega)) ?_
    | refine ao0 rfl rfl ?_
    | (refine ao1' rfl fun K HK => ?_; simp only [go_sem, ↓reduceIte, Nat.reduceEqDiff, Nat.reduceAdd, Nat.reduceLeDiff, Nat.reduceBEq, Nat.reduceMul, Int.reduceEq, Int.reduceLT, Int.reduceLE, decide_true, decide_false, Bool.not_true, Bool.not_false, hi, g1]; refine HK _ _ ?_; clear HK K)
    | refine ao0' rfl ?_
    | refine aw_if1 rfl ?_
    | refine aw_if0 rfl ?_
    | refine aw_skip ?_
    | refine aw_exit ?_
    | refine aw_ret ?_
    | refine thenS_n ?_
    | refine thenS_x ?_
    | refine thenS_r ?_
    | refine inB_n ?_
    | refine inB_r ?_
    | refine inB_x ?_
    | refine inB_y rfl ?_
    | (exfalso; omega)
   refine ⟨by simp, endS (i := i) (ob := inOb s) (r := .v _) hl0 (low_in _ _) rfl (by simp [set_same hi0]) (by simp) rfl (by rw [low]; trivial) ⟨?_, ?_⟩⟩
   · unfold rdUint; rw [if_pos hb]
   · unfold rdUint; rw [if_pos hb]; rfl
 rw [decide_eq_false (fun h => h hb)] at hi
 rcases hN : s.num with _ | ⟨m, c⟩
 · have hr := rawD_none hN
   repeat' first
    | refine aw_seq' ?_
    | refine aw_region' ?_
    | refine aw_block ?_
    | refine ao_nil ?_
    | (refine ao1 rfl rfl fun K HK => ?_; (try refine aOp_pick rfl ?_); simp only [go_sem, ↓reduceIte, Nat.reduceEqDiff, Nat.reduceAdd, Nat.reduceLeDiff, Nat.reduceBEq, Nat.reduceMul, Int.reduceEq, Int.reduceLT, Int.reduceLE, decide_true, decide_false, Bool.not_true, Bool.not_false, hi, g1]; (first | refine splitB (fun hq => ?_) (fun hq => ?_) | refine splitN (fun hq => ?_) (fun hq => ?_) | (refine slc_sl (by simp only [go_sem]) rfl rfl (by first | omega | simp) (by first | omega | simp) (by simp only [go_sem]; omega) ?_) | (refine ⟨by omega, by omega, ?_⟩; first | refine row_at (by assumption) ?_ | (intro row hrow; obtain ⟨x, hx, rfl⟩ := row_inv hrow; clear hrow) | (intro row hrow)) | (refine ⟨by omega, ?_⟩; refine row_at (by assumption) ?_) | skip) <;> (refine HK _ _ ?_; clear HK K))
    | (refine aq1 rfl rfl fun K HK => ?_; (try refine aOp_pick rfl ?_); simp only [go_sem, ↓reduceIte, Nat.reduceEqDiff, Nat.reduceAdd, Nat.reduceLeDiff, Nat.reduceBEq, Nat.reduceMul, Int.reduceEq, Int.reduceLT, Int.reduceLE, decide_true, decide_false, Bool.not_true, Bool.not_false, hi, g1]; (first | refine splitB (fun hq => ?_) (fun hq => ?_) | refine splitN (fun hq => ?_) (fun hq => ?_) | (refine slc_sl (by simp only [go_sem]) rfl rfl (by first | omega | simp) (by first | omega | simp) (by simp only [go_sem]; omega) ?_) | (refine ⟨by omega, by omega, ?_⟩; first | refine row_at (by assumption) ?_ | (intro row hrow; obtain ⟨x, hx, rfl⟩ := row_inv hrow; clear hrow) | (intro row hrow)) | (refine ⟨by omega, ?_⟩; refine row_at (by assumption) ?_) | skip) <;> (refine HK _ _ rfl ?_; clear HK K))
    | refine aq0 rfl rfl ?_
    | refine aq_nil ?_
    | (refine aw_draw mixd (by kernel_rfl) ?_)
    | refine ao_appB rfl rfl rfl rfl (by first | assumption | (simp only [go_sem, ↓reduceIte, Nat.reduceEqDiff, Nat.reduceAdd, Nat.reduceLeDiff, Nat.reduceBEq, Nat.reduceMul, Int.reduceEq, Int.reduceLT, Int.reduceLE, decide_true, decide_false, Bool.not_true, Bool.not_false, hi, g1]; rfl) | (simp only [go_sem, ↓reduceIte, Nat.reduceEqDiff, Nat.reduceAdd, Nat.reduceLeDiff, Nat.reduceBEq, Nat.reduceMul, Int.reduceEq, Int.reduceLT, Int.reduceLE, decide_true, decide_false, Bool.not_true, Bool.not_false, hi, g1]; done)) (by simp) (by simp only [go_sem]; rfl) (by first | assumption | (simp only [go_sem, ↓reduceIte, Nat.reduceEqDiff, Nat.reduceAdd, Nat.reduceLeDiff, Nat.reduceBEq, Nat.reduceMul, Int.reduceEq, Int.reduceLT, Int.reduceLE, decide_true, decide_false, Bool.not_true, Bool.not_false, hi, g1]; rfl) | (simp only [go_sem, ↓reduceIte, Nat.reduceEqDiff, Nat.reduceAdd, Nat.reduceLeDiff, Nat.reduceBEq, Nat.reduceMul, Int.reduceEq, Int.reduceLT, Int.reduceLE, decide_true, decide_false, Bool.not_true, Bool.not_false, hi, g1]; done)) (by simp) (by first | assumption | exact rowsOk_nil _ | exact rowsOk_by _ | (rw [byD_cut]; exact rowsOk_by _) | (simp [rowsOk, D.one, Value.oneCell']; done)) (by first | omega | (simp; done) | (simp; omega) | (simp [byD]; omega)) ?_
    | refine ao_appNB rfl rfl rfl rfl (by simp only [go_sem]; rfl) (by first | assumption | (simp only [go_sem, ↓reduceIte, Nat.reduceEqDiff, Nat.reduceAdd, Nat.reduceLeDiff, Nat.reduceBEq, Nat.reduceMul, Int.reduceEq, Int.reduceLT, Int.reduceLE, decide_true, decide_false, Bool.not_true, Bool.not_false, hi, g1]; rfl) | (simp only [go_sem, ↓reduceIte, Nat.reduceEqDiff, Nat.reduceAdd, Nat.reduceLeDiff, Nat.reduceBEq, Nat.reduceMul, Int.reduceEq, Int.reduceLT, Int.reduceLE, decide_true, decide_false, Bool.not_true, Bool.not_false, hi, g1]; done)) (by simp) (by first | assumption | exact rowsOk_nil _ | exact rowsOk_by _ | (rw [byD_cut]; exact rowsOk_by _) | (simp [rowsOk, D.one, Value.oneCell']; done)) (by first | omega | (simp; done) | (simp; omega) | (simp [byD]; omega)) ?_
    | refine ao_appR rfl rfl rfl (by first | assumption | (simp only [go_sem, ↓reduceIte, Nat.reduceEqDiff, Nat.reduceAdd, Nat.reduceLeDiff, Nat.reduceBEq, Nat.reduceMul, Int.reduceEq, Int.reduceLT, Int.reduceLE, decide_true, decide_false, Bool.not_true, Bool.not_false, hi, g1]; rfl) | (simp only [go_sem, ↓reduceIte, Nat.reduceEqDiff, Nat.reduceAdd, Nat.reduceLeDiff, Nat.reduceBEq, Nat.reduceMul, Int.reduceEq, Int.reduceLT, Int.reduceLE, decide_true, decide_false, Bool.not_true, Bool.not_false, hi, g1]; done)) (by simp) (by simp only [go_sem]; rfl) rfl (by first | assumption | exact rowsOk_nil _ | exact rowsOk_by _ | (rw [byD_cut]; exact rowsOk_by _) | (simp [rowsOk, D.one, Value.oneCell']; done)) (by first | omega | (simp; done) | (simp; omega) | (simp [byD]; omega)) ?_
    | refine ao_appNR rfl rfl rfl (by simp only [go_sem]; rfl) rfl (by first | assumption | exact rowsOk_nil _ | exact rowsOk_by _ | (rw [byD_cut]; exact rowsOk_by _) | (simp [rowsOk, D.one, Value.oneCell']; done)) (by first | omega | (simp; done) | (simp; omega) | (simp [byD]; omega)) ?_
    | refine ao0 rfl rfl ?_
    | refine aq2 rfl rfl rfl ent_110 (raw_e G hG hr _ hl ho.pos) ?_
    | (refine ao2 rfl rfl rfl ent_110 (raw_e G hG hr _ hl ho.pos) ?_; rintro _ _ ⟨rfl, rfl⟩)
    | (refine ao1' rfl fun K HK => ?_; simp only [go_sem, ↓reduceIte, Nat.reduceEqDiff, Nat.reduceAdd, Nat.reduceLeDiff, Nat.reduceBEq, Nat.reduceMul, Int.reduceEq, Int.reduceLT, Int.reduceLE, decide_true, decide_false, Bool.not_true, Bool.not_false, hi, g1]; refine HK _ _ ?_; clear HK K)
    | refine ao0' rfl ?_
    | refine aw_if1 rfl ?_
    | refine aw_if0 rfl ?_
    | refine aw_skip ?_
    | refine aw_exit ?_
    | refine aw_ret ?_
    | refine thenS_n ?_
    | refine thenS_x ?_
    | refine thenS_r ?_
    | refine inB_n ?_
    | refine inB_r ?_
    | refine inB_x ?_
    | refine inB_y rfl ?_
    | (exfalso; omega)
   have hR : rdUint s = (0, s.bad) := by unfold rdUint; rw [if_neg (fun h => h hb), hN]
   refine ⟨by simp, endS (i := i) (ob := inOb s.bad) (r := .v _) hl0 (low_in _ _) rfl (by simp [inOb, RS.bad, putL_succ, putL_zero, take_set, take_set_app]) (by simp) rfl (by rw [low]; trivial) ⟨by rw [hR], by rw [hR]; rfl⟩⟩
 · have hr := rawD_some hN
   repeat' first
    | refine aw_seq' ?_
    | refine aw_region' ?_
    | refine aw_block ?_
    | refine ao_nil ?_
    | (refine ao1 rfl rfl fun K HK => ?_; (try refine aOp_pick rfl ?_); simp only [go_sem, ↓reduceIte, Nat.reduceEqDiff, Nat.reduceAdd, Nat.reduceLeDiff, Nat.reduceBEq, Nat.reduceMul, Int.reduceEq, Int.reduceLT, Int.reduceLE, decide_true, decide_false, Bool.not_true, Bool.not_false, hi, g1]; (first | refine splitB (fun hq => ?_) (fun hq => ?_) | refine splitN (fun hq => ?_) (fun hq => ?_) | (refine slc_sl (by simp only [go_sem]) rfl rfl (by first | omega | simp) (by first | omega | simp) (by simp only [go_sem]; omega) ?_) | (refine ⟨by omega, by omega, ?_⟩; first | refine row_at (by assumption) ?_ | (intro row hrow; obtain ⟨x, hx, rfl⟩ := row_inv hrow; clear hrow) | (intro row hrow)) | (refine ⟨by omega, ?_⟩; refine row_at (by assumption) ?_) | skip) <;> (refine HK _ _ ?_; clear HK K))
    | (refine aq1 rfl rfl fun K HK => ?_; (try refine aOp_pick rfl ?_); simp only [go_sem, ↓reduceIte, Nat.reduceEqDiff, Nat.reduceAdd, Nat.reduceLeDiff, Nat.reduceBEq, Nat.reduceMul, Int.reduceEq, Int.reduceLT, Int.reduceLE, decide_true, decide_false, Bool.not_true, Bool.not_false, hi, g1]; (first | refine splitB (fun hq => ?_) (fun hq => ?_) | refine splitN (fun hq => ?_) (fun hq => ?_) | (refine slc_sl (by simp only [go_sem]) rfl rfl (by first | omega | simp) (by first | omega | simp) (by simp only [go_sem]; omega) ?_) | (refine ⟨by omega, by omega, ?_⟩; first | refine row_at (by assumption) ?_ | (intro row hrow; obtain ⟨x, hx, rfl⟩ := row_inv hrow; clear hrow) | (intro row hrow)) | (refine ⟨by omega, ?_⟩; refine row_at (by assumption) ?_) | skip) <;> (refine HK _ _ rfl ?_; clear HK K))
    | refine aq0 rfl rfl ?_
    | refine aq_nil ?_
    | (refine aw_draw mixd (by kernel_rfl) ?_)
    | refine ao_appB rfl rfl rfl rfl (by first | assumption | (simp only [go_sem, ↓reduceIte, Nat.reduceEqDiff, Nat.reduceAdd, Nat.reduceLeDiff, Nat.reduceBEq, Nat.reduceMul, Int.reduceEq, Int.reduceLT, Int.reduceLE, decide_true, decide_false, Bool.not_true, Bool.not_false, hi, g1]; rfl) | (simp only [go_sem, ↓reduceIte, Nat.reduceEqDiff, Nat.reduceAdd, Nat.reduceLeDiff, Nat.reduceBEq, Nat.reduceMul, Int.reduceEq, Int.reduceLT, Int.reduceLE, decide_true, decide_false, Bool.not_true, Bool.not_false, hi, g1]; done)) (by simp) (by simp only [go_sem]; rfl) (by first | assumption | (simp only [go_sem, ↓reduceIte, Nat.reduceEqDiff, Nat.reduceAdd, Nat.reduceLeDiff, Nat.reduceBEq, Nat.reduceMul, Int.reduceEq, Int.reduceLT, Int.reduceLE, decide_true, decide_false, Bool.not_true, Bool.not_false, hi, g1]; rfl) | (simp only [go_sem, ↓reduceIte, Nat.reduceEqDiff, Nat.reduceAdd, Nat.reduceLeDiff, Nat.reduceBEq, Nat.reduceMul, Int.reduceEq, Int.reduceLT, Int.reduceLE, decide_true, decide_false, Bool.not_true, Bool.not_false, hi, g1]; done)) (by simp) (by first | assumption | exact rowsOk_nil _ | exact rowsOk_by _ | (rw [byD_cut]; exact rowsOk_by _) | (simp [rowsOk, D.one, Value.oneCell']; done)) (by first | omega | (simp; done) | (simp; omega) | (simp [byD]; omega)) ?_
    | refine ao_appNB rfl rfl rfl rfl (by simp only [go_sem]; rfl) (by first | assumption | (simp only [go_sem, ↓reduceIte, Nat.reduceEqDiff, Nat.reduceAdd, Nat.reduceLeDiff, Nat.reduceBEq, Nat.reduceMul, Int.reduceEq, Int.reduceLT, Int.reduceLE, decide_true, decide_false, Bool.not_true, Bool.not_false, hi, g1]; rfl) | (simp only [go_sem, ↓reduceIte, Nat.reduceEqDiff, Nat.reduceAdd, Nat.reduceLeDiff, Nat.reduceBEq, Nat.reduceMul, Int.reduceEq, Int.reduceLT, Int.reduceLE, decide_true, decide_false, Bool.not_true, Bool.not_false, hi, g1]; done)) (by simp) (by first | assumption | exact rowsOk_nil _ | exact rowsOk_by _ | (rw [byD_cut]; exact rowsOk_by _) | (simp [rowsOk, D.one, Value.oneCell']; done)) (by first | omega | (simp; done) | (simp; omega) | (simp [byD]; omega)) ?_
    | refine ao_appR rfl rfl rfl (by first | assumption | (simp only [go_sem, ↓reduceIte, Nat.reduceEqDiff, Nat.reduceAdd, Nat.reduceLeDiff, Nat.reduceBEq, Nat.reduceMul, Int.reduceEq, Int.reduceLT, Int.reduceLE, decide_true, decide_false, Bool.not_true, Bool.not_false, hi, g1]; rfl) | (simp only [go_sem, ↓reduceIte, Nat.reduceEqDiff, Nat.reduceAdd, Nat.reduceLeDiff, Nat.reduceBEq, Nat.reduceMul, Int.reduceEq, Int.reduceLT, Int.reduceLE, decide_true, decide_false, Bool.not_true, Bool.not_false, hi, g1]; done)) (by simp) (by simp only [go_sem]; rfl) rfl (by first | assumption | exact rowsOk_nil _ | exact rowsOk_by _ | (rw [byD_cut]; exact rowsOk_by _) | (simp [rowsOk, D.one, Value.oneCell']; done)) (by first | omega | (simp; done) | (simp; omega) | (simp [byD]; omega)) ?_
    | refine ao_appNR rfl rfl rfl (by simp only [go_sem]; rfl) rfl (by first | assumption | exact rowsOk_nil _ | exact rowsOk_by _ | (rw [byD_cut]; exact rowsOk_by _) | (simp [rowsOk, D.one, Value.oneCell']; done)) (by first | omega | (simp; done) | (simp; omega) | (simp [byD]; omega)) ?_
    | refine ao0 rfl rfl ?_
    | refine aq2 rfl rfl rfl ent_110 (raw_e G hG hr _ hl ho.pos) ?_
    | (refine ao2 rfl rfl rfl ent_110 (raw_e G hG hr _ hl ho.pos) ?_; rintro _ _ ⟨rfl, rfl⟩)
    | (refine ao1' rfl fun K HK => ?_; simp only [go_sem, ↓reduceIte, Nat.reduceEqDiff, Nat.reduceAdd, Nat.reduceLeDiff, Nat.reduceBEq, Nat.reduceMul, Int.reduceEq, Int.reduceLT, Int.reduceLE, decide_true, decide_false, Bool.not_true, Bool.not_false, hi, g1]; refine HK _ _ ?_; clear HK K)
    | refine ao0' rfl ?_
    | refine aw_if1 rfl ?_
    | refine aw_if0 rfl ?_
    | refine aw_skip ?_
    | refine aw_exit ?_
    | refine aw_ret ?_
    | refine thenS_n ?_
    | refine thenS_x ?_
    | refine thenS_r ?_
    | refine inB_n ?_
    | refine inB_r ?_
    | refine inB_x ?_
    | refine inB_y rfl ?_
    | (exfalso; omega)
   have hR : rdUint s = (m, s.go c) := by unfold rdUint; rw [if_neg (fun h => h hb), hN]
   refine ⟨by simp, endS (i := i) (ob := inOb (s.go c)) (r := .v _) hl0 (low_in _ _) rfl (by simp [inOb, RS.go, hb, putL_succ, putL_zero, take_set, take_set_app]) (by simp) rfl (by rw [low]; trivial) ⟨by rw [hR], by rw [hR]⟩⟩
theorem inEnd_d (i : Nat) (s : RS) (h : List Ob) (hi : h[i]? = some (inOb s)) :
 Does Tryz.prog G 58 h [.ptr i 0] (fun h' r => h' = h ∧ r = .v (.bool (decide (s.err = 0 ∧ s.pos = s.data.length)))) := by
 rw [inOb_eq] at hi
 refine does_of_aw Tryz.func58 rfl (Nat.le_of_ble_eq_true rfl) hG fun hl0 _ => ?_
 simp only [Tryz.ntmps58]
 by_cases hb : s.err = 0
 · rw [decide_eq_false (fun h => h hb)] at hi
   repeat' first
    | refine aw_seq' ?_
    | refine aw_region' ?_
    | refine aw_block ?_
    | refine ao_nil ?_
    | (refine ao1 rfl rfl fun K HK => ?_; (try refine aOp_pick rfl ?_); simp only [go_sem, ↓reduceIte, Nat.reduceEqDiff, Nat.reduceAdd, Nat.reduceLeDiff, Nat.reduceBEq, Nat.reduceMul, Int.reduceEq, Int.reduceLT, Int.reduceLE, decide_true, decide_false, Bool.not_true, Bool.not_false, hi]; (first | refine splitB (fun hq => ?_) (fun hq => ?_) | refine splitN (fun hq => ?_) (fun hq => ?_) | (refine slc_sl (by simp only [go_sem]) rfl rfl (by first | omega | simp) (by first | omega | simp) (by simp only [go_sem]; omega) ?_) | (refine ⟨by omega, by omega, ?_⟩; first | refine row_at (by assumption) ?_ | (intro row hrow; obtain ⟨x, hx, rfl⟩ := row_inv hrow; clear hrow) | (intro row hrow)) | (refine ⟨by omega, ?_⟩; refine row_at (by assumption) ?_) | skip) <;> (refine HK _ _ ?_; clear HK K))
    | (refine aq1 rfl rfl fun K HK => ?_; (try refine aOp_pick rfl ?_); simp only [go_sem, ↓reduceIte, Nat.reduceEqDiff, Nat.reduceAdd, Nat.reduceLeDiff, Nat.reduceBEq, Nat.reduceMul, Int.reduceEq, Int.reduceLT, Int.reduceLE, decide_true, decide_false, Bool.not_true, Bool.not_false, hi]; (first | refine splitB (fun hq => ?_) (fun hq => ?_) | refine splitN (fun hq => ?_) (fun hq => ?_) | (refine slc_sl (by simp only [go_sem]) rfl rfl (by first | omega | simp) (by first | omega | simp) (by simp only [go_sem]; omega) ?_) | (refine ⟨by omega, by omega, ?_⟩; first | refine row_at (by assumption) ?_ | (intro row hrow; obtain ⟨x, hx, rfl⟩ := row_inv hrow; clear hrow) | (intro row hrow)) | (refine ⟨by omega, ?_⟩; refine row_at (by assumption) ?_) | skip) <;> (refine HK _ _ rfl ?_; clear HK K))
    | refine aq0 rfl rfl ?_
    | refine aq_nil ?_
    | (refine aw_draw mixd (by kernel_rfl) ?_)
    | refine ao_appB rfl rfl rfl rfl (by first | assumption | (simp only [go_sem, ↓reduceIte, Nat.reduceEqDiff, Nat.reduceAdd, Nat.reduceLeDiff, Nat.reduceBEq, Nat.reduceMul, Int.reduceEq, Int.reduceLT, Int.reduceLE, decide_true, decide_false, Bool.not_true, Bool.not_false, hi]; rfl) | (simp only [go_sem, ↓reduceIte, Nat.reduceEqDiff, Nat.reduceAdd, Nat.reduceLeDiff, Nat.reduceBEq, Nat.reduceMul, Int.reduceEq, Int.reduceLT, Int.reduceLE, decide_true, decide_false, Bool.not_true, Bool.not_false, hi]; done)) (by simp) (by simp only [go_sem]; rfl) (by first | assumption | (simp only [go_sem, ↓reduceIte, Nat.reduceEqDiff, Nat.reduceAdd, Nat.reduceLeDiff, Nat.reduceBEq, Nat.reduceMul, Int.reduceEq, Int.reduceLT, Int.reduceLE, decide_true, decide_false, Bool.not_true, Bool.not_false, hi]; rfl) | (simp only [go_sem, ↓reduceIte, Nat.reduceEqDiff, Nat.reduceAdd, Nat.reduceLeDiff, Nat.reduceBEq, Nat.reduceMul, Int.reduceEq, Int.reduceLT, Int.reduceLE, decide_true, decide_false, Bool.not_true, Bool.not_false, hi]; done)) (by simp) (by first | assumption | exact rowsOk_nil _ | exact rowsOk_by _ | (rw [byD_cut]; exact rowsOk_by _) | (simp [rowsOk, D.one, Value.oneCell']; done)) (by first | omega | (simp; done) | (simp; omega) | (simp [byD]; omega)) ?_
    | refine ao_appNB rfl rfl rfl rfl (by simp only [go_sem]; rfl) (by first | assumption | (simp only [go_sem, ↓reduceIte, Nat.reduceEqDiff, Nat.reduceAdd, Nat.reduceLeDiff, Nat.reduceBEq, Nat.reduceMul, Int.reduceEq, Int.reduceLT, Int.reduceLE, decide_true, decide_false, Bool.not_true, Bool.not_false, hi]; rfl) | (simp only [go_sem, ↓reduceIte, Nat.reduceEqDiff, Nat.reduceAdd, Nat.reduceLeDiff, Nat.reduceBEq, Nat.reduceMul, Int.reduceEq, Int.reduceLT, Int.reduceLE, decide_true, decide_false, Bool.not_true, Bool.not_false, hi]; done)) (by simp) (by first | assumption | exact rowsOk_nil _ | exact rowsOk_by _ | (rw [byD_cut]; exact rowsOk_by _) | (simp [rowsOk, D.one, Value.oneCell']; done)) (by first | omega | (simp; done) | (simp; omega) | (simp [byD]; omega)) ?_
    | refine ao_appR rfl rfl rfl (by first | assumption | (simp only [go_sem, ↓reduceIte, Nat.reduceEqDiff, Nat.reduceAdd, Nat.reduceLeDiff, Nat.reduceBEq, Nat.reduceMul, Int.reduceEq, Int.reduceLT, Int.reduceLE, decide_true, decide_false, Bool.not_true, Bool.not_false, hi]; rfl) | (simp only [go_sem, ↓reduceIte, Nat.reduceEqDiff, Nat.reduceAdd, Nat.reduceLeDiff, Nat.reduceBEq, Nat.reduceMul, Int.reduceEq, Int.reduceLT, Int.reduceLE, decide_true, decide_false, Bool.not_true, Bool.not_false, hi]; done)) (by simp) (by simp only [go_sem]; rfl) rfl (by first | assumption | exact rowsOk_nil _ | exact rowsOk_by _ | (rw [byD_cut]; exact rowsOk_by _) | (simp [rowsOk, D.one, Value.oneCell']; done)) (by first | omega | (simp; done) | (simp; omega) | (simp [byD]; omega)) ?_
    | refine ao_appNR rfl rfl rfl (by simp only [go_sem]; rfl) rfl (by first | assumption | exact rowsOk_nil _ | exact rowsOk_by _ | (rw [byD_cut]; exact rowsOk_by _) | (simp [rowsOk, D.one, Value.oneCell']; done)) (by first | omega | (simp; done) | (simp; omega) | (simp [byD]; omega)) ?_
    | refine ao0 rfl rfl ?_
    | (refine ao1' rfl fun K HK => ?_; simp only [go_sem, ↓reduceIte, Nat.reduceEqDiff, Nat.reduceAdd, Nat.reduceLeDiff, Nat.reduceBEq, Nat.reduceMul, Int.reduceEq, Int.reduceLT, Int.reduceLE, decide_true, decide_false, Bool.not_true, Bool.not_false, hi]; refine HK _ _ ?_; clear HK K)
    | refine ao0' rfl ?_
    | refine aw_if1 rfl ?_
    | refine aw_if0 rfl ?_
    | refine aw_skip ?_
    | refine aw_exit ?_
    | refine aw_ret ?_
    | refine thenS_n ?_
    | refine thenS_x ?_
    | refine thenS_r ?_
    | refine inB_n ?_
    | refine inB_r ?_
    | refine inB_x ?_
    | refine inB_y rfl ?_
    | (exfalso; omega)
   all_goals
    refine ⟨by simp, endD (r := .v _) hl0 rfl (by simp) (by simp) rfl (by rw [low]; trivial) ⟨rfl, ?_⟩⟩
    have hq' : (s.pos = s.data.length) = _ := propext ⟨fun h => (by omega : (s.pos : Int) = s.data.length), fun h => (by omega : s.pos = s.data.length)⟩
    simp [hb, hq', hq]
 · rw [decide_eq_true hb] at hi
   repeat' first
    | refine aw_seq' ?_
    | refine aw_region' ?_
    | refine aw_block ?_
    | refine ao_nil ?_
    | (refine ao1 rfl rfl fun K HK => ?_; (try refine aOp_pick rfl ?_); simp only [go_sem, ↓reduceIte, Nat.reduceEqDiff, Nat.reduceAdd, Nat.reduceLeDiff, Nat.reduceBEq, Nat.reduceMul, Int.reduceEq, Int.reduceLT, Int.reduceLE, decide_true, decide_false, Bool.not_true, Bool.not_false, hi]; (first | refine splitB (fun hq => ?_) (fun hq => ?_) | refine splitN (fun hq => ?_) (fun hq => ?_) | (refine slc_sl (by simp only [go_sem]) rfl rfl (by first | omega | simp) (by first | omega | simp) (by simp only [go_sem]; omega) ?_) | (refine ⟨by omega, by omega, ?_⟩; first | refine row_at (by assumption) ?_ | (intro row hrow; obtain ⟨x, hx, rfl⟩ := row_inv hrow; clear hrow) | (intro row hrow)) | (refine ⟨by omega, ?_⟩; refine row_at (by assumption) ?_) | skip) <;> (refine HK _ _ ?_; clear HK K))
    | (refine aq1 rfl rfl fun K HK => ?_; (try refine aOp_pick rfl ?_); simp only [go_sem, ↓reduceIte, Nat.reduceEqDiff, Nat.reduceAdd, Nat.reduceLeDiff, Nat.reduceBEq, Nat.reduceMul, Int.reduceEq, Int.reduceLT, Int.reduceLE, decide_true, decide_false, Bool.not_true, Bool.not_false, hi]; (first | refine splitB (fun hq => ?_) (fun hq => ?_) | refine splitN (fun hq => ?_) (fun hq => ?_) | (refine slc_sl (by simp only [go_sem]) rfl rfl (by first | omega | simp) (by first | omega | simp) (by simp only [go_sem]; omega) ?_) | (refine ⟨by omega, by omega, ?_⟩; first | refine row_at (by assumption) ?_ | (intro row hrow; obtain ⟨x, hx, rfl⟩ := row_inv hrow; clear hrow) | (intro row hrow)) | (refine ⟨by omega, ?_⟩; refine row_at (by assumption) ?_) | skip) <;> (refine HK _ _ rfl ?_; clear HK K))
    | refine aq0 rfl rfl ?_
    | refine aq_nil ?_
    | (refine aw_draw mixd (by kernel_rfl) ?_)
    | refine ao_appB rfl rfl rfl rfl (by first | assumption | (simp only [go_sem, ↓reduceIte, Nat.reduceEqDiff, Nat.reduceAdd, Nat.reduceLeDiff, Nat.reduceBEq, Nat.reduceMul, Int.reduceEq, Int.reduceLT, Int.reduceLE, decide_true, decide_false, Bool.not_true, Bool.not_false, hi]; rfl) | (simp only [go_sem, ↓reduceIte, Nat.reduceEqDiff, Nat.reduceAdd, Nat.reduceLeDiff, Nat.reduceBEq, Nat.reduceMul, Int.reduceEq, Int.reduceLT, Int.reduceLE, decide_true, decide_false, Bool.not_true, Bool.not_false, hi]; done)) (by simp) (by simp only [go_sem]; rfl) (by first | assumption | (simp only [go_sem, ↓reduceIte, Nat.reduceEqDiff, Nat.reduceAdd, Nat.reduceLeDiff, Nat.reduceBEq, Nat.reduceMul, Int.reduceEq, Int.reduceLT, Int.reduceLE, decide_true, decide_false, Bool.not_true, Bool.not_false, hi]; rfl) | (simp only [go_sem, ↓reduceIte, Nat.reduceEqDiff, Nat.reduceAdd, Nat.reduceLeDiff, Nat.reduceBEq, Nat.reduceMul, Int.reduceEq, Int.reduceLT, Int.reduceLE, decide_true, decide_false, Bool.not_true, Bool.not_false, hi]; done)) (by simp) (by first | assumption | exact rowsOk_nil _ | exact rowsOk_by _ | (rw [byD_cut]; exact rowsOk_by _) | (simp [rowsOk, D.one, Value.oneCell']; done)) (by first | omega | (simp; done) | (simp; omega) | (simp [byD]; omega)) ?_
    | refine ao_appNB rfl rfl rfl rfl (by simp only [go_sem]; rfl) (by first | assumption | (simp only [go_sem, ↓reduceIte, Nat.reduceEqDiff, Nat.reduceAdd, Nat.reduceLeDiff, Nat.reduceBEq, Nat.reduceMul, Int.reduceEq, Int.reduceLT, Int.reduceLE, decide_true, decide_false, Bool.not_true, Bool.not_false, hi]; rfl) | (simp only [go_sem, ↓reduceIte, Nat.reduceEqDiff, Nat.reduceAdd, Nat.reduceLeDiff, Nat.reduceBEq, Nat.reduceMul, Int.reduceEq, Int.reduceLT, Int.reduceLE, decide_true, decide_false, Bool.not_true, Bool.not_false, hi]; done)) (by simp) (by first | assumption | exact rowsOk_nil _ | exact rowsOk_by _ | (rw [byD_cut]; exact rowsOk_by _) | (simp [rowsOk, D.one, Value.oneCell']; done)) (by first | omega | (simp; done) | (simp; omega) | (simp [byD]; omega)) ?_
    | refine ao_appR rfl rfl rfl (by first | assumption | (simp only [go_sem, ↓reduceIte, Nat.reduceEqDiff, Nat.reduceAdd, Nat.reduceLeDiff, Nat.reduceBEq, Nat.reduceMul, Int.reduceEq, Int.reduceLT, Int.reduceLE, decide_true, decide_false, Bool.not_true, Bool.not_false, hi]; rfl) | (simp only [go_sem, ↓reduceIte, Nat.reduceEqDiff, Nat.reduceAdd, Nat.reduceLeDiff, Nat.reduceBEq, Nat.reduceMul, Int.reduceEq, Int.reduceLT, Int.reduceLE, decide_true, decide_false, Bool.not_true, Bool.not_false, hi]; done)) (by simp) (by simp only [go_sem]; rfl) rfl (by first | assumption | exact rowsOk_nil _ | exact rowsOk_by _ | (rw [byD_cut]; exact rowsOk_by _) | (simp [rowsOk, D.one, Value.oneCell']; done)) (by first | omega | (simp; done) | (simp; omega) | (simp [byD]; omega)) ?_
    | refine ao_appNR rfl rfl rfl (by simp only [go_sem]; rfl) rfl (by first | assumption | exact rowsOk_nil _ | exact rowsOk_by _ | (rw [byD_cut]; exact rowsOk_by _) | (simp [rowsOk, D.one, Value.oneCell']; done)) (by first | omega | (simp; done) | (simp; omega) | (simp [byD]; omega)) ?_
    | refine ao0 rfl rfl ?_
    | (refine ao1' rfl fun K HK => ?_; simp only [go_sem, ↓reduceIte, Nat.reduceEqDiff, Nat.reduceAdd, Nat.reduceLeDiff, Nat.reduceBEq, Nat.reduceMul, Int.reduceEq, Int.reduceLT, Int.reduceLE, decide_true, decide_false, Bool.not_true, Bool.not_false, hi]; refine HK _ _ ?_; clear HK K)
    | refine ao0' rfl ?_
    | refine aw_if1 rfl ?_
    | refine aw_if0 rfl ?_
    | refine aw_skip ?_
    | refine aw_exit ?_
    | refine aw_ret ?_
    | refine thenS_n ?_
    | refine thenS_x ?_
    | refine thenS_r ?_
    | refine inB_n ?_
    | refine inB_r ?_
    | refine inB_x ?_
    | refine inB_y rfl ?_
    | (exfalso; omega)
   refine ⟨by simp, endD (r := .v _) hl0 rfl (by simp) (by simp) rfl (by rw [low]; trivial) ⟨rfl, by simp [hb]⟩⟩
theorem inInt_d (i : Nat) (s : RS) (h : List Ob) (hi : h[i]? = some (inOb s)) (ho : s.Ok) (hl : s.data.length ≤ 1000000000) :
 Does Tryz.prog G 87 h [.ptr i 0] (fun h' r => h' = h.set i (inOb (rdInt s).2) ∧ r = .v (.int .i64 (rdInt s).1)) := by
 refine does_of_aw Tryz.func87 rfl (Nat.le_of_ble_eq_true rfl) hG fun hl0 _ => ?_
 simp only [Tryz.ntmps87]
 have hlt := (rdUint_ok ho).2.2
 have hc := inUint_d G hG i s h hi ho hl
 have hI : rdInt s = (unzz (rdUint s).1, (rdUint s).2) := rfl
 rw [hI]
 generalize rdUint s = ru at hc hlt ⊢
 obtain ⟨m, t⟩ := ru
 simp only at hc hlt ⊢
 have hw : IntKind.i64.wrap (((m : Nat) : Int) / 2) = (m : Int) / 2 := IntWalk.i64_in _ (by omega)
 have hw0 : IntKind.u64.wrap ((m : Int) / 2) = (m : Int) / 2 := by rw [IntKind.wrap_u64]; omega
 have hw2 : IntKind.i64.wrap (0 - ((m : Int) / 2)) = 0 - ((m : Int) / 2) := IntWalk.i64_in _ (by omega)
 have hw3 : IntKind.i64.wrap (0 - ((m : Int) / 2) - 1) = 0 - ((m : Int) / 2) - 1 := IntWalk.i64_in _ (by omega)
 have ht : (m : Int).tmod 2 = (m : Int) % 2 := by rw [Int.tmod_eq_emod_of_nonneg (by omega)]
 have hv : (m : Int).tdiv 2 = (m : Int) / 2 := by rw [Int.tdiv_eq_ediv_of_nonneg (by omega)]
 repeat' first
  | refine aw_seq' ?_
  | refine aw_region' ?_
  | refine aw_block ?_
  | refine ao_nil ?_
  | (refine ao1 rfl rfl fun K HK => ?_; (try refine aOp_pick rfl ?_); simp only [go_sem, ↓reduceIte, Nat.reduceEqDiff, Nat.reduceAdd, Nat.reduceLeDiff, Nat.reduceBEq, Nat.reduceMul, Int.reduceEq, Int.reduceLT, Int.reduceLE, decide_true, decide_false, Bool.not_true, Bool.not_false, hw, hw0, hw2, hw3, ht, hv, Int.reduceBEq]; (first | refine splitB (fun hq => ?_) (fun hq => ?_) | refine splitN (fun hq => ?_) (fun hq => ?_) | (refine slc_sl (by simp only [go_sem]) rfl rfl (by first | omega | simp) (by first | omega | simp) (by simp only [go_sem]; omega) ?_) | (refine ⟨by omega, by omega, ?_⟩; first | refine row_at (by assumption) ?_ | (intro row hrow; obtain ⟨x, hx, rfl⟩ := row_inv hrow; clear hrow) | (intro row hrow)) | (refine ⟨by omega, ?_⟩; refine row_at (by assumption) ?_) | skip) <;> (refine HK _ _ ?_; clear HK K))
  | (refine aq1 rfl rfl fun K HK => ?_; (try refine aOp_pick rfl ?_); simp only [go_sem, ↓reduceIte, Nat.reduceEqDiff, Nat.reduceAdd, Nat.reduceLeDiff, Nat.reduceBEq, Nat.reduceMul, Int.reduceEq, Int.reduceLT, Int.reduceLE, decide_true, decide_false, Bool.not_true, Bool.not_false, hw, hw0, hw2, hw3, ht, hv, Int.reduceBEq]; (first | refine splitB (fun hq => ?_) (fun hq => ?_) | refine splitN (fun hq => ?_) (fun hq => ?_) | (refine slc_sl (by simp only [go_sem]) rfl rfl (by first | omega | simp) (by first | omega | simp) (by simp only [go_sem]; omega) ?_) | (refine ⟨by omega, by omega, ?_⟩; first | refine row_at (by assumption) ?_ | (intro row hrow; obtain ⟨x, hx, rfl⟩ := row_inv hrow; clear hrow) | (intro row hrow)) | (refine ⟨by omega, ?_⟩; refine row_at (by assumption) ?_) | skip) <;> (refine HK _ _ rfl ?_; clear HK K))
  | refine aq0 rfl rfl ?_
  | refine aq_nil ?_
  | (refine aw_draw mixd (by kernel_rfl) ?_)
  | refine ao_appB rfl rfl rfl rfl (by first | assumption | (simp only [go_sem, ↓reduceIte, Nat.reduceEqDiff, Nat.reduceAdd, Nat.reduceLeDiff, Nat.reduceBEq, Nat.reduceMul, Int.reduceEq, Int.reduceLT, Int.reduceLE, decide_true, decide_false, Bool.not_true, Bool.not_false, hw, hw0, hw2, hw3, ht, hv, Int.reduceBEq]; rfl) | (simp only [go_sem, ↓reduceIte, Nat.reduceEqDiff, Nat.reduceAdd, Nat.reduceLeDiff, Nat.reduceBEq, Nat.reduceMul, Int.reduceEq, Int.reduceLT, Int.reduceLE, decide_true, decide_false, Bool.not_true, Bool.not_false, hw, hw0, hw2, hw3, ht, hv, Int.reduceBEq]; done)) (by simp) (by simp only [go_sem]; rfl) (by first | assumption | (simp only [go_sem, ↓reduceIte, Nat.reduceEqDiff, Nat.reduceAdd, Nat.reduceLeDiff, Nat.reduceBEq, Nat.reduceMul, Int.reduceEq, Int.reduceLT, Int.reduceLE, decide_true, decide_false, Bool.not_true, Bool.not_false, hw, hw0, hw2, hw3, ht, hv, Int.reduceBEq]; rfl) | (simp only [go_sem, ↓reduceIte, Nat.reduceEqDiff, Nat.reduceAdd, Nat.reduceLeDiff, Nat.reduceBEq, Nat.reduceMul, Int.reduceEq, Int.reduceLT, Int.reduceLE, decide_true, decide_false, Bool.not_true, Bool.not_false, hw, hw0, hw2, hw3, ht, hv, Int.reduceBEq]; done)) (by simp) (by first | assumption | exact rowsOk_nil _ | exact rowsOk_by _ | (rw [byD_cut]; exact rowsOk_by _) | (simp [rowsOk, D.one, Value.oneCell']; done)) (by first | omega | (simp; done) | (simp; omega) | (simp [byD]; omega)) ?_
  | refine ao_appNB rfl rfl rfl rfl (by simp only [go_sem]; rfl) (by first | assumption | (simp only [go_sem, ↓reduceIte, Nat.reduceEqDiff, Nat.reduceAdd, Nat.reduceLeDiff, Nat.reduceBEq, Nat.reduceMul, Int.reduceEq, Int.reduceLT, Int.reduceLE, decide_true, decide_false, Bool.not_true, Bool.not_false, hw, hw0, hw2, hw3, ht, hv, Int.reduceBEq]; rfl) | (simp only [go_sem, ↓reduceIte, Nat.reduceEqDiff, Nat.reduceAdd, Nat.reduceLeDiff, Nat.reduceBEq, Nat.reduceMul, Int.reduceEq, Int.reduceLT, Int.reduceLE, decide_true, decide_false, Bool.not_true, Bool.not_false, hw, hw0, hw2, hw3, ht, hv, Int.reduceBEq]; done)) (by simp) (by first | assumption | exact rowsOk_nil _ | exact rowsOk_by _ | (rw [byD_cut]; exact rowsOk_by _) | (simp [rowsOk, D.one, Value.oneCell']; done)) (by first | omega | (simp; done) | (simp; omega) | (simp [byD]; omega)) ?_
  | refine ao_appR rfl rfl rfl (by first | assumption | (simp only [go_sem, ↓reduceIte, Nat.reduceEqDiff, Nat.reduceAdd, Nat.reduceLeDiff, Nat.reduceBEq, Nat.reduceMul, Int.reduceEq, Int.reduceLT, Int.reduceLE, decide_true, decide_false, Bool.not_true, Bool.not_false, hw, hw0, hw2, hw3, ht, hv, Int.reduceBEq]; rfl) | (simp only [go_sem, ↓reduceIte, Nat.reduceEqDiff, Nat.reduceAdd, Nat.reduceLeDiff, Nat.reduceBEq, Nat.reduceMul, Int.reduceEq, Int.reduceLT, Int.reduceLE, decide_true, decide_false, Bool.not_true, Bool.not_false, hw, hw0, hw2, hw3, ht, hv, Int.reduceBEq]; done)) (by simp) (by simp only [go_sem]; rfl) rfl (by first | assumption | exact rowsOk_nil _ | exact rowsOk_by _ | (rw [byD_cut]; exact rowsOk_by _) | (simp [rowsOk, D.one, Value.oneCell']; done)) (by first | omega | (simp; done) | (simp; omega) | (simp [byD]; omega)) ?_
  | refine ao_appNR rfl rfl rfl (by simp only [go_sem]; rfl) rfl (by first | assumption | exact rowsOk_nil _ | exact rowsOk_by _ | (rw [byD_cut]; exact rowsOk_by _) | (simp [rowsOk, D.one, Value.oneCell']; done)) (by first | omega | (simp; done) | (simp; omega) | (simp [byD]; omega)) ?_
  | refine ao0 rfl rfl ?_
  | refine aq2 rfl rfl rfl ent_109 (hc) ?_
  | (refine ao2 rfl rfl rfl ent_109 (hc) ?_; rintro _ _ ⟨rfl, rfl⟩)
  | (refine ao1' rfl fun K HK => ?_; simp only [go_sem, ↓reduceIte, Nat.reduceEqDiff, Nat.reduceAdd, Nat.reduceLeDiff, Nat.reduceBEq, Nat.reduceMul, Int.reduceEq, Int.reduceLT, Int.reduceLE, decide_true, decide_false, Bool.not_true, Bool.not_false, hw, hw0, hw2, hw3, ht, hv, Int.reduceBEq]; refine HK _ _ ?_; clear HK K)
  | refine ao0' rfl ?_
  | refine aw_if1 rfl ?_
  | refine aw_if0 rfl ?_
  | refine aw_skip ?_
  | refine aw_exit ?_
  | refine aw_ret ?_
  | refine thenS_n ?_
  | refine thenS_x ?_
  | refine thenS_r ?_
  | refine inB_n ?_
  | refine inB_r ?_
  | refine inB_x ?_
  | refine inB_y rfl ?_
  | (exfalso; omega)
 all_goals
  refine ⟨by simp, endS (i := i) (ob := inOb t) (r := .v _) hl0 (low_in _ _) rfl (by simp [take_set]) (by simp) rfl (by rw [low]; trivial) ⟨rfl, ?_⟩⟩
  congr 2
  unfold unzz
  split <;> omega
end
section
set_option maxRecDepth 100000
set_option maxHeartbeats 2000000
attribute [local irreducible] on aOp
variable (G : Nat → D) (hG : ∀ g, low 0 (G g))
include hG
theorem inCount_d (i : Nat) (s : RS) (h : List Ob) (hi : h[i]? = some (inOb s)) (ho : s.Ok) (hl : s.data.length ≤ 1000000000) :
 Does Tryz.prog G 88 h [.ptr i 0] (fun h' r => h' = h.set i (inOb (rdCount s).2) ∧ r = .v (.int .i64 ((rdCount s).1 : Nat))) := by
 have hil := (List.getElem?_eq_some_iff.1 hi).1
 have hi0 := hi
 rw [inOb_eq] at hi
 obtain ⟨g1, g2, g3, g4, g5⟩ := own_get hi
 refine does_of_aw Tryz.func88 rfl (Nat.le_of_ble_eq_true rfl) hG fun hl0 _ => ?_
 simp only [Tryz.ntmps88]
 have hp := ho.pos
 by_cases hb : s.err = 0
 rotate_left
 · rw [decide_eq_true hb] at hi
   repeat' first
    | refine aw_seq' ?_
    | refine aw_region' ?_
    | refine aw_block ?_
    | refine ao_nil ?_
    | (refine ao1 rfl rfl fun K HK => ?_; (try refine aOp_pick rfl ?_); simp only [go_sem, ↓reduceIte, Nat.reduceEqDiff, Nat.reduceAdd, Nat.reduceLeDiff, Nat.reduceBEq, Nat.reduceMul, Int.reduceEq, Int.reduceLT, Int.reduceLE, decide_true, decide_false, Bool.not_true, Bool.not_false, hi, g1]; (first | refine splitB (fun hq => ?_) (fun hq => ?_) | refine splitN (fun hq => ?_) (fun hq => ?_) | (refine slc_sl (by simp only [go_sem]) rfl rfl (by first | omega | simp) (by first | omega | simp) (by simp only [go_sem]; omega) ?_) | (refine ⟨by omega, by omega, ?_⟩; first | refine row_at (by assumption) ?_ | (intro row hrow; obtain ⟨x, hx, rfl⟩ := row_inv hrow; clear hrow) | (intro row hrow)) | (refine ⟨by omega, ?_⟩; refine row_at (by assumption) ?_) | skip) <;> (refine HK _ _ ?_; clear HK K))
    | (refine aq1 rfl rfl fun K HK => ?_; (try refine aOp_pick rfl ?_); simp only [go_sem, ↓reduceIte, Nat.reduceEqDiff, Nat.reduceAdd, Nat.reduceLeDiff, Nat.reduceBEq, Nat.reduceMul, Int.reduceEq, Int.reduceLT, Int.reduceLE, decide_true, decide_false, Bool.not_true, Bool.not_false, hi, g1]; (first | refine splitB (fun hq => ?_) (fun hq => ?_) | refine splitN (fun hq => ?_) (fun hq => ?_) | (refine slc_sl (by simp only [go_sem]) rfl rfl (by first | omega | simp) (by first | omega | simp) (by simp only [go_sem]; omega) ?_) | (refine ⟨by omega, by omega, ?_⟩; first | refine row_at (by assumption) ?_ | (intro row hrow; obtain ⟨x, hx, rfl⟩ := row_inv hrow; clear hrow) | (intro row hrow)) | (refine ⟨by omega, ?_⟩; refine row_at (by assumption) ?_) | skip) <;> (refine HK _ _ rfl ?_; clear HK K))
    | refine aq0 rfl rfl ?_
    | refine aq_nil ?_
    | (refine aw_draw mixd (by kernel_rfl) ?_)
    | refine ao_appB rfl rfl rfl rfl (by first | assumption | (simp only [go_sem, ↓reduceIte, Nat.reduceEqDiff, Nat.reduceAdd, Nat.reduceLeDiff, Nat.reduceBEq, Nat.reduceMul, Int.reduceEq, Int.reduceLT, Int.reduceLE, decide_true, decide_false, Bool.not_true, Bool.not_false, hi, g1]; rfl) | (simp only [go_sem, ↓reduceIte, Nat.reduceEqDiff, Nat.reduceAdd, Nat.reduceLeDiff, Nat.reduceBEq, Nat.reduceMul, Int.reduceEq, Int.reduceLT, Int.reduceLE, decide_true, decide_false, Bool.not_true, Bool.not_false, hi, g1]; done)) (by simp) (by simp only [go_sem]; rfl) (by first | assumption | (simp only [go_sem, ↓reduceIte, Nat.reduceEqDiff, Nat.reduceAdd, Nat.reduceLeDiff, Nat.reduceBEq, Nat.reduceMul, Int.reduceEq, Int.reduceLT, Int.reduceLE, decide_true, decide_false, Bool.not_true, Bool.not_false, hi, g1]; rfl) | (simp only [go_sem, ↓reduceIte, Nat.reduceEqDiff, Nat.reduceAdd, Nat.reduceLeDiff, Nat.reduceBEq, Nat.reduceMul, Int.reduceEq, Int.reduceLT, Int.reduceLE, decide_true, decide_false, Bool.not_true, Bool.not_false, hi, g1]; done)) (by simp) (by first | assumption | exact rowsOk_nil _ | exact rowsOk_by _ | (rw [byD_cut]; exact rowsOk_by _) | (simp [rowsOk, D.one, Value.oneCell']; done)) (by first | omega | (simp; done) | (simp; omega) | (simp [byD]; omega)) ?_
    | refine ao_appNB rfl rfl rfl rfl (by simp only [go_sem]; rfl) (by first | assumption | (simp only [go_sem, ↓reduceIte, Nat.reduceEqDiff, Nat.reduceAdd, Nat.reduceLeDiff, Nat.reduceBEq, Nat.reduceMul, Int.reduceEq, Int.reduceLT, Int.reduceLE, decide_true, decide_false, Bool.not_true, Bool.not_false, hi, g1]; rfl) | (simp only [go_sem, ↓reduceIte, Nat.reduceEqDiff, Nat.reduceAdd, Nat.reduceLeDiff, Nat.reduceBEq, Nat.reduceMul, Int.reduceEq, Int.reduceLT, Int.reduceLE, decide_true, decide_false, Bool.not_true, Bool.not_false, hi, g1]; done)) (by simp) (by first | assumption | exact rowsOk_nil _ | exact rowsOk_by _ | (rw [byD_cut]; exact rowsOk_by _) | (simp [rowsOk, D.one, Value.oneCell']; done)) (by first | omega | (simp; done) | (simp; omega) | (simp [byD]; omega)) ?_
    | refine ao_appR rfl rfl rfl (by first | assumption | (simp only [go_sem, ↓reduceIte, Nat.reduceEqDiff, Nat.reduceAdd, Nat.reduceLeDiff, Nat.reduceBEq, Nat.reduceMul, Int.reduceEq, Int.reduceLT, Int.reduceLE, decide_true, decide_false, Bool.not_true, Bool.not_false, hi, g1]; rfl) | (simp only [go_sem, ↓reduceIte, Nat.reduceEqDiff, Nat.reduceAdd, Nat.reduceLeDiff, Nat.reduceBEq, Nat.reduceMul, Int.reduceEq, Int.reduceLT, Int.reduceLE, decide_true, decide_false, Bool.not_true, Bool.not_false, hi, g1]; done)) (by simp) (by simp only [go_sem]; rfl) rfl (by first | assumption | exact rowsOk_nil _ | exact rowsOk_by _ | (rw [byD_cut]; exact rowsOk_by _) | (simp [rowsOk, D.one, Value.oneCell']; done)) (by first | omega | (simp; done) | (simp; omega) | (simp [byD]; omega)) ?_
    | refine ao_appNR rfl rfl rfl (by simp only [go_sem]; rfl) rfl (by first | assumption | exact rowsOk_nil _ | exact rowsOk_by _ | (rw [byD_cut]; exact rowsOk_by _) | (simp [rowsOk, D.one, Value.oneCell']; done)) (by first | omega | (simp; done) | (simp; omega) | (simp [byD]; omega)) ?_
    | refine ao0 rfl rfl ?_
    | (refine ao1' rfl fun K HK => ?_; simp only [go_sem, ↓reduceIte, Nat.reduceEqDiff, Nat.reduceAdd, Nat.reduceLeDiff, Nat.reduceBEq, Nat.reduceMul, Int.reduceEq, Int.reduceLT, Int.reduceLE, decide_true, decide_false, Bool.not_true, Bool.not_false, hi, g1]; refine HK _ _ ?_; clear HK K)
    | refine ao0' rfl ?_
    | refine aw_if1 rfl ?_
    | refine aw_if0 rfl ?_
    | refine aw_skip ?_
    | refine aw_exit ?_
    | refine aw_ret ?_
    | refine thenS_n ?_
    | refine thenS_x ?_
    | refine thenS_r ?_
    | refine inB_n ?_
    | refine inB_r ?_
    | refine inB_x ?_
    | refine inB_y rfl ?_
    | (exfalso; omega)
   have hR : rdCount s = (0, s) := by unfold rdCount; rw [if_pos hb]
   exact ⟨by simp, endS (i := i) (ob := inOb s) (r := .v _) hl0 (low_in _ _) rfl (by simp [set_same hi0]) (by simp) rfl (by rw [low]; trivial) ⟨by rw [hR], by rw [hR]; rfl⟩⟩
 rw [decide_eq_false (fun h => h hb)] at hi
 rcases hN : s.num with _ | ⟨m, c⟩
 · have hr := rawD_none hN
   have hR : rdCount s = (0, s.bad) := by unfold rdCount; rw [if_neg (fun h => h hb), hN]
   repeat' first
    | refine aw_seq' ?_
    | refine aw_region' ?_
    | refine aw_block ?_
    | refine ao_nil ?_
    | (refine ao1 rfl rfl fun K HK => ?_; (try refine aOp_pick rfl ?_); simp only [go_sem, ↓reduceIte, Nat.reduceEqDiff, Nat.reduceAdd, Nat.reduceLeDiff, Nat.reduceBEq, Nat.reduceMul, Int.reduceEq, Int.reduceLT, Int.reduceLE, decide_true, decide_false, Bool.not_true, Bool.not_false, hi, g1]; (first | refine splitB (fun hq => ?_) (fun hq => ?_) | refine splitN (fun hq => ?_) (fun hq => ?_) | (refine slc_sl (by simp only [go_sem]) rfl rfl (by first | omega | simp) (by first | omega | simp) (by simp only [go_sem]; omega) ?_) | (refine ⟨by omega, by omega, ?_⟩; first | refine row_at (by assumption) ?_ | (intro row hrow; obtain ⟨x, hx, rfl⟩ := row_inv hrow; clear hrow) | (intro row hrow)) | (refine ⟨by omega, ?_⟩; refine row_at (by assumption) ?_) | skip) <;> (refine HK _ _ ?_; clear HK K))
    | (refine aq1 rfl rfl fun K HK => ?_; (try refine aOp_pick rfl ?_); simp only [go_sem, ↓reduceIte, Nat.reduceEqDiff, Nat.reduceAdd, Nat.reduceLeDiff, Nat.reduceBEq, Nat.reduceMul, Int.reduceEq, Int.reduceLT, Int.reduceLE, decide_true, decide_false, Bool.not_true, Bool.not_false, hi, g1]; (first | refine splitB (fun hq => ?_) (fun hq => ?_) | refine splitN (fun hq => ?_) (fun hq => ?_) | (refine slc_sl (by simp only [go_sem]) rfl rfl (by first | omega | simp) (by first | omega | simp) (by simp only [go_sem]; omega) ?_) | (refine ⟨by omega, by omega, ?_⟩; first | refine row_at (by assumption) ?_ | (intro row hrow; obtain ⟨x, hx, rfl⟩ := row_inv hrow; clear hrow) | (intro row hrow)) | (refine ⟨by omega, ?_⟩; refine row_at (by assumption) ?_) | skip) <;> (refine HK _ _ rfl ?_; clear HK K))
    | refine aq0 rfl rfl ?_
    | refine aq_nil ?_
    | (refine aw_draw mixd (by kernel_rfl) ?_)
    | refine ao_appB rfl rfl rfl rfl (by first | assumption | (simp only [go_sem, ↓reduceIte, Nat.reduceEqDiff, Nat.reduceAdd, Nat.reduceLeDiff, Nat.reduceBEq, Nat.reduceMul, Int.reduceEq, Int.reduceLT, Int.reduceLE, decide_true, decide_false, Bool.not_true, Bool.not_false, hi, g1]; rfl) | (simp only [go_sem, ↓reduceIte, Nat.reduceEqDiff, Nat.reduceAdd, Nat.reduceLeDiff, Nat.reduceBEq, Nat.reduceMul, Int.reduceEq, Int.reduceLT, Int.reduceLE, decide_true, decide_false, Bool.not_true, Bool.not_false, hi, g1]; done)) (by simp) (by simp only [go_sem]; rfl) (by first | assumption | (simp only [go_sem, ↓reduceIte, Nat.reduceEqDiff, Nat.reduceAdd, Nat.reduceLeDiff, Nat.reduceBEq, Nat.reduceMul, Int.reduceEq, Int.reduceLT, Int.reduceLE, decide_true, decide_false, Bool.not_true, Bool.not_false, hi, g1]; rfl) | (simp only [go_sem, ↓reduceIte, Nat.reduceEqDiff, Nat.reduceAdd, Nat.reduceLeDiff, Nat.reduceBEq, Nat.reduceMul, Int.reduceEq, Int.reduceLT, Int.reduceLE, decide_true, decide_false, Bool.not_true, Bool.not_false, hi, g1]; done)) (by simp) (by first | assumption | exact rowsOk_nil _ | exact rowsOk_by _ | (rw [byD_cut]; exact rowsOk_by _) | (simp [rowsOk, D.one, Value.oneCell']; done)) (by first | omega | (simp; done) | (simp; omega) | (simp [byD]; omega)) ?_
    | refine ao_appNB rfl rfl rfl rfl (by simp only [go_sem]; rfl) (by first | assumption | (simp only [go_sem, ↓reduceIte, Nat.reduceEqDiff, Nat.reduceAdd, Nat.reduceLeDiff, Nat.reduceBEq, Nat.reduceMul, Int.reduceEq, Int.reduceLT, Int.reduceLE, decide_true, decide_false, Bool.not_true, Bool.not_false, hi, g1]; rfl) | (simp only [go_sem, ↓reduceIte, Nat.reduceEqDiff, Nat.reduceAdd, Nat.reduceLeDiff, Nat.reduceBEq, Nat.reduceMul, Int.reduceEq, Int.reduceLT, Int.reduceLE, decide_true, decide_false, Bool.not_true, Bool.not_false, hi, g1]; done)) (by simp) (by first | assumption | exact rowsOk_nil _ | exact rowsOk_by _ | (rw [byD_cut]; exact rowsOk_by _) | (simp [rowsOk, D.one, Value.oneCell']; done)) (by first | omega | (simp; done) | (simp; omega) | (simp [byD]; omega)) ?_
    | refine ao_appR rfl rfl rfl (by first | assumption | (simp only [go_sem, ↓reduceIte, Nat.reduceEqDiff, Nat.reduceAdd, Nat.reduceLeDiff, Nat.reduceBEq, Nat.reduceMul, Int.reduceEq, Int.reduceLT, Int.reduceLE, decide_true, decide_false, Bool.not_true, Bool.not_false, hi, g1]; rfl) | (simp only [go_sem, ↓reduceIte, Nat.reduceEqDiff, Nat.reduceAdd, Nat.reduceLeDiff, Nat.reduceBEq, Nat.reduceMul, Int.reduceEq, Int.reduceLT, Int.reduceLE, decide_true, decide_false, Bool.not_true, Bool.not_false, hi, g1]; done)) (by simp) (by simp only [go_sem]; rfl) rfl (by first | assumption | exact rowsOk_nil _ | exact rowsOk_by _ | (rw [byD_cut]; exact rowsOk_by _) | (simp [rowsOk, D.one, Value.oneCell']; done)) (by first | omega | (simp; done) | (simp; omega) | (simp [byD]; omega)) ?_
    | refine ao_appNR rfl rfl rfl (by simp only [go_sem]; rfl) rfl (by first | assumption | exact rowsOk_nil _ | exact rowsOk_by _ | (rw [byD_cut]; exact rowsOk_by _) | (simp [rowsOk, D.one, Value.oneCell']; done)) (by first | omega | (simp; done) | (simp; omega) | (simp [byD]; omega)) ?_
    | refine ao0 rfl rfl ?_
    | refine aq2 rfl rfl rfl ent_110 (raw_e G hG hr _ hl ho.pos) ?_
    | (refine ao2 rfl rfl rfl ent_110 (raw_e G hG hr _ hl ho.pos) ?_; rintro _ _ ⟨rfl, rfl⟩)
    | (refine ao1' rfl fun K HK => ?_; simp only [go_sem, ↓reduceIte, Nat.reduceEqDiff, Nat.reduceAdd, Nat.reduceLeDiff, Nat.reduceBEq, Nat.reduceMul, Int.reduceEq, Int.reduceLT, Int.reduceLE, decide_true, decide_false, Bool.not_true, Bool.not_false, hi, g1]; refine HK _ _ ?_; clear HK K)
    | refine ao0' rfl ?_
    | refine aw_if1 rfl ?_
    | refine aw_if0 rfl ?_
    | refine aw_skip ?_
    | refine aw_exit ?_
    | refine aw_ret ?_
    | refine thenS_n ?_
    | refine thenS_x ?_
    | refine thenS_r ?_
    | refine inB_n ?_
    | refine inB_r ?_
    | refine inB_x ?_
    | refine inB_y rfl ?_
    | (exfalso; omega)
   exact ⟨by simp, endS (i := i) (ob := inOb s.bad) (r := .v _) hl0 (low_in _ _) rfl (by simp [inOb, RS.bad, putL_succ, putL_zero, take_set]) (by simp) rfl (by rw [low]; trivial) ⟨by rw [hR], by rw [hR]; rfl⟩⟩
 · have hr := rawD_some hN
   obtain ⟨hn1, hn2, hn3, hn4⟩ := RS.num_some hN hp
   have w1 : IntKind.i64.wrap ((s.data.length : Int) - ((s.pos : Int) + (c : Int))) = (s.data.length : Int) - ((s.pos : Int) + (c : Int)) := IntWalk.i64_in _ (by omega)
   have w2 : IntKind.u64.wrap ((s.data.length : Int) - ((s.pos : Int) + (c : Int))) = (s.data.length : Int) - ((s.pos : Int) + (c : Int)) := by rw [IntKind.wrap_u64]; omega
   have w3 : m ≤ 1000000000 → IntKind.i64.wrap (m : Int) = (m : Int) := fun h => IntWalk.i64_in _ (by omega)
   have hR : rdCount s = (if s.data.length - (s.pos + c) < m then (0, s.bad) else (m, s.go c)) := by unfold rdCount; rw [if_neg (fun h => h hb), hN]
   repeat' first
    | refine aw_seq' ?_
    | refine aw_region' ?_
    | refine aw_block ?_
    | refine ao_nil ?_
    | (refine ao1 rfl rfl fun K HK => ?_; (try refine aOp_pick rfl ?_); simp only [go_sem, ↓reduceIte, Nat.reduceEqDiff, Nat.reduceAdd, Nat.reduceLeDiff, Nat.reduceBEq, Nat.reduceMul, Int.reduceEq, Int.reduceLT, Int.reduceLE, decide_true, decide_false, Bool.not_true, Bool.not_false, hi, g1, w1, w2]; (first | refine splitB (fun hq => ?_) (fun hq => ?_) | refine splitN (fun hq => ?_) (fun hq => ?_) | (refine slc_sl (by simp only [go_sem]) rfl rfl (by first | omega | simp) (by first | omega | simp) (by simp only [go_sem]; omega) ?_) | (refine ⟨by omega, by omega, ?_⟩; first | refine row_at (by assumption) ?_ | (intro row hrow; obtain ⟨x, hx, rfl⟩ := row_inv hrow; clear hrow) | (intro row hrow)) | (refine ⟨by omega, ?_⟩; refine row_at (by assumption) ?_) | skip) <;> (refine HK _ _ ?_; clear HK K))
    | (refine aq1 rfl rfl fun K HK => ?_; (try refine aOp_pick rfl ?_); simp only [go_sem, ↓reduceIte, Nat.reduceEqDiff, Nat.reduceAdd, Nat.reduceLeDiff, Nat.reduceBEq, Nat.reduceMul, Int.reduceEq, Int.reduceLT, Int.reduceLE, decide_true, decide_false, Bool.not_true, Bool.not_false, hi, g1, w1, w2]; (first | refine splitB (fun hq => ?_) (fun hq => ?_) | refine splitN (fun hq => ?_) (fun hq => ?_) | (refine slc_sl (by simp only [go_sem]) rfl rfl (by first | omega | simp) (by first | omega | simp) (by simp only [go_sem]; omega) ?_) | (refine ⟨by omega, by omega, ?_⟩; first | refine row_at (by assumption) ?_ | (intro row hrow; obtain ⟨x, hx, rfl⟩ := row_inv hrow; clear hrow) | (intro row hrow)) | (refine ⟨by omega, ?_⟩; refine row_at (by assumption) ?_) | skip) <;> (refine HK _ _ rfl ?_; clear HK K))
    | refine aq0 rfl rfl ?_
    | refine aq_nil ?_
    | (refine aw_draw mixd (by kernel_rfl) ?_)
    | refine ao_appB rfl rfl rfl rfl (by first | assumption | (simp only [go_sem, ↓reduceIte, Nat.reduceEqDiff, Nat.reduceAdd, Nat.reduceLeDiff, Nat.reduceBEq, Nat.reduceMul, Int.reduceEq, Int.reduceLT, Int.reduceLE, decide_true, decide_false, Bool.not_true, Bool.not_false, hi, g1, w1, w2]; rfl) | (simp only [go_sem, ↓reduceIte, Nat.reduceEqDiff, Nat.reduceAdd, Nat.reduceLeDiff, Nat.reduceBEq, Nat.reduceMul, Int.reduceEq, Int.reduceLT, Int.reduceLE, decide_true, decide_false, Bool.not_true, Bool.not_false, hi, g1, w1, w2]; done)) (by simp) (by simp only [go_sem]; rfl) (by first | assumption | (simp only [go_sem, ↓reduceIte, Nat.reduceEqDiff, Nat.reduceAdd, Nat.reduceLeDiff, Nat.reduceBEq, Nat.reduceMul, Int.reduceEq, Int.reduceLT, Int.reduceLE, decide_true, decide_false, Bool.not_true, Bool.not_false, hi, g1, w1, w2]; rfl) | (simp only [go_sem, ↓reduceIte, Nat.reduceEqDiff, Nat.reduceAdd, Nat.reduceLeDiff, Nat.reduceBEq, Nat.reduceMul, Int.reduceEq, Int.reduceLT, Int.reduceLE, decide_true, decide_false, Bool.not_true, Bool.not_false, hi, g1, w1, w2]; done)) (by simp) (by first | assumption | exact rowsOk_nil _ | exact rowsOk_by _ | (rw [byD_cut]; exact rowsOk_by _) | (simp [rowsOk, D.one, Value.oneCell']; done)) (by first | omega | (simp; done) | (simp; omega) | (simp [byD]; omega)) ?_
    | refine ao_appNB rfl rfl rfl rfl (by simp only [go_sem]; rfl) (by first | assumption | (simp only [go_sem, ↓reduceIte, Nat.reduceEqDiff, Nat.reduceAdd, Nat.reduceLeDiff, Nat.reduceBEq, Nat.reduceMul, Int.reduceEq, Int.reduceLT, Int.reduceLE, decide_true, decide_false, Bool.not_true, Bool.not_false, hi, g1, w1, w2]; rfl) | (simp only [go_sem, ↓reduceIte, Nat.reduceEqDiff, Nat.reduceAdd, Nat.reduceLeDiff, Nat.reduceBEq, Nat.reduceMul, Int.reduceEq, Int.reduceLT, Int.reduceLE, decide_true, decide_false, Bool.not_true, Bool.not_false, hi, g1, w1, w2]; done)) (by simp) (by first | assumption | exact rowsOk_nil _ | exact rowsOk_by _ | (rw [byD_cut]; exact rowsOk_by _) | (simp [rowsOk, D.one, Value.oneCell']; done)) (by first | omega | (simp; done) | (simp; omega) | (simp [byD]; omega)) ?_
    | refine ao_appR rfl rfl rfl (by first | assumption | (simp only [go_sem, ↓reduceIte, Nat.reduceEqDiff, Nat.reduceAdd, Nat.reduceLeDiff, Nat.reduceBEq, Nat.reduceMul, Int.reduceEq, Int.reduceLT, Int.reduceLE, decide_true, decide_false, Bool.not_true, Bool.not_false, hi, g1, w1, w2]; rfl) | (simp only [go_sem, ↓reduceIte, Nat.reduceEqDiff, Nat.reduceAdd, Nat.reduceLeDiff, Nat.reduceBEq, Nat.reduceMul, Int.reduceEq, Int.reduceLT, Int.reduceLE, decide_true, decide_false, Bool.not_true, Bool.not_false, hi, g1, w1, w2]; done)) (by simp) (by simp only [go_sem]; rfl) rfl (by first | assumption | exact rowsOk_nil _ | exact rowsOk_by _ | (rw [byD_cut]; exact rowsOk_by _) | (simp [rowsOk, D.one, Value.oneCell']; done)) (by first | omega | (simp; done) | (simp; omega) | (simp [byD]; omega)) ?_
    | refine ao_appNR rfl rfl rfl (by simp only [go_sem]; rfl) rfl (by first | assumption | exact rowsOk_nil _ | exact rowsOk_by _ | (rw [byD_cut]; exact rowsOk_by _) | (simp [rowsOk, D.one, Value.oneCell']; done)) (by first | omega | (simp; done) | (simp; omega) | (simp [byD]; omega)) ?_
    | refine ao0 rfl rfl ?_
    | refine aq2 rfl rfl rfl ent_110 (raw_e G hG hr _ hl ho.pos) ?_
    | (refine ao2 rfl rfl rfl ent_110 (raw_e G hG hr _ hl ho.pos) ?_; rintro _ _ ⟨rfl, rfl⟩)
    | (refine ao1' rfl fun K HK => ?_; simp only [go_sem, ↓reduceIte, Nat.reduceEqDiff, Nat.reduceAdd, Nat.reduceLeDiff, Nat.reduceBEq, Nat.reduceMul, Int.reduceEq, Int.reduceLT, Int.reduceLE, decide_true, decide_false, Bool.not_true, Bool.not_false, hi, g1, w1, w2]; refine HK _ _ ?_; clear HK K)
    | refine ao0' rfl ?_
    | refine aw_if1 rfl ?_
    | refine aw_if0 rfl ?_
    | refine aw_skip ?_
    | refine aw_exit ?_
    | refine aw_ret ?_
    | refine thenS_n ?_
    | refine thenS_x ?_
    | refine thenS_r ?_
    | refine inB_n ?_
    | refine inB_r ?_
    | refine inB_x ?_
    | refine inB_y rfl ?_
    | (exfalso; omega)
   all_goals
    first
    | (have hR2 : rdCount s = (0, s.bad) := by (rw [hR, if_pos (by omega)])
       exact ⟨by simp, endS (i := i) (ob := inOb s.bad) (r := .v _) hl0 (low_in _ _) rfl (by simp [inOb, RS.bad, putL_succ, putL_zero, take_set]) (by simp) rfl (by rw [low]; trivial) ⟨by rw [hR2], by rw [hR2]; rfl⟩⟩)
    | (have hR2 : rdCount s = (m, s.go c) := by (rw [hR, if_neg (by omega)])
       exact ⟨by simp, endS (i := i) (ob := inOb (s.go c)) (r := .v _) hl0 (low_in _ _) rfl (by simp [inOb, RS.go, hb, putL_succ, putL_zero, take_set]) (by simp) rfl (by rw [low]; trivial) ⟨by rw [hR2], by rw [hR2, w3 (by omega)]⟩⟩)
end
end Go.Proofs.YtgkjcmglcnhpaaaGreatDoor
