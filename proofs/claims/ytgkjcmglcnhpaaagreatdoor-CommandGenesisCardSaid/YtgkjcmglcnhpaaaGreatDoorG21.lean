/-
  What the statements of the chapter share, part 21: SH1, SH2, SH3, SH4.
-/
import Derived.Test.YtgkjcmglcnhpaaaGreatDoorG16
import Derived.Test.YtgkjcmglcnhpaaaGreatDoorG20
set_option linter.unusedVariables false
set_option linter.unusedSimpArgs false
set_option maxRecDepth 100000
set_option maxHeartbeats 8000000
namespace Go.Proofs.YtgkjcmglcnhpaaaGreatDoor
open Go.RowKit
section
set_option maxRecDepth 100000
set_option maxHeartbeats 16000000
attribute [local irreducible] on aOp
attribute [local go_sem] decide_true decide_false Bool.not_true Bool.not_false
attribute [local simp] byD_len
variable (G : Nat → D) (hG : ∀ g, low 0 (G g))
include hG
theorem rotr_d (x : Int) (n : Nat) (hn : n ≤ 32) (h : List Ob) : Does Tryz.prog G 190 h [.v (.int .u32 x), .v (.int .u64 n)] (fun h' r => h' = h ∧ r = .v (.int .u32 (rotrZ x n))) := by
 refine does_of_aw Tryz.func190 rfl (Nat.le_of_ble_eq_true rfl) hG fun hl0 _ => ?_
 simp only [Tryz.ntmps190]
 have w1 : IntKind.u64.wrap (32 - (n : Int)) = ((32 - n : Nat) : Int) := by rw [IntKind.wrap_u64]; omega
 have w2 : decide (0 ≤ (n : Int)) = true := decide_eq_true (by omega)
 have w3 : decide (0 ≤ ((32 - n : Nat) : Int)) = true := decide_eq_true (by omega)
 repeat' first
  | refine aw_seq' ?_
  | refine aw_region' ?_
  | refine ao_nil ?_
  | (refine ao1 rfl rfl fun K HK => ?_; simp only [go_sem, ↓reduceIte, Nat.reduceEqDiff, Nat.reduceAdd, Nat.reduceLeDiff, Nat.reduceBEq, Nat.reduceMul, Int.reduceEq, Int.reduceLT, Int.reduceLE, w1, w2, w3, Int.toNat_natCast] <;> (refine HK _ _ ?_; clear HK K))
  | refine aw_ret ?_
 exact ⟨by simp, endD (r := .v (.int .u32 (rotrZ x n))) hl0 rfl (by simp) (by simp) rfl (by rw [low]; trivial) ⟨rfl, rfl⟩⟩
theorem initial_d (h : List Ob) : Does Tryz.prog G 181 h [] (fun h' r => h' = h ∧ r = .agg (shaIV.ls.map zD)) := by
 refine does_any G hG (by simp [lowL]) (low_ws 0 _) ?_ h
 refine does_of_aw Tryz.func181 rfl (Nat.le_of_ble_eq_true rfl) hG fun hl0 _ => ?_
 simp only [Tryz.ntmps181]
 repeat' first
  | refine aw_seq' ?_
  | refine aw_region' ?_
  | refine ao_nil ?_
  | (refine ao1 rfl rfl fun K HK => ?_; simp only [go_sem, ↓reduceIte, Nat.reduceEqDiff, Nat.reduceAdd, Nat.reduceLeDiff, Nat.reduceBEq, Nat.reduceMul, Int.reduceEq, Int.reduceLT, Int.reduceLE] <;> (refine HK _ _ ?_; clear HK K))
  | (refine ao1' rfl fun K HK => ?_; simp only [go_sem, ↓reduceIte, Nat.reduceEqDiff, Nat.reduceAdd, Nat.reduceLeDiff, Nat.reduceBEq, Nat.reduceMul, Int.reduceEq, Int.reduceLT, Int.reduceLE]; refine HK _ _ ?_; clear HK K)
  | refine aw_ret ?_
 exact ⟨.inr rfl, endD (r := .agg (shaIV.ls.map zD)) hl0 rfl (by simp) (by simp) rfl (low_ws _ _) ⟨rfl, rfl⟩⟩
theorem block_d (v : W8) (b : List UInt8) (hb : b.length = 64) (hK : G 1 = .rp (shaK.map zD)) (h : List Ob) :
 Does Tryz.prog G 182 h [.agg (v.ls.map zD), .sl 1 (byD b)] (fun h' r => h' = h ∧ r = .agg ((blkZ v b).ls.map zD)) := by
 refine does_any G hG (by rw [lowL, lowL, lowL]; exact ⟨low_ws _ _, low_by _ _, trivial⟩) (low_ws _ _) ?_ h
 refine does_of_aw Tryz.func182 rfl (Nat.le_of_ble_eq_true rfl) hG fun hl0 _ => ?_
 simp only [Tryz.ntmps182]
 repeat' first
  | refine aw_seq' ?_
  | refine aw_region' ?_
  | refine aw_block ?_
  | refine ao_nil ?_
  | (refine ao1 rfl rfl fun K HK => ?_; simp only [go_sem, ↓reduceIte, Nat.reduceEqDiff, Nat.reduceAdd, Nat.reduceLeDiff, Nat.reduceBEq, Nat.reduceMul, Int.reduceEq, Int.reduceLT, Int.reduceLE] <;> (refine HK _ _ ?_; clear HK K))
 refine aw_for (fun m e h' => ∃ (k : Nat) (W : List Int), k ≤ 16 ∧ m = 16 - k ∧ W.length = 64 ∧ sch1 b (16 - k) W = sch1 b 16 (List.replicate 64 0) ∧ h' = [.cells (v.ls.map zD), .cells (List.replicate 8 (zD 0)), .cells (W.map zD)] ∧ e 1 = .sl 1 (byD b) ∧ e 2 = .ptr 0 0 ∧ e 4 = .ptr 1 0 ∧ e 5 = .ptr 2 0 ∧ e 23 = .v (.int .i64 k)) 16 ⟨0, List.replicate 64 0, by omega, rfl, rfl, rfl, rfl, rfl, rfl, rfl, rfl, rfl⟩ ?_
 rintro m e h' ⟨k, W, hk, rfl, hW, hS, rfl, e1, e2, e4, e5, e23⟩
 by_cases hlt : k < 16
 · have hx0 : b[4 * k]? = some b[4 * k] := List.getElem?_eq_getElem (by omega)
   have hx1 : b[4 * k + 1]? = some b[4 * k + 1] := List.getElem?_eq_getElem (by omega)
   have hx2 : b[4 * k + 2]? = some b[4 * k + 2] := List.getElem?_eq_getElem (by omega)
   have hx3 : b[4 * k + 3]? = some b[4 * k + 3] := List.getElem?_eq_getElem (by omega)
   have hS' : sch1 b (16 - (k + 1)) (W.set k (be4 b[4 * k] b[4 * k + 1] b[4 * k + 2] b[4 * k + 3])) = sch1 b (16 - k) W := by
    obtain ⟨n, hn⟩ : ∃ n, 16 - k = n + 1 := ⟨15 - k, by omega⟩
    rw [hn, sch1, show 16 - (k + 1) = n by omega, show 15 - n = k by omega]
    simp only [List.getD_eq_getElem?_getD, hx0, hx1, hx2, hx3, Option.getD_some]
   generalize b[4 * k] = x0 at hx0 hS'
   generalize b[4 * k + 1] = x1 at hx1 hS'
   generalize b[4 * k + 2] = x2 at hx2 hS'
   generalize b[4 * k + 3] = x3 at hx3 hS'
   have w0 : IntKind.i64.wrap (4 * (k : Int)) = ((4 * k : Nat) : Int) := IntWalk.i64_in _ (by omega)
   have w1 : IntKind.i64.wrap (((4 * k : Nat) : Int) + 1) = ((4 * k + 1 : Nat) : Int) := IntWalk.i64_in _ (by omega)
   have w2 : IntKind.i64.wrap (((4 * k : Nat) : Int) + 2) = ((4 * k + 2 : Nat) : Int) := IntWalk.i64_in _ (by omega)
   have w3 : IntKind.i64.wrap (((4 * k : Nat) : Int) + 3) = ((4 * k + 3 : Nat) : Int) := IntWalk.i64_in _ (by omega)
   have wk : IntKind.i64.wrap ((k : Int) + 1) = ((k + 1 : Nat) : Int) := IntWalk.i64_in _ (by omega)
   repeat' first
    | (refine aS1 rfl rfl fun K HK => ?_; refine aOp_iarr (by first | rfl | (simp only [go_sem, e1, e2, e4, e5, e23, w0, w1, w2, w3, wk, Int.toNat_natCast]; rfl)) (by first | rfl | (simp only [go_sem, e1, e2, e4, e5, e23, w0, w1, w2, w3, wk, Int.toNat_natCast]; rfl)) (by first | (simp only [go_sem]; rfl) | (simp only [go_sem]; done)) (by first | (simp only [go_sem]; rfl) | (simp only [go_sem]; done)) (by omega) ?_; refine HK _ _ rfl ?_; clear HK K)
    | (refine aS_store rfl rfl (by (simp only [go_sem, ↓reduceIte, Nat.reduceEqDiff, Nat.reduceAdd, Nat.reduceLeDiff, Nat.reduceBEq, Nat.reduceMul, Int.reduceEq, Int.reduceLT, Int.reduceLE, e1, e2, e4, e5, e23, w0, w1, w2, w3, wk, Int.toNat_natCast]; rfl)) rfl (by simp only [go_sem]) (by simp [hW]; omega) ?_)
    | refine aw_seq' ?_
    | refine aw_region' ?_
    | refine aw_block ?_
    | refine ao_nil ?_
    | ((first | refine ao1 rfl rfl fun K HK => ?_ | refine aS1 rfl rfl fun K HK => ?_); simp only [go_sem, ↓reduceIte, Nat.reduceEqDiff, Nat.reduceAdd, Nat.reduceLeDiff, Nat.reduceBEq, Nat.reduceMul, Int.reduceEq, Int.reduceLT, Int.reduceLE, e1, e2, e4, e5, e23, w0, w1, w2, w3, wk, Int.toNat_natCast]; (first | refine splitB (fun hq => ?_) (fun hq => ?_) | (refine ⟨by omega, by omega, ?_⟩; refine row_at (by assumption) ?_) | skip) <;> ((first | refine HK _ _ ?_ | refine HK _ _ rfl ?_); clear HK K))
    | (refine aw_drawE mixd (by kernel_rfl) ?_)
    | refine aS_nil (by simp only [List.reverse_cons, List.reverse_nil, List.nil_append, List.cons_append, chkAll, chk1]; repeat' (first | exact trivial | refine And.intro ?_ ?_ | exact .inr compat_pl)) ?_
    | refine aw_if1 rfl ?_
    | refine aw_if0 rfl ?_
    | refine aw_skip ?_
    | refine aw_exit ?_
    | refine thenS_n ?_
    | (exfalso; omega)
   refine ⟨rfl, 16 - (k + 1), by omega, k + 1, W.set k (be4 x0 x1 x2 x3), by omega, rfl, by simp [hW], by rw [hS']; exact hS, ?_, ?_, ?_, ?_, ?_, ?_⟩
   · exact congrArg (fun x => [Ob.cells (v.ls.map zD), .cells (List.replicate 8 (zD 0)), .cells x]) (putL_set (W := W) (k := k) (z := be4 x0 x1 x2 x3) (by omega))
   all_goals first | rfl | (simp [upd, e1, e2, e4, e5]; done)
 have hk16 : k = 16 := by omega
 subst hk16
 repeat' first
  | refine aw_seq' ?_
  | refine aw_region' ?_
  | refine aw_block ?_
  | refine ao_nil ?_
  | ((first | refine ao1 rfl rfl fun K HK => ?_ | refine aq1 rfl rfl fun K HK => ?_); simp only [go_sem, ↓reduceIte, Nat.reduceEqDiff, Nat.reduceAdd, Nat.reduceLeDiff, Nat.reduceBEq, Nat.reduceMul, Int.reduceEq, Int.reduceLT, Int.reduceLE, e1, e2, e4, e5, e23]; (first | refine splitB (fun hq => ?_) (fun hq => ?_) | (refine ⟨by omega, by omega, ?_⟩; intro row hrow; obtain ⟨x, hx, rfl⟩ := row_inv hrow; clear hrow) | skip) <;> ((first | refine HK _ _ ?_ | refine HK _ _ rfl ?_); clear HK K))
  | (refine aw_draw mixd (by kernel_rfl) ?_)
  | refine aw_if1 rfl ?_
  | refine aw_if0 rfl ?_
  | refine aw_skip ?_
  | refine aw_exit ?_
  | (exfalso; omega)
 have hSc : sch2 (64 - 16) W = schZ b := by
  rw [Nat.sub_self, sch1] at hS
  rw [hS]; unfold schZ; rw [show 64 - 16 = 48 from rfl]
 refine aw_for (fun m e h' => ∃ (k : Nat) (W : List Int), 16 ≤ k ∧ k ≤ 64 ∧ m = 64 - k ∧ W.length = 64 ∧ sch2 (64 - k) W = schZ b ∧ h' = [.cells (v.ls.map zD), .cells (List.replicate 8 (zD 0)), .cells (W.map zD)] ∧ e 2 = .ptr 0 0 ∧ e 4 = .ptr 1 0 ∧ e 5 = .ptr 2 0 ∧ e 7 = .v (.int .i64 k)) 48 ⟨16, W, by omega, by omega, rfl, hW, hSc, rfl, e2, e4, e5, rfl⟩ ?_
 clear hSc hS hW W hk hlt e1 e2 e4 e5 e23 e
 rintro m e h' ⟨k, W, hk, hk2, rfl, hW, hS, rfl, e2, e4, e5, e7⟩
 by_cases hlt : k < 64
 · have hx0 : W[k - 15]? = some W[k - 15] := List.getElem?_eq_getElem (by omega)
   have hx1 : W[k - 2]? = some W[k - 2] := List.getElem?_eq_getElem (by omega)
   have hx2 : W[k - 7]? = some W[k - 7] := List.getElem?_eq_getElem (by omega)
   have hx3 : W[k - 16]? = some W[k - 16] := List.getElem?_eq_getElem (by omega)
   have hS' : sch2 (64 - (k + 1)) (W.set k (sgZ W[k - 15] W[k - 2] W[k - 7] W[k - 16])) = sch2 (64 - k) W := by
    obtain ⟨n, hn⟩ : ∃ n, 64 - k = n + 1 := ⟨63 - k, by omega⟩
    rw [hn, sch2, show 64 - (k + 1) = n by omega, show 63 - n = k by omega]
    simp only [List.getD_eq_getElem?_getD, hx0, hx1, hx2, hx3, Option.getD_some]
   generalize W[k - 15] = x15 at hx0 hS'
   generalize W[k - 2] = x2 at hx1 hS'
   generalize W[k - 7] = x7 at hx2 hS'
   generalize W[k - 16] = x16 at hx3 hS'
   have w0 : IntKind.i64.wrap ((k : Int) - 15) = ((k - 15 : Nat) : Int) := (IntWalk.i64_in _ (by omega)).trans (by omega)
   have w1 : IntKind.i64.wrap ((k : Int) - 2) = ((k - 2 : Nat) : Int) := (IntWalk.i64_in _ (by omega)).trans (by omega)
   have w2 : IntKind.i64.wrap ((k : Int) - 7) = ((k - 7 : Nat) : Int) := (IntWalk.i64_in _ (by omega)).trans (by omega)
   have w3 : IntKind.i64.wrap ((k : Int) - 16) = ((k - 16 : Nat) : Int) := (IntWalk.i64_in _ (by omega)).trans (by omega)
   have wk : IntKind.i64.wrap ((k : Int) + 1) = ((k + 1 : Nat) : Int) := IntWalk.i64_in _ (by omega)
   repeat' first
    | (refine aS1 rfl rfl fun K HK => ?_; refine aOp_iarr (by first | rfl | (simp only [go_sem, e2, e4, e5, e7, w0, w1, w2, w3, wk, Int.toNat_natCast]; rfl)) (by first | rfl | (simp only [go_sem, e2, e4, e5, e7, w0, w1, w2, w3, wk, Int.toNat_natCast]; rfl)) (by first | (simp only [go_sem]; rfl) | (simp only [go_sem]; done)) (by first | (simp only [go_sem]; rfl) | (simp only [go_sem]; done)) (by omega) ?_; refine HK _ _ rfl ?_; clear HK K)
    | (refine aS_load rfl rfl rfl (by (simp only [go_sem, ↓reduceIte, Nat.reduceEqDiff, Nat.reduceAdd, Nat.reduceLeDiff, Nat.reduceBEq, Nat.reduceMul, Int.reduceEq, Int.reduceLT, Int.reduceLE, e2, e4, e5, e7, w0, w1, w2, w3, wk, Int.toNat_natCast]; rfl)) (getD_zs (by first | (simp only [go_sem]; rfl) | (simp only [go_sem]; done)) (by assumption)) ?_)
    | (refine aS_store rfl rfl (by (simp only [go_sem, ↓reduceIte, Nat.reduceEqDiff, Nat.reduceAdd, Nat.reduceLeDiff, Nat.reduceBEq, Nat.reduceMul, Int.reduceEq, Int.reduceLT, Int.reduceLE, e2, e4, e5, e7, w0, w1, w2, w3, wk, Int.toNat_natCast]; rfl)) rfl (by simp only [go_sem]) (by simp [hW]; omega) ?_)
    | refine aw_seq' ?_
    | refine aw_region' ?_
    | refine aw_block ?_
    | refine ao_nil ?_
    | ((first | refine ao1 rfl rfl fun K HK => ?_ | refine aS1 rfl rfl fun K HK => ?_); simp only [go_sem, ↓reduceIte, Nat.reduceEqDiff, Nat.reduceAdd, Nat.reduceLeDiff, Nat.reduceBEq, Nat.reduceMul, Int.reduceEq, Int.reduceLT, Int.reduceLE, e2, e4, e5, e7, w0, w1, w2, w3, wk, Int.toNat_natCast]; (first | refine splitB (fun hq => ?_) (fun hq => ?_) | skip) <;> ((first | refine HK _ _ ?_ | refine HK _ _ rfl ?_); clear HK K))
    | (refine aw_drawE mixd (by kernel_rfl) ?_)
    | refine aS_nil (by simp only [List.reverse_cons, List.reverse_nil, List.nil_append, List.cons_append, chkAll, chk1]; repeat' (first | exact trivial | refine And.intro ?_ ?_ | exact .inr compat_pl | exact .inr compat_pr | exact .inr compat_rr | exact .inl (by kernel_rfl))) ?_
    | (refine ao2 rfl rfl rfl ent_190 (rotr_d G hG _ 7 (by omega) _) ?_; rintro _ _ ⟨rfl, rfl⟩)
    | (refine ao2 rfl rfl rfl ent_190 (rotr_d G hG _ 17 (by omega) _) ?_; rintro _ _ ⟨rfl, rfl⟩)
    | (refine ao2 rfl rfl rfl ent_190 (rotr_d G hG _ 18 (by omega) _) ?_; rintro _ _ ⟨rfl, rfl⟩)
    | (refine ao2 rfl rfl rfl ent_190 (rotr_d G hG _ 19 (by omega) _) ?_; rintro _ _ ⟨rfl, rfl⟩)
    | refine aw_if1 rfl ?_
    | refine aw_if0 rfl ?_
    | refine aw_skip ?_
    | refine aw_exit ?_
    | refine thenS_n ?_
    | (exfalso; omega)
   refine ⟨rfl, 64 - (k + 1), by omega, k + 1, W.set k (sgZ x15 x2 x7 x16), by omega, by omega, rfl, by simp [hW], by rw [hS']; exact hS, ?_, ?_, ?_, ?_, ?_⟩
   · exact congrArg (fun x => [Ob.cells (v.ls.map zD), .cells (List.replicate 8 (zD 0)), .cells x]) (putL_set (W := W) (k := k) (z := sgZ x15 x2 x7 x16) (by omega))
   all_goals first | rfl | (simp [upd, e2, e4, e5]; done)
 have hk64 : k = 64 := by omega
 subst hk64
 rw [Nat.sub_self, sch2] at hS
 subst hS
 generalize hWe : schZ b = W at hW ⊢
 repeat' first
  | (refine ao1 rfl rfl fun K HK => ?_; refine aOp_larr (by first | rfl | (simp only [go_sem, e2, e4, e5, e7]; rfl)) (by (simp only [go_sem, ↓reduceIte, Nat.reduceEqDiff, Nat.reduceAdd, Nat.reduceLeDiff, Nat.reduceBEq, Nat.reduceMul, Int.reduceEq, Int.reduceLT, Int.reduceLE, e2, e4, e5, e7]; rfl)) (getD_ws (by first | (simp only [go_sem]; rfl) | (simp only [go_sem]; done)) (by first | (simp only [go_sem]; rfl) | (simp only [go_sem]; done))) ?_; refine HK _ _ ?_; clear HK K)
  | (refine ao1' rfl fun K HK => ?_; refine aOp_stv (by first | rfl | (simp only [go_sem, e2, e4, e5, e7]; rfl)) (by (simp only [go_sem, ↓reduceIte, Nat.reduceEqDiff, Nat.reduceAdd, Nat.reduceLeDiff, Nat.reduceBEq, Nat.reduceMul, Int.reduceEq, Int.reduceLT, Int.reduceLE, e2, e4, e5, e7]; rfl)) rfl (by first | (simp only [go_sem]; rfl) | (simp only [go_sem]; done)) rfl ?_; refine HK _ _ ?_; clear HK K)
  | refine aw_seq' ?_
  | refine aw_region' ?_
  | refine aw_block ?_
  | refine ao_nil ?_
  | ((first | refine ao1 rfl rfl fun K HK => ?_ | refine aq1 rfl rfl fun K HK => ?_); simp only [go_sem, ↓reduceIte, Nat.reduceEqDiff, Nat.reduceAdd, Nat.reduceLeDiff, Nat.reduceBEq, Nat.reduceMul, Int.reduceEq, Int.reduceLT, Int.reduceLE, e2, e4, e5, e7]; (first | refine splitB (fun hq => ?_) (fun hq => ?_) | skip) <;> ((first | refine HK _ _ ?_ | refine HK _ _ rfl ?_); clear HK K))
  | (refine aw_draw mixd (by kernel_rfl) ?_)
  | refine aw_if1 rfl ?_
  | refine aw_if0 rfl ?_
  | refine aw_skip ?_
  | refine aw_exit ?_
  | (exfalso; omega)
 refine aw_for (fun m e h' => ∃ (k : Nat) (u : W8), k ≤ 64 ∧ m = 64 - k ∧ rndsZ shaK W (64 - k) u = rndsZ shaK W 64 v ∧ h' = [.cells (v.ls.map zD), .cells (List.replicate 8 (zD 0)), .cells (W.map zD), .cells (u.ls.map zD)] ∧ e 2 = .ptr 0 0 ∧ e 4 = .ptr 1 0 ∧ e 5 = .ptr 2 0 ∧ e 12 = .ptr 3 0 ∧ e 106 = .v (.int .i64 k)) 64 ⟨0, v, by omega, rfl, by rw [Nat.sub_zero], rfl, e2, e4, e5, rfl, rfl⟩ ?_
 clear hk hk2 hlt e2 e4 e5 e7 e
 rintro m e h' ⟨k, u, hk, rfl, hS, rfl, e2, e4, e5, e12, e106⟩
 by_cases hlt : k < 64
 · have hx0 : W[k]? = some W[k] := List.getElem?_eq_getElem (by omega)
   have hx1 : shaK[k]? = some (shaK[k]'hlt) := List.getElem?_eq_getElem hlt
   have hS' : rndsZ shaK W (64 - (k + 1)) (rndZ (shaK[k]'hlt) W[k] u) = rndsZ shaK W (64 - k) u := by
    obtain ⟨n, hn⟩ : ∃ n, 64 - k = n + 1 := ⟨63 - k, by omega⟩
    rw [hn, rndsZ, show 64 - (k + 1) = n by omega, show 63 - n = k by omega]
    simp only [List.getD_eq_getElem?_getD, hx0, hx1, Option.getD_some]
   generalize W[k] = wv at hx0 hS'
   generalize (shaK[k]'hlt) = kv at hx1 hS'
   have wk : IntKind.i64.wrap ((k : Int) + 1) = ((k + 1 : Nat) : Int) := IntWalk.i64_in _ (by omega)
   repeat' first
    | (refine aq1 rfl rfl fun K HK => ?_; refine aOp_iarr (by first | rfl | (simp only [go_sem, e2, e4, e5, e12, e106, wk, Int.toNat_natCast]; rfl)) (by first | rfl | (simp only [go_sem, e2, e4, e5, e12, e106, wk, Int.toNat_natCast]; rfl)) (by first | (simp only [go_sem]; rfl) | (simp only [go_sem]; done)) (by first | (simp only [go_sem]; rfl) | (simp only [go_sem]; done)) (by omega) ?_; refine HK _ _ rfl ?_; clear HK K)
    | (refine aq1 rfl rfl fun K HK => ?_; refine aOp_larr (by first | rfl | (simp only [go_sem, e2, e4, e5, e12, e106, wk, Int.toNat_natCast]; rfl)) (by (simp only [go_sem, ↓reduceIte, Nat.reduceEqDiff, Nat.reduceAdd, Nat.reduceLeDiff, Nat.reduceBEq, Nat.reduceMul, Int.reduceEq, Int.reduceLT, Int.reduceLE, e2, e4, e5, e12, e106, wk, Int.toNat_natCast]; rfl)) (getD_zs (by first | (simp only [go_sem]; rfl) | (simp only [go_sem]; done)) (by assumption)) ?_; refine HK _ _ rfl ?_; clear HK K)
    | (refine aq1 rfl rfl fun K HK => ?_; refine aOp_ilit (by first | rfl | (simp only [go_sem, e2, e4, e5, e12, e106, wk, Int.toNat_natCast]; rfl)) (by first | rfl | (simp only [go_sem, e2, e4, e5, e12, e106, wk, Int.toNat_natCast]; rfl)) (by first | (simp only [go_sem]; rfl) | (simp only [go_sem]; done)) (by first | (simp only [go_sem]; rfl) | (simp only [go_sem]; done)) (by decide) (by decide) ?_; refine HK _ _ rfl ?_; clear HK K)
    | (refine aq1 rfl rfl fun K HK => ?_; refine aOp_irp (by first | exact hK | (simp only [go_sem, e2, e4, e5, e12, e106, wk, Int.toNat_natCast]; exact hK)) (by first | rfl | (simp only [go_sem, e2, e4, e5, e12, e106, wk, Int.toNat_natCast]; rfl)) (by first | (simp only [go_sem]; rfl) | (simp only [go_sem]; done)) (by first | (simp only [go_sem]; rfl) | (simp only [go_sem]; done)) (by omega) ?_; refine HK _ _ rfl ?_; clear HK K)
    | (refine aq1 rfl rfl fun K HK => ?_; refine aOp_lrp rfl (getD_zd (by first | (simp only [go_sem]; rfl) | (simp only [go_sem]; done)) (by assumption)) ?_; refine HK _ _ rfl ?_; clear HK K)
    | (refine aq1 rfl rfl fun K HK => ?_; refine aOp_unx rfl ?_; refine HK _ _ rfl ?_; clear HK K)
    | (refine aq1 rfl rfl fun K HK => ?_; refine aOp_lz (by first | rfl | (simp only [go_sem, e2, e4, e5, e12, e106, wk, Int.toNat_natCast]; rfl)) (by (simp only [go_sem, ↓reduceIte, Nat.reduceEqDiff, Nat.reduceAdd, Nat.reduceLeDiff, Nat.reduceBEq, Nat.reduceMul, Int.reduceEq, Int.reduceLT, Int.reduceLE, e2, e4, e5, e12, e106, wk, Int.toNat_natCast]; rfl)) (by rw [getD_one (by first | (simp only [go_sem]; rfl) | (simp only [go_sem]; done))]; rfl) ?_; refine HK _ _ rfl ?_; clear HK K)
    | (refine ao1 rfl rfl fun K HK => ?_; refine aOp_ilit (by first | rfl | (simp only [go_sem, e2, e4, e5, e12, e106, wk, Int.toNat_natCast]; rfl)) (by first | rfl | (simp only [go_sem, e2, e4, e5, e12, e106, wk, Int.toNat_natCast]; rfl)) (by first | (simp only [go_sem]; rfl) | (simp only [go_sem]; done)) (by first | (simp only [go_sem]; rfl) | (simp only [go_sem]; done)) (by decide) (by decide) ?_; refine HK _ _ ?_; clear HK K)
    | (refine ao1 rfl rfl fun K HK => ?_; refine aOp_lz (by first | rfl | (simp only [go_sem, e2, e4, e5, e12, e106, wk, Int.toNat_natCast]; rfl)) (by (simp only [go_sem, ↓reduceIte, Nat.reduceEqDiff, Nat.reduceAdd, Nat.reduceLeDiff, Nat.reduceBEq, Nat.reduceMul, Int.reduceEq, Int.reduceLT, Int.reduceLE, e2, e4, e5, e12, e106, wk, Int.toNat_natCast]; rfl)) (by rw [getD_one (by first | (simp only [go_sem]; rfl) | (simp only [go_sem]; done))]; rfl) ?_; refine HK _ _ ?_; clear HK K)
    | (refine ao1' rfl fun K HK => ?_; refine aOp_stv (by first | rfl | (simp only [go_sem, e2, e4, e5, e12, e106, wk, Int.toNat_natCast]; rfl)) (by (simp only [go_sem, ↓reduceIte, Nat.reduceEqDiff, Nat.reduceAdd, Nat.reduceLeDiff, Nat.reduceBEq, Nat.reduceMul, Int.reduceEq, Int.reduceLT, Int.reduceLE, e2, e4, e5, e12, e106, wk, Int.toNat_natCast]; rfl)) (v := rndZ kv wv u) rfl (by first | (simp only [go_sem]; rfl) | (simp only [go_sem]; done)) rfl ?_; refine HK _ _ ?_; clear HK K)
    | refine aw_seq' ?_
    | refine aw_region' ?_
    | refine aw_block ?_
    | refine ao_nil ?_
    | ((first | refine ao1 rfl rfl fun K HK => ?_ | refine aq1 rfl rfl fun K HK => ?_); simp only [go_sem, ↓reduceIte, Nat.reduceEqDiff, Nat.reduceAdd, Nat.reduceLeDiff, Nat.reduceBEq, Nat.reduceMul, Int.reduceEq, Int.reduceLT, Int.reduceLE, e2, e4, e5, e12, e106, wk, Int.toNat_natCast]; (first | refine splitB (fun hq => ?_) (fun hq => ?_) | skip) <;> ((first | refine HK _ _ ?_ | refine HK _ _ rfl ?_); clear HK K))
    | (refine aw_draw mixd (by kernel_rfl) ?_)
    | (refine ao2 rfl rfl rfl ent_190 (rotr_d G hG _ 2 (by omega) _) ?_; rintro _ _ ⟨rfl, rfl⟩)
    | refine aq2 rfl rfl rfl ent_190 (rotr_d G hG _ 6 (by omega) _) ?_
    | refine aq2 rfl rfl rfl ent_190 (rotr_d G hG _ 11 (by omega) _) ?_
    | (refine ao2 rfl rfl rfl ent_190 (rotr_d G hG _ 13 (by omega) _) ?_; rintro _ _ ⟨rfl, rfl⟩)
    | (refine ao2 rfl rfl rfl ent_190 (rotr_d G hG _ 22 (by omega) _) ?_; rintro _ _ ⟨rfl, rfl⟩)
    | refine aq2 rfl rfl rfl ent_190 (rotr_d G hG _ 25 (by omega) _) ?_
    | refine aw_if1 rfl ?_
    | refine aw_if0 rfl ?_
    | refine aw_skip ?_
    | refine aw_exit ?_
    | refine thenS_n ?_
    | (exfalso; omega)
   refine ⟨rfl, 64 - (k + 1), by omega, k + 1, rndZ kv wv u, by omega, rfl, by rw [hS']; exact hS, rfl, ?_, ?_, ?_, ?_, rfl⟩
   all_goals first | rfl | (simp [upd, e2, e4, e5, e12]; done)
 have hk64 : k = 64 := by omega
 subst hk64
 rw [Nat.sub_self, rndsZ] at hS
 repeat' first
  | refine aw_seq' ?_
  | refine aw_region' ?_
  | refine aw_block ?_
  | refine ao_nil ?_
  | ((first | refine ao1 rfl rfl fun K HK => ?_ | refine aq1 rfl rfl fun K HK => ?_); simp only [go_sem, ↓reduceIte, Nat.reduceEqDiff, Nat.reduceAdd, Nat.reduceLeDiff, Nat.reduceBEq, Nat.reduceMul, Int.reduceEq, Int.reduceLT, Int.reduceLE, e2, e4, e5, e12, e106]; (first | refine splitB (fun hq => ?_) (fun hq => ?_) | skip) <;> (refine HK _ _ ?_; clear HK K))
  | (refine aw_draw mixd (by kernel_rfl) ?_)
  | refine aw_if1 rfl ?_
  | refine aw_if0 rfl ?_
  | refine aw_skip ?_
  | refine aw_exit ?_
  | (exfalso; omega)
 refine aw_for (fun m e h' => ∃ (k : Nat) (U : List Int), k ≤ 8 ∧ m = 8 - k ∧ U.length = 8 ∧ addJ v.ls (8 - k) U = (u.add v).ls ∧ h' = [.cells (v.ls.map zD), .cells (List.replicate 8 (zD 0)), .cells (W.map zD), .cells (U.map zD)] ∧ e 2 = .ptr 0 0 ∧ e 4 = .ptr 1 0 ∧ e 12 = .ptr 3 0 ∧ e 184 = .v (.int .i64 k)) 8 ⟨0, u.ls, by omega, rfl, rfl, by rw [Nat.sub_zero]; exact addJ_eq u v, rfl, e2, e4, e12, rfl⟩ ?_
 clear hk hlt e2 e4 e5 e12 e106 e
 rintro m e h' ⟨k, U, hk, rfl, hU, hT, rfl, e2, e4, e12, e184⟩
 by_cases hlt : k < 8
 · have hx0 : U[k]? = some U[k] := List.getElem?_eq_getElem (by omega)
   have hvl : v.ls.length = 8 := rfl
   have hx1 : v.ls[k]? = some (v.ls[k]'(by omega)) := List.getElem?_eq_getElem (by omega)
   have hS' : addJ v.ls (8 - (k + 1)) (U.set k (add32 U[k] (v.ls[k]'(by omega)))) = addJ v.ls (8 - k) U := by
    obtain ⟨n, hn⟩ : ∃ n, 8 - k = n + 1 := ⟨7 - k, by omega⟩
    rw [hn, addJ, show 8 - (k + 1) = n by omega, show 7 - n = k by omega]
    simp only [List.getD_eq_getElem?_getD, hx0, hx1, Option.getD_some]
   generalize U[k] = x at hx0 hS'
   generalize (v.ls[k]'(by omega)) = y at hx1 hS'
   have wk : IntKind.i64.wrap ((k : Int) + 1) = ((k + 1 : Nat) : Int) := IntWalk.i64_in _ (by omega)
   repeat' first
    | (refine aS1 rfl rfl fun K HK => ?_; refine aOp_iarr (by first | rfl | (simp only [go_sem, e2, e4, e12, e184, wk, Int.toNat_natCast]; rfl)) (by first | rfl | (simp only [go_sem, e2, e4, e12, e184, wk, Int.toNat_natCast]; rfl)) (by first | (simp only [go_sem]; rfl) | (simp only [go_sem]; done)) (by first | (simp only [go_sem]; rfl) | (simp only [go_sem]; done)) (by omega) ?_; refine HK _ _ rfl ?_; clear HK K)
    | (refine aS_load rfl rfl rfl (by (simp only [go_sem, ↓reduceIte, Nat.reduceEqDiff, Nat.reduceAdd, Nat.reduceLeDiff, Nat.reduceBEq, Nat.reduceMul, Int.reduceEq, Int.reduceLT, Int.reduceLE, e2, e4, e12, e184, wk, Int.toNat_natCast]; rfl)) (getD_zs (by first | (simp only [go_sem]; rfl) | (simp only [go_sem]; done)) (by assumption)) ?_)
    | (refine aS_store rfl rfl (by (simp only [go_sem, ↓reduceIte, Nat.reduceEqDiff, Nat.reduceAdd, Nat.reduceLeDiff, Nat.reduceBEq, Nat.reduceMul, Int.reduceEq, Int.reduceLT, Int.reduceLE, e2, e4, e12, e184, wk, Int.toNat_natCast]; rfl)) rfl (by simp only [go_sem]) (by simp [hU]; omega) ?_)
    | refine aw_seq' ?_
    | refine aw_region' ?_
    | refine aw_block ?_
    | refine ao_nil ?_
    | ((first | refine ao1 rfl rfl fun K HK => ?_ | refine aS1 rfl rfl fun K HK => ?_); simp only [go_sem, ↓reduceIte, Nat.reduceEqDiff, Nat.reduceAdd, Nat.reduceLeDiff, Nat.reduceBEq, Nat.reduceMul, Int.reduceEq, Int.reduceLT, Int.reduceLE, e2, e4, e12, e184, wk, Int.toNat_natCast]; (first | refine splitB (fun hq => ?_) (fun hq => ?_) | skip) <;> ((first | refine HK _ _ ?_ | refine HK _ _ rfl ?_); clear HK K))
    | (refine aw_drawE mixd (by kernel_rfl) ?_)
    | refine aS_nil (by simp only [List.reverse_cons, List.reverse_nil, List.nil_append, List.cons_append, chkAll, chk1]; repeat' (first | exact trivial | refine And.intro ?_ ?_ | exact .inr compat_pl | exact .inr compat_pr | exact .inr compat_rr | exact .inr (compat_rw (by omega)) | exact .inl (by kernel_rfl))) ?_
    | refine aw_if1 rfl ?_
    | refine aw_if0 rfl ?_
    | refine aw_skip ?_
    | refine aw_exit ?_
    | refine thenS_n ?_
    | (exfalso; omega)
   refine ⟨rfl, 8 - (k + 1), by omega, k + 1, U.set k (add32 x y), by omega, rfl, by simp [hU], by rw [hS']; exact hT, ?_, ?_, ?_, ?_, rfl⟩
   · exact congrArg (fun z => [Ob.cells (v.ls.map zD), .cells (List.replicate 8 (zD 0)), .cells (W.map zD), .cells z]) (by first | exact putL_set0 (W := U) (k := k) (z := add32 x y) (by omega) | exact putL_set (W := U) (k := k) (z := add32 x y) (by omega))
   all_goals first | rfl | (simp [upd, e2, e4, e12]; done)
 have hk8 : k = 8 := by omega
 subst hk8
 rw [Nat.sub_self, addJ] at hT
 have hB : (blkZ v b).ls = U := by rw [hT]; unfold blkZ; rw [hWe, ← hS]
 rw [hB]
 rw [hT]
 repeat' first
  | (refine ao1 rfl rfl fun K HK => ?_; refine aOp_larr (by first | rfl | (simp only [go_sem, e2, e4, e12, e184]; rfl)) (by (simp only [go_sem, ↓reduceIte, Nat.reduceEqDiff, Nat.reduceAdd, Nat.reduceLeDiff, Nat.reduceBEq, Nat.reduceMul, Int.reduceEq, Int.reduceLT, Int.reduceLE, e2, e4, e12, e184]; rfl)) (getD_ws (by first | (simp only [go_sem]; rfl) | (simp only [go_sem]; done)) (by first | (simp only [go_sem]; rfl) | (simp only [go_sem]; done))) ?_; refine HK _ _ ?_; clear HK K)
  | (refine ao1' rfl fun K HK => ?_; refine aOp_stv (by first | rfl | (simp only [go_sem, e2, e4, e12, e184]; rfl)) (by (simp only [go_sem, ↓reduceIte, Nat.reduceEqDiff, Nat.reduceAdd, Nat.reduceLeDiff, Nat.reduceBEq, Nat.reduceMul, Int.reduceEq, Int.reduceLT, Int.reduceLE, e2, e4, e12, e184]; rfl)) rfl (by first | (simp only [go_sem]; rfl) | (simp only [go_sem]; done)) rfl ?_; refine HK _ _ ?_; clear HK K)
  | refine aw_seq' ?_
  | refine aw_region' ?_
  | refine aw_block ?_
  | refine ao_nil ?_
  | ((first | refine ao1 rfl rfl fun K HK => ?_ | refine aq1 rfl rfl fun K HK => ?_); simp only [go_sem, ↓reduceIte, Nat.reduceEqDiff, Nat.reduceAdd, Nat.reduceLeDiff, Nat.reduceBEq, Nat.reduceMul, Int.reduceEq, Int.reduceLT, Int.reduceLE, e2, e4, e12, e184]; (first | refine splitB (fun hq => ?_) (fun hq => ?_) | skip) <;> ((first | refine HK _ _ ?_ | refine HK _ _ rfl ?_); clear HK K))
  | (refine aw_draw mixd (by kernel_rfl) ?_)
  | refine aw_if1 rfl ?_
  | refine aw_if0 rfl ?_
  | refine aw_skip ?_
  | refine aw_exit ?_
  | refine aw_ret ?_
  | (exfalso; omega)
 exact ⟨.inr rfl, endD (ds := [.agg ((u.add v).ls.map zD)]) (r := .agg ((u.add v).ls.map zD)) hl0 (resD_cell1 (i := 1) (o := 0) (by simp [upd, e4]) rfl (getD_ws (by simp only [go_sem]) (by simp only [go_sem]))) (by simp) (by simp) (cvD_zs _ _ _) (low_ws _ _) ⟨rfl, rfl⟩⟩
end
section
set_option maxRecDepth 100000
set_option maxHeartbeats 4000000
set_option pp.maxSteps 1000000
set_option pp.deepTerms true
attribute [local irreducible] on aOp
attribute [local go_sem] decide_true decide_false Bool.not_true Bool.not_false
attribute [local simp] byD_len
theorem low_mem2 (v : W8) (q : List UInt8) (n : Nat) : lowH 2 [.cells (stL v (.buf 1 q.length) n), .buf 5 1 (byD q)] := fun x hx => by
 simp at hx
 rcases hx with rfl | rfl
 · exact low_stL (by simp [low])
 · exact low_by 2 q
variable (G : Nat → D) (hG : ∀ g, low 0 (G g))
include hG
theorem shNew0 : Does Tryz.prog G 161 [] [] (fun h' r => h' = [.cells (stL shaIV (.v (.slice none 0 0)) 0)] ∧ r = .ptr 0 0) := by
 refine does_of_aw Tryz.func161 rfl (Nat.le_of_ble_eq_true rfl) hG fun hl0 _ => ?_
 simp only [Tryz.ntmps161]
 repeat' first
  | (refine ao1 rfl rfl fun K HK => ?_; refine aOp_bld0 rfl (by simp only [go_sem]) (by simp only [go_sem]; rfl) (by simp only [go_sem]) rfl rfl rfl ?_; refine HK _ _ ?_; clear HK K)
  | refine aw_seq' ?_
  | refine aw_region' ?_
  | refine ao_nil ?_
  | (refine ao1 rfl rfl fun K HK => ?_; simp only [go_sem, ↓reduceIte, Nat.reduceEqDiff, Nat.reduceAdd, Nat.reduceLeDiff, Nat.reduceBEq, Nat.reduceMul, Int.reduceEq, Int.reduceLT, Int.reduceLE] <;> (refine HK _ _ ?_; clear HK K))
  | (refine ao2 rfl rfl rfl ent_181 (initial_d G hG _) ?_; rintro _ _ ⟨rfl, rfl⟩)
  | refine aw_ret ?_
 exact ⟨.inr rfl, [.ptr 0 0], 1, rfl, by simp, by simp, fun x hx => by (simp at hx; subst hx; exact low_stL (by rw [low]; trivial)), by simp [outD, cvD, cv1, low], rfl, rfl⟩
theorem shWrite0 (b : List UInt8) (hb : b.length ≤ 100000000) (hK : G 1 = .rp (shaK.map zD)) : Does Tryz.prog G 162 [.cells (stL shaIV (.v (.slice none 0 0)) 0)] [.ptr 0 0, .sl 1 (byD b)] (fun h' r => h' = [.cells (stL (blksZ shaIV b) (.buf 1 (restZ b).length) b.length), .buf 5 1 (byD (restZ b))] ∧ r = .tup []) := by
 have wb : IntKind.i64.wrap (((0 : Nat) : Int) + (b.length : Int)) = (b.length : Int) := (IntWalk.i64_in _ (by omega)).trans (by omega)
 refine does_of_aw Tryz.func162 rfl (Nat.le_of_ble_eq_true rfl) hG fun hl0 _ => ?_
 simp only [Tryz.ntmps162]
 repeat' first
  | (refine ao1 rfl rfl fun K HK => ?_; refine aOp_larr (by first | rfl | (simp only [go_sem, wb]; rfl)) (by (simp only [go_sem, ↓reduceIte, Nat.reduceEqDiff, Nat.reduceAdd, Nat.reduceLeDiff, Nat.reduceBEq, Nat.reduceMul, Int.reduceEq, Int.reduceLT, Int.reduceLE, wb]; rfl)) (getD_rS (by first | (simp only [go_sem]; rfl) | (simp only [go_sem]; done))) ?_; refine HK _ _ ?_; clear HK K)
  | (refine ao1 rfl rfl fun K HK => ?_; refine aOp_larr (by first | rfl | (simp only [go_sem, wb]; rfl)) (by (simp only [go_sem, ↓reduceIte, Nat.reduceEqDiff, Nat.reduceAdd, Nat.reduceLeDiff, Nat.reduceBEq, Nat.reduceMul, Int.reduceEq, Int.reduceLT, Int.reduceLE, wb]; rfl)) (getD_nS (by first | (simp only [go_sem]; rfl) | (simp only [go_sem]; done))) ?_; refine HK _ _ ?_; clear HK K)
  | (refine ao1' rfl fun K HK => ?_; refine aOp_stn8 (by first | rfl | (simp only [go_sem, wb]; rfl)) (by (simp only [go_sem, ↓reduceIte, Nat.reduceEqDiff, Nat.reduceAdd, Nat.reduceLeDiff, Nat.reduceBEq, Nat.reduceMul, Int.reduceEq, Int.reduceLT, Int.reduceLE, wb]; rfl)) rfl (by first | (simp only [go_sem]; rfl) | (simp only [go_sem]; done)) ?_; refine HK _ _ ?_; clear HK K)
  | refine aw_seq' ?_
  | refine aw_region' ?_
  | refine aw_block ?_
  | refine ao_nil ?_
  | (refine ao1 rfl rfl fun K HK => ?_; simp only [go_sem, ↓reduceIte, Nat.reduceEqDiff, Nat.reduceAdd, Nat.reduceLeDiff, Nat.reduceBEq, Nat.reduceMul, Int.reduceEq, Int.reduceLT, Int.reduceLE, wb] <;> (refine HK _ _ ?_; clear HK K))
  | refine aw_if0 rfl ?_
  | refine aw_skip ?_
 refine aw_for (fun m e h' => ∃ (v : W8) (c : List UInt8), m = c.length ∧ c.length ≤ b.length ∧ blksZ v c = blksZ shaIV b ∧ restZ c = restZ b ∧ h' = [.cells (stL v (.v (.slice none 0 0)) b.length)] ∧ e 0 = .ptr 0 0 ∧ e 1 = .sl 1 (byD c)) b.length ⟨shaIV, b, rfl, Nat.le_refl _, rfl, rfl, rfl, rfl, rfl⟩ ?_
 rintro m e h' ⟨v, c, rfl, hcl, hB, hR, rfl, e0, e1⟩
 by_cases hlt : 64 ≤ c.length
 · have hx : ((byD c).take (Int.toNat 64)).drop (Int.toNat 0) = byD (c.take 64) := by rw [byD_cut]; rfl
   have hy : ((byD c).take c.length).drop (Int.toNat 64) = byD (c.drop 64) := by rw [byD_cut, List.take_of_length_le (Nat.le_refl _)]; rfl
   have hl64 : (c.take 64).length = 64 := by rw [List.length_take]; omega
   repeat' first
    | (refine aS_load rfl rfl (by first | rfl | (simp only [go_sem, e0, e1]; rfl)) (by (simp only [go_sem, ↓reduceIte, Nat.reduceEqDiff, Nat.reduceAdd, Nat.reduceLeDiff, Nat.reduceBEq, Nat.reduceMul, Int.reduceEq, Int.reduceLT, Int.reduceLE, e0, e1]; rfl)) (getD_wS (by first | (simp only [go_sem]; rfl) | (simp only [go_sem]; done)) (by first | (simp only [go_sem]; rfl) | (simp only [go_sem]; done))) ?_)
    | (refine aS1 rfl rfl fun K HK => ?_; refine aOp_supto64 (c := c) (by first | rfl | (simp only [go_sem, e0, e1]; rfl)) (by simp only [go_sem, Option.bind_some]) hlt ?_; refine HK _ _ rfl ?_; clear HK K)
    | (refine ao1 rfl rfl fun K HK => ?_; refine aOp_sfrom64 (c := c) (by first | rfl | (simp only [go_sem, e0, e1]; rfl)) (by simp only [go_sem, Option.bind_some]) hlt ?_; refine HK _ _ ?_; clear HK K)
    | (refine aS_store (es := (blkZ v (c.take 64)).ls.map zD) rfl (by first | rfl | (simp only [go_sem, e0, e1]; rfl)) (by (simp only [go_sem, ↓reduceIte, Nat.reduceEqDiff, Nat.reduceAdd, Nat.reduceLeDiff, Nat.reduceBEq, Nat.reduceMul, Int.reduceEq, Int.reduceLT, Int.reduceLE, e0, e1]; rfl)) rfl (by rw [all_zs]; simp only [go_sem]; rfl) (by simp [stL, W8.ls]) ?_)
    | refine aw_seq' ?_
    | refine aw_region' ?_
    | refine aw_block ?_
    | refine ao_nil ?_
    | ((first | refine ao1 rfl rfl fun K HK => ?_ | refine aS1 rfl rfl fun K HK => ?_); simp only [go_sem, ↓reduceIte, Nat.reduceEqDiff, Nat.reduceAdd, Nat.reduceLeDiff, Nat.reduceBEq, Nat.reduceMul, Int.reduceEq, Int.reduceLT, Int.reduceLE, e0, e1]; (first | refine splitB (fun hq => ?_) (fun hq => ?_) | skip) <;> ((first | refine HK _ _ ?_ | refine HK _ _ rfl ?_); clear HK K))
    | (refine aw_drawE mixd (by kernel_rfl) ?_)
    | refine ao_appR rfl rfl rfl (by (simp only [go_sem, ↓reduceIte, Nat.reduceEqDiff, Nat.reduceAdd, Nat.reduceLeDiff, Nat.reduceBEq, Nat.reduceMul, Int.reduceEq, Int.reduceLT, Int.reduceLE, e0, e1]; rfl)) (by simp) (by simp only [go_sem]; rfl) rfl (by exact rowsOk_by _) (by omega) ?_
    | refine aS_nil (by simp only [List.reverse_cons, List.reverse_nil, List.nil_append, List.cons_append, chkAll, chk1]; repeat' (first | exact trivial | refine And.intro ?_ ?_ | exact .inr compat_pl | exact .inr compat_pr | exact .inl (by kernel_rfl))) ?_
    | refine aS_call0 rfl rfl rfl ent_182 (fun h2 => block_d G hG v (c.take 64) hl64 hK _) ?_
    | refine aw_if1 rfl ?_
    | refine aw_if0 rfl ?_
    | refine aw_skip ?_
    | refine aw_exit ?_
    | refine thenS_n ?_
    | refine inB_n ?_
    | (exfalso; omega)
   exact ⟨rfl, (c.drop 64).length, by simp; omega, blkZ v (c.take 64), c.drop 64, rfl, by simp; omega, by rw [← blksZ_ge hlt]; exact hB, by rw [restZ_ge hlt]; exact hR, rfl, by simp [upd, e0], rfl⟩
 · skip
   repeat' first
    | (refine ao1' rfl fun K HK => ?_; refine aOp_str8 (by first | rfl | (simp only [go_sem, e0, e1]; rfl)) (by (simp only [go_sem, ↓reduceIte, Nat.reduceEqDiff, Nat.reduceAdd, Nat.reduceLeDiff, Nat.reduceBEq, Nat.reduceMul, Int.reduceEq, Int.reduceLT, Int.reduceLE, e0, e1]; rfl)) rfl rfl (by first | (simp only [go_sem]; rfl) | (simp only [go_sem]; done)) ?_; refine HK _ _ ?_; clear HK K)
    | refine aw_seq' ?_
    | refine aw_region' ?_
    | refine aw_block ?_
    | refine ao_nil ?_
    | ((first | refine ao1 rfl rfl fun K HK => ?_ | refine aq1 rfl rfl fun K HK => ?_); simp only [go_sem, ↓reduceIte, Nat.reduceEqDiff, Nat.reduceAdd, Nat.reduceLeDiff, Nat.reduceBEq, Nat.reduceMul, Int.reduceEq, Int.reduceLT, Int.reduceLE, e0, e1]; (first | refine splitB (fun hq => ?_) (fun hq => ?_) | skip) <;> ((first | refine HK _ _ ?_ | refine HK _ _ rfl ?_); clear HK K))
    | (refine aw_draw mixd (by kernel_rfl) ?_)
    | refine ao_appR rfl rfl rfl (by (simp only [go_sem, ↓reduceIte, Nat.reduceEqDiff, Nat.reduceAdd, Nat.reduceLeDiff, Nat.reduceBEq, Nat.reduceMul, Int.reduceEq, Int.reduceLT, Int.reduceLE, e0, e1]; rfl)) (by simp) (by simp only [go_sem]; rfl) rfl (by exact rowsOk_by _) (by (simp; omega)) ?_
    | refine aw_if1 rfl ?_
    | refine aw_if0 rfl ?_
    | refine aw_skip ?_
    | refine aw_exit ?_
    | (exfalso; omega)
   rw [blksZ_lt (by omega)] at hB
   rw [restZ_lt (by omega)] at hR
   subst hB hR
   have e3 : 0 + (byD (restZ b)).length = (restZ b).length := by rw [byD_len, Nat.zero_add]
   exact ⟨.inl rfl, endX [] [.cells (stL (blksZ shaIV b) (.buf 1 (restZ b).length) b.length), .buf 5 1 (byD (restZ b))] [] (.tup []) rfl (congrArg (fun m => [Ob.cells (stL (blksZ shaIV b) (.buf 1 m) b.length), .buf 5 1 (byD (restZ b))]) e3) (by simp) (low_mem2 _ _ _) (by simp [low, lowL]) rfl ⟨rfl, rfl⟩⟩
theorem shSum0 (v : W8) (q : List UInt8) (n : Nat) (hql : q.length < 64) (hn : n ≤ 100000000) (hK : G 1 = .rp (shaK.map zD)) : Does Tryz.prog G 163 [.cells (stL v (.buf 1 q.length) n), .buf 5 1 (byD q)] [.ptr 0 0] (fun h' r => h' = [.cells (stL v (.buf 1 q.length) n), .buf 5 1 (byD q)] ∧ r = .v (.string ⟨(outZ (blksZ v (padZ q n))).toArray⟩)) := by
 generalize hA : Ob.cells (stL v (.buf 1 q.length) n) = A
 generalize hBq : Ob.buf 5 1 (byD q) = B
 refine does_of_aw Tryz.func163 rfl (Nat.le_of_ble_eq_true rfl) hG fun hl0 _ => ?_
 simp only [Tryz.ntmps163]
 repeat' first
  | (refine ao1 rfl rfl fun K HK => ?_; refine aOp_larr (by first | rfl | (simp only [go_sem, go_sem]; rfl)) (by first | exact congrArg some hA.symm | (simp only [sM_0, sM_1, sM_2, sM_a0, sM_a1, sM_a2, sM_s2, sM_b2, sM_len, sM_last]; exact congrArg some hA.symm)) (getD_rS (by first | (simp only [go_sem]; rfl) | (simp only [go_sem]; done))) ?_; refine HK _ _ ?_; clear HK K)
  | (refine ao_appB rfl rfl rfl rfl (by first | rfl | (simp only [← hA, ← hBq]; done) | (simp only [← hA, ← hBq]; rfl)) (by simp) (by simp only [go_sem]; rfl) (by first | rfl | (simp only [← hA, ← hBq]; done) | (simp only [← hA, ← hBq]; rfl)) (by simp) (by first | assumption | exact rowsOk_nil _ | exact rowsOk_by _ | (simp [rowsOk, D.one, Value.oneCell']; done)) (by first | omega | (simp; done) | (simp; omega) | (simp [byD]; omega)) ?_)
  | refine aw_seq' ?_
  | refine aw_region' ?_
  | refine aw_block ?_
  | refine ao_nil ?_
  | (refine ao1 rfl rfl fun K HK => ?_; simp only [go_sem, ↓reduceIte, Nat.reduceEqDiff, Nat.reduceAdd, Nat.reduceLeDiff, Nat.reduceBEq, Nat.reduceMul, Int.reduceEq, Int.reduceLT, Int.reduceLE] <;> (refine HK _ _ ?_; clear HK K))
 refine aw_for (fun m e h' => ∃ (k : Nat) (cur : List UInt8) (T : List Ob), k ≤ zc q.length ∧ m = zc q.length - k ∧ cur = q ++ [128] ++ List.replicate k 0 ∧ h' = sM A B (.buf 5 1 (byD cur)) T ∧ e 0 = .ptr 0 0 ∧ e 3 = .buf 2 cur.length) (zc q.length) ⟨0, q ++ [128], [.buf 5 1 (byD [128])], Nat.zero_le _, rfl, by simp, ?_, rfl, ?_⟩ ?_
 · exact congrArg (fun x => [A, B, Ob.buf 5 1 x, .buf 5 1 [[.v (.int .u8 128)]]]) (by simp [byD] : byD q ++ [[D.v (.int .u8 128)]] = byD (q ++ [128]))
 · simp [upd]
 rintro m e h' ⟨k, cur, T, hk, rfl, hcur, rfl, e0, e3⟩
 have hcl : cur.length = q.length + 1 + k := by rw [hcur]; simp; omega
 have hz : zc q.length = (119 - q.length % 64) % 64 := rfl
 have wr : (cur.length : Int).tmod 64 = ((cur.length % 64 : Nat) : Int) := by rw [Int.tmod_eq_emod_of_nonneg (by omega)]; rfl
 by_cases hlt : k < zc q.length
 · skip
   repeat' first
    | refine aw_seq' ?_
    | refine aw_region' ?_
    | refine aw_block ?_
    | refine ao_nil ?_
    | (refine ao1 rfl rfl fun K HK => ?_; simp only [go_sem, ↓reduceIte, Nat.reduceEqDiff, Nat.reduceAdd, Nat.reduceLeDiff, Nat.reduceBEq, Nat.reduceMul, Int.reduceEq, Int.reduceLT, Int.reduceLE, e0, e3, wr, sM_0, sM_1, sM_2, sM_a0, sM_a1, sM_a2, sM_s2, sM_b2, sM_len, sM_last, sM_l, sM_sl, Int.reduceBEq]; (first | refine splitN (fun hq => ?_) (fun hq => ?_) | skip) <;> (refine HK _ _ ?_; clear HK K))
    | refine ao_appB rfl rfl rfl rfl (by (simp only [go_sem, ↓reduceIte, Nat.reduceEqDiff, Nat.reduceAdd, Nat.reduceLeDiff, Nat.reduceBEq, Nat.reduceMul, Int.reduceEq, Int.reduceLT, Int.reduceLE, e0, e3, wr, sM_0, sM_1, sM_2, sM_a0, sM_a1, sM_a2, sM_s2, sM_b2, sM_len, sM_last, sM_l, sM_sl, Int.reduceBEq]; rfl)) (by simp) (by simp only [go_sem]; rfl) (by (simp only [go_sem, ↓reduceIte, Nat.reduceEqDiff, Nat.reduceAdd, Nat.reduceLeDiff, Nat.reduceBEq, Nat.reduceMul, Int.reduceEq, Int.reduceLT, Int.reduceLE, e0, e3, wr, sM_0, sM_1, sM_2, sM_a0, sM_a1, sM_a2, sM_s2, sM_b2, sM_len, sM_last, sM_l, sM_sl, Int.reduceBEq]; rfl)) (by simp) (by (simp [rowsOk, D.one, Value.oneCell']; done)) (by (simp; omega)) ?_
    | refine aw_if1 rfl ?_
    | refine aw_if0 rfl ?_
    | refine aw_skip ?_
    | refine aw_exit ?_
    | refine thenS_n ?_
    | refine inB_n ?_
    | (exfalso; omega)
   · refine ⟨rfl, zc q.length - (k + 1), by omega, k + 1, cur ++ [0], T ++ [.buf 5 1 [[.v (.int .u8 0)]]], by omega, rfl, by rw [hcur]; simp [List.replicate_succ'], ?_, by simp [upd, e0], by simp [upd]⟩
     exact congrArg (fun x => sM A B (.buf 5 1 x) (T ++ [.buf 5 1 [[.v (.int .u8 0)]]])) (by simp [byD] : byD cur ++ [[D.v (.int .u8 0)]] = byD (cur ++ [0]))
   all_goals (exfalso; omega)
 have hkz : k = zc q.length := by omega
 have wn : IntKind.u64.wrap (n : Int) = (n : Int) := by rw [IntKind.wrap_u64]; omega
 have w8 : IntKind.u64.wrap ((n : Int) * 8) = ((8 * n : Nat) : Int) := by rw [IntKind.wrap_u64]; omega
 repeat' first
  | (refine ao1 rfl rfl fun K HK => ?_; refine aOp_larr (by first | rfl | (simp only [go_sem, e0, e3]; rfl)) (by first | exact congrArg some hA.symm | (simp only [sM_0, sM_1, sM_2, sM_a0, sM_a1, sM_a2, sM_s2, sM_b2, sM_len, sM_last]; exact congrArg some hA.symm)) (getD_nS (by first | (simp only [go_sem]; rfl) | (simp only [go_sem]; done))) ?_; refine HK _ _ ?_; clear HK K)
  | refine aw_seq' ?_
  | refine aw_region' ?_
  | refine aw_block ?_
  | refine ao_nil ?_
  | (refine ao1 rfl rfl fun K HK => ?_; simp only [go_sem, ↓reduceIte, Nat.reduceEqDiff, Nat.reduceAdd, Nat.reduceLeDiff, Nat.reduceBEq, Nat.reduceMul, Int.reduceEq, Int.reduceLT, Int.reduceLE, e0, e3, wr, wn, w8, sM_0, sM_1, sM_2, sM_a0, sM_a1, sM_a2, sM_s2, sM_b2, sM_len, sM_last, sM_l, sM_sl, Int.reduceBEq]; (first | refine splitN (fun hq => ?_) (fun hq => ?_) | skip) <;> (refine HK _ _ ?_; clear HK K))
  | refine ao_appB rfl rfl rfl rfl (by (simp only [go_sem, ↓reduceIte, Nat.reduceEqDiff, Nat.reduceAdd, Nat.reduceLeDiff, Nat.reduceBEq, Nat.reduceMul, Int.reduceEq, Int.reduceLT, Int.reduceLE, e0, e3, wr, wn, w8, sM_0, sM_1, sM_2, sM_a0, sM_a1, sM_a2, sM_s2, sM_b2, sM_len, sM_last, sM_l, sM_sl, Int.reduceBEq]; rfl)) (by simp) (by simp only [go_sem]; rfl) (by (simp only [go_sem, ↓reduceIte, Nat.reduceEqDiff, Nat.reduceAdd, Nat.reduceLeDiff, Nat.reduceBEq, Nat.reduceMul, Int.reduceEq, Int.reduceLT, Int.reduceLE, e0, e3, wr, wn, w8, sM_0, sM_1, sM_2, sM_a0, sM_a1, sM_a2, sM_s2, sM_b2, sM_len, sM_last, sM_l, sM_sl, Int.reduceBEq]; rfl)) (by simp) (by (simp [rowsOk, D.one, Value.oneCell']; done)) (by omega) ?_
  | refine aw_if1 rfl ?_
  | refine aw_if0 rfl ?_
  | refine aw_skip ?_
  | refine aw_exit ?_
  | refine thenS_n ?_
  | refine inB_n ?_
  | (exfalso; omega)
 rotate_left
 all_goals try (exfalso; omega)
 refine aw_for (fun m e h' => ∃ (j : Nat) (T : List Ob), j ≤ 8 ∧ m = 8 - j ∧ h' = sM A B (.buf 5 1 (byD (cur ++ (be8 (8 * n)).take j))) T ∧ e 0 = .ptr 0 0 ∧ e 3 = .buf 2 (cur.length + j) ∧ e 4 = .v (.int .u64 ((8 * n : Nat) : Int)) ∧ e 5 = .v (.int .i64 (56 - 8 * (j : Int)))) 8 ⟨0, T, by omega, rfl, by simp, by simp [upd, e0], by simp [upd, e3], rfl, rfl⟩ ?_
 clear hlt e0 e3 wr T e
 rintro m e h' ⟨j, T, hj, rfl, rfl, e0, e3, e4, e5⟩
 have hbl : (be8 (8 * n)).length = 8 := by simp [be8]
 have hcj : (cur ++ (be8 (8 * n)).take j).length = cur.length + j := by rw [List.length_append, List.length_take, hbl]; omega
 by_cases hlt : j < 8
 · have ws : decide ((0 : Int) ≤ 56 - 8 * (j : Int)) = true := decide_eq_true (by omega)
   have wt : (56 - 8 * (j : Int)).toNat = 56 - 8 * j := by omega
   have hv := be8_val (8 * n) (56 - 8 * j) (by omega)
   have w5 : IntKind.i64.wrap (56 - 8 * (j : Int) - 8) = 56 - 8 * ((j + 1 : Nat) : Int) := (IntWalk.i64_in _ (by omega)).trans (by omega)
   generalize hP : cur ++ (be8 (8 * n)).take j = P at hcj
   rw [← hcj] at e3
   repeat' first
    | refine aw_seq' ?_
    | refine aw_region' ?_
    | refine aw_block ?_
    | refine ao_nil ?_
    | (refine ao1 rfl rfl fun K HK => ?_; simp only [go_sem, ↓reduceIte, Nat.reduceEqDiff, Nat.reduceAdd, Nat.reduceLeDiff, Nat.reduceBEq, Nat.reduceMul, Int.reduceEq, Int.reduceLT, Int.reduceLE, e0, e3, e4, e5, ws, wt, hv, w5, sM_0, sM_1, sM_2, sM_a0, sM_a1, sM_a2, sM_s2, sM_b2, sM_len, sM_last, sM_l, sM_sl] <;> (refine HK _ _ ?_; clear HK K))
    | refine ao_appB rfl rfl rfl rfl (by (simp only [go_sem, ↓reduceIte, Nat.reduceEqDiff, Nat.reduceAdd, Nat.reduceLeDiff, Nat.reduceBEq, Nat.reduceMul, Int.reduceEq, Int.reduceLT, Int.reduceLE, e0, e3, e4, e5, ws, wt, hv, w5, sM_0, sM_1, sM_2, sM_a0, sM_a1, sM_a2, sM_s2, sM_b2, sM_len, sM_last, sM_l, sM_sl]; rfl)) (by simp) (by simp only [go_sem]; rfl) (by (simp only [go_sem, ↓reduceIte, Nat.reduceEqDiff, Nat.reduceAdd, Nat.reduceLeDiff, Nat.reduceBEq, Nat.reduceMul, Int.reduceEq, Int.reduceLT, Int.reduceLE, e0, e3, e4, e5, ws, wt, hv, w5, sM_0, sM_1, sM_2, sM_a0, sM_a1, sM_a2, sM_s2, sM_b2, sM_len, sM_last, sM_l, sM_sl]; rfl)) (by simp) (by (simp [rowsOk, D.one, Value.oneCell']; done)) (by (simp; omega)) ?_
    | refine aw_if1 rfl ?_
    | refine aw_skip ?_
    | refine thenS_n ?_
   · refine ⟨rfl, 8 - (j + 1), by omega, j + 1, T ++ [.buf 5 1 [[.v (.int .u8 ((UInt8.ofNat (8 * n / 2 ^ (56 - 8 * j))).toNat : Int))]]], by omega, rfl, ?_, by simp [upd, e0], ?_, by simp [upd, e4], rfl⟩
     · rw [be8_take (8 * n) hlt, ← List.append_assoc, hP]
       exact congrArg (fun x => sM A B (.buf 5 1 x) (T ++ [.buf 5 1 [[.v (.int .u8 ((UInt8.ofNat (8 * n / 2 ^ (56 - 8 * j))).toNat : Int))]]])) (by simp [byD] : byD P ++ [[D.v (.int .u8 ((UInt8.ofNat (8 * n / 2 ^ (56 - 8 * j))).toNat : Int))]] = byD (P ++ [UInt8.ofNat (8 * n / 2 ^ (56 - 8 * j))]))
     · simp [upd]; omega
   all_goals (exfalso; omega)
 have hj8 : j = 8 := by omega
 subst hj8
 have hP : cur ++ (be8 (8 * n)).take 8 = padZ q n := by
  rw [List.take_of_length_le (by omega), hcur, hkz]; rfl
 rw [hP] at hcj ⊢
 rw [← hcj] at e3
 have hPm := padZ_len q n
 have hPl : (padZ q n).length ≤ 200 := by rw [hcj, hcl]; omega
 generalize padZ q n = P at hPm hPl e3 ⊢
 have ws : decide ((0 : Int) ≤ 56 - 8 * ((8 : Nat) : Int)) = false := decide_eq_false (by omega)
 repeat' first
  | (refine ao1 rfl rfl fun K HK => ?_; refine aOp_larr (by first | rfl | (simp only [go_sem, e0, e3]; rfl)) (by first | exact congrArg some hA.symm | (simp only [sM_0, sM_1, sM_2, sM_a0, sM_a1, sM_a2, sM_s2, sM_b2, sM_len, sM_last]; exact congrArg some hA.symm)) (getD_wS (by first | (simp only [go_sem]; rfl) | (simp only [go_sem]; done)) (by first | (simp only [go_sem]; rfl) | (simp only [go_sem]; done))) ?_; refine HK _ _ ?_; clear HK K)
  | (refine ao1' rfl fun K HK => ?_; refine aOp_stv (by first | rfl | (simp only [go_sem, e0]; rfl)) (by (simp only [go_sem, ↓reduceIte, Nat.reduceEqDiff, Nat.reduceAdd, Nat.reduceLeDiff, Nat.reduceBEq, Nat.reduceMul, Int.reduceEq, Int.reduceLT, Int.reduceLE, e0, e3, e4, e5, ws, sM_0, sM_1, sM_2, sM_a0, sM_a1, sM_a2, sM_s2, sM_b2, sM_len, sM_last, sM_l, sM_sl]; rfl)) rfl (by first | (simp only [go_sem]; rfl) | (simp only [go_sem]; done)) rfl ?_; refine HK _ _ ?_; clear HK K)
  | refine aw_seq' ?_
  | refine aw_region' ?_
  | refine aw_block ?_
  | refine ao_nil ?_
  | (refine ao1 rfl rfl fun K HK => ?_; simp only [go_sem, ↓reduceIte, Nat.reduceEqDiff, Nat.reduceAdd, Nat.reduceLeDiff, Nat.reduceBEq, Nat.reduceMul, Int.reduceEq, Int.reduceLT, Int.reduceLE, e0, e3, e4, e5, ws, sM_0, sM_1, sM_2, sM_a0, sM_a1, sM_a2, sM_s2, sM_b2, sM_len, sM_last, sM_l, sM_sl] <;> (refine HK _ _ ?_; clear HK K))
  | refine aw_if0 rfl ?_
  | refine aw_exit ?_
 all_goals try (exfalso; omega)
 refine aw_give 2 3 ?_
 refine aw_for (fun m e h' => ∃ (v' : W8) (c : List UInt8), m = c.length ∧ c.length % 64 = 0 ∧ c.length ≤ 200 ∧ blksZ v' c = blksZ v P ∧ h' = sM A B .dead (T ++ [.cells (v'.ls.map zD)]) ∧ e 3 = .sl 1 (byD c) ∧ e 6 = .ptr (T.length + 3) 0) P.length ⟨v, P, rfl, hPm, hPl, rfl, ?_, ?_, ?_⟩ ?_
 · simp [sM]
 · simp [upd, e3, cvD, cv1, sM]
 · simp [upd]
 clear e0 e3 e4 e5 ws hlt e
 rintro m e h' ⟨v', c, rfl, hm, hcl2, hB, rfl, e3, e6⟩
 by_cases h0 : 0 < c.length
 · have h64 : 64 ≤ c.length := by omega
   have hl64 : (c.take 64).length = 64 := by rw [List.length_take]; omega
   repeat' first
    | (refine aS1 rfl rfl fun K HK => ?_; refine aOp_supto64 (c := c) (by first | rfl | (simp only [go_sem, e3, e6]; rfl)) (by simp only [go_sem, Option.bind_some]) h64 ?_; refine HK _ _ rfl ?_; clear HK K)
    | (refine ao1 rfl rfl fun K HK => ?_; refine aOp_sfrom64 (c := c) (by first | rfl | (simp only [go_sem, e3, e6]; rfl)) (by simp only [go_sem, Option.bind_some]) h64 ?_; refine HK _ _ ?_; clear HK K)
    | (refine aS_load rfl rfl (by first | rfl | (simp only [go_sem, e3, e6]; rfl)) (by (simp only [go_sem, ↓reduceIte, Nat.reduceEqDiff, Nat.reduceAdd, Nat.reduceLeDiff, Nat.reduceBEq, Nat.reduceMul, Int.reduceEq, Int.reduceLT, Int.reduceLE, e3, e6, sM_0, sM_1, sM_2, sM_a0, sM_a1, sM_a2, sM_s2, sM_b2, sM_len, sM_last, sM_l, sM_sl]; rfl)) (getD_ws (by first | (simp only [go_sem]; rfl) | (simp only [go_sem]; done)) (by first | (simp only [go_sem]; rfl) | (simp only [go_sem]; done))) ?_)
    | (refine aS_store (es := (blkZ v' (c.take 64)).ls.map zD) rfl (by first | rfl | (simp only [go_sem, e3, e6]; rfl)) (by (simp only [go_sem, ↓reduceIte, Nat.reduceEqDiff, Nat.reduceAdd, Nat.reduceLeDiff, Nat.reduceBEq, Nat.reduceMul, Int.reduceEq, Int.reduceLT, Int.reduceLE, e3, e6, sM_0, sM_1, sM_2, sM_a0, sM_a1, sM_a2, sM_s2, sM_b2, sM_len, sM_last, sM_l, sM_sl]; rfl)) rfl (by rw [all_zs]; simp only [go_sem]; rfl) (by simp [W8.ls]) ?_)
    | refine aw_seq' ?_
    | refine aw_region' ?_
    | refine aw_block ?_
    | refine ao_nil ?_
    | ((first | refine ao1 rfl rfl fun K HK => ?_ | refine aS1 rfl rfl fun K HK => ?_); simp only [go_sem, ↓reduceIte, Nat.reduceEqDiff, Nat.reduceAdd, Nat.reduceLeDiff, Nat.reduceBEq, Nat.reduceMul, Int.reduceEq, Int.reduceLT, Int.reduceLE, e3, e6, sM_0, sM_1, sM_2, sM_a0, sM_a1, sM_a2, sM_s2, sM_b2, sM_len, sM_last, sM_l, sM_sl]; (first | refine splitB (fun hq => ?_) (fun hq => ?_) | skip) <;> ((first | refine HK _ _ ?_ | refine HK _ _ rfl ?_); clear HK K))
    | (refine aw_drawE mixd (by kernel_rfl) ?_)
    | refine aS_nil (by simp only [List.reverse_cons, List.reverse_nil, List.nil_append, List.cons_append, chkAll, chk1]; repeat' (first | exact trivial | refine And.intro ?_ ?_ | exact .inr compat_pl | exact .inr compat_pr | exact .inl (by kernel_rfl))) ?_
    | refine aS_call0 rfl rfl rfl ent_182 (fun h2 => block_d G hG v' (c.take 64) hl64 hK _) ?_
    | refine aw_if1 rfl ?_
    | refine aw_if0 rfl ?_
    | refine aw_skip ?_
    | refine aw_exit ?_
    | refine thenS_n ?_
    | (exfalso; omega)
   exact ⟨rfl, (c.drop 64).length, by simp; omega, blkZ v' (c.take 64), c.drop 64, rfl, by simp; omega, by simp; omega, by rw [← blksZ_ge h64]; exact hB, rfl, rfl, by simp [upd, e6]⟩
 obtain rfl : c = [] := List.eq_nil_of_length_eq_zero (by omega)
 rw [blksZ_lt (by simp)] at hB
 subst hB
 generalize blksZ v P = v'
 repeat' first
  | (refine ao_make0 (m := 32) (el := 5) (k := 1) (by' := 1) (zs := [.v (.int .u8 0)]) rfl rfl rfl rfl (by simp only [go_sem]) (by kernel_rfl) rfl (by decide) (by decide) ?_)
  | (refine ao1 rfl rfl fun K HK => ?_; refine aOp_larr (by first | rfl | (simp only [go_sem, e3, e6]; rfl)) (by (simp only [go_sem, ↓reduceIte, Nat.reduceEqDiff, Nat.reduceAdd, Nat.reduceLeDiff, Nat.reduceBEq, Nat.reduceMul, Int.reduceEq, Int.reduceLT, Int.reduceLE, e3, e6, sM_0, sM_1, sM_2, sM_a0, sM_a1, sM_a2, sM_s2, sM_b2, sM_len, sM_last, sM_l, sM_sl, sM_ma, sM_m]; rfl)) (getD_ws (by first | (simp only [go_sem]; rfl) | (simp only [go_sem]; done)) (by first | (simp only [go_sem]; rfl) | (simp only [go_sem]; done))) ?_; refine HK _ _ ?_; clear HK K)
  | refine aw_seq' ?_
  | refine aw_region' ?_
  | refine aw_block ?_
  | refine ao_nil ?_
  | ((first | refine ao1 rfl rfl fun K HK => ?_ | refine aq1 rfl rfl fun K HK => ?_); simp only [go_sem, ↓reduceIte, Nat.reduceEqDiff, Nat.reduceAdd, Nat.reduceLeDiff, Nat.reduceBEq, Nat.reduceMul, Int.reduceEq, Int.reduceLT, Int.reduceLE, e3, e6, sM_0, sM_1, sM_2, sM_a0, sM_a1, sM_a2, sM_s2, sM_b2, sM_len, sM_last, sM_l, sM_sl, sM_ma, sM_m]; (first | refine splitB (fun hq => ?_) (fun hq => ?_) | skip) <;> (refine HK _ _ ?_; clear HK K))
  | (refine aw_draw mixd (by kernel_rfl) ?_)
  | refine aw_if1 rfl ?_
  | refine aw_if0 rfl ?_
  | refine aw_skip ?_
  | refine aw_exit ?_
  | (exfalso; omega)
 generalize hT2 : T ++ [Ob.cells (v'.ls.map zD)] = T2
 refine aw_for (fun m e h' => ∃ (k : Nat) (out : List UInt8) (U : List Ob), k ≤ 8 ∧ m = 8 - k ∧ out = ((v'.ls.take k).map outW).flatten ∧ h' = sM A B .dead (T2 ++ .buf 5 1 (byD out) :: U) ∧ e 7 = .buf (T2.length + 3) out.length ∧ e 56 = .agg (v'.ls.map zD) ∧ e 57 = .v (.int .i64 k)) 8 ⟨0, [], [], by omega, rfl, rfl, rfl, ?_, ?_, rfl⟩ ?_
 · simp [upd, ← hT2, sM]
 · simp [upd]
 clear e3 e6 e
 rintro m e h' ⟨k, out, U, hk8, rfl, ho, rfl, e7, e56, e57⟩
 have hvl : v'.ls.length = 8 := rfl
 have hol : out.length = 4 * k := by
  rw [ho, List.length_flatten, List.map_map]
  have : ∀ l : List Int, (l.map (List.length ∘ outW)).sum = 4 * l.length := fun l => by
   induction l with
   | nil => rfl
   | cons a t ih => rw [List.map_cons, List.sum_cons, ih]; simp [outW]; omega
  rw [this, List.length_take, hvl]; omega
 by_cases h0 : k < 8
 · have hz : v'.ls[k]? = some (v'.ls[k]'(by omega)) := List.getElem?_eq_getElem (by omega)
   generalize (v'.ls[k]'(by omega)) = z at hz
   have wk : IntKind.i64.wrap ((k : Int) + 1) = ((k + 1 : Nat) : Int) := IntWalk.i64_in _ (by omega)
   repeat' first
    | (refine ao1 rfl rfl fun K HK => ?_; refine aOp_ind8 (by first | rfl | (simp only [go_sem, e7, e56, e57]; rfl)) (by first | rfl | (simp only [go_sem, e7, e56, e57]; rfl)) (by first | (simp only [go_sem]; rfl) | (simp only [go_sem]; done)) (by first | (simp only [go_sem]; rfl) | (simp only [go_sem]; done)) (by first | (simp only [go_sem]; rfl) | (simp only [go_sem]; done)) (by omega) hz ?_; refine HK _ _ ?_; clear HK K)
    | refine aw_seq' ?_
    | refine aw_region' ?_
    | refine aw_block ?_
    | refine ao_nil ?_
    | (refine ao1 rfl rfl fun K HK => ?_; simp only [go_sem, ↓reduceIte, Nat.reduceEqDiff, Nat.reduceAdd, Nat.reduceLeDiff, Nat.reduceBEq, Nat.reduceMul, Int.reduceEq, Int.reduceLT, Int.reduceLE, e7, e56, e57, wk, sM_0, sM_1, sM_2, sM_a0, sM_a1, sM_a2, sM_s2, sM_b2, sM_len, sM_last, sM_l, sM_sl, sM_m, sM_ma, sM_ms, sM_mas, sM_mll]; (first | refine splitB (fun hq => ?_) (fun hq => ?_) | skip) <;> (refine HK _ _ ?_; clear HK K))
    | refine ao_appB rfl rfl rfl rfl (by (simp only [go_sem, ↓reduceIte, Nat.reduceEqDiff, Nat.reduceAdd, Nat.reduceLeDiff, Nat.reduceBEq, Nat.reduceMul, Int.reduceEq, Int.reduceLT, Int.reduceLE, e7, e56, e57, wk, sM_0, sM_1, sM_2, sM_a0, sM_a1, sM_a2, sM_s2, sM_b2, sM_len, sM_last, sM_l, sM_sl, sM_m, sM_ma, sM_ms, sM_mas, sM_mll]; rfl)) (by simp) (by simp only [go_sem]; rfl) (by (simp only [go_sem, ↓reduceIte, Nat.reduceEqDiff, Nat.reduceAdd, Nat.reduceLeDiff, Nat.reduceBEq, Nat.reduceMul, Int.reduceEq, Int.reduceLT, Int.reduceLE, e7, e56, e57, wk, sM_0, sM_1, sM_2, sM_a0, sM_a1, sM_a2, sM_s2, sM_b2, sM_len, sM_last, sM_l, sM_sl, sM_m, sM_ma, sM_ms, sM_mas, sM_mll]; rfl)) (by simp) (by (simp [rowsOk, D.one, Value.oneCell']; done)) (by (simp; omega)) ?_
    | refine aw_if1 rfl ?_
    | refine aw_if0 rfl ?_
    | refine aw_skip ?_
    | refine aw_exit ?_
    | refine thenS_n ?_
    | (exfalso; omega)
   refine ⟨rfl, 8 - (k + 1), by omega, k + 1, out ++ outW z, _, by omega, rfl, ?_, congrArg (fun x => sM A B .dead (T2 ++ .buf 5 1 x :: (U ++ [_]))) (?_ : byD out ++ _ = _), ?_, ?_, rfl⟩
   · rw [ho, List.take_add_one, hz]; simp
   · rw [outW_rows]; simp [byD]
   · simp [upd, outW]
   · simp [upd, e56]
 have hk88 : k = 8 := by omega
 subst hk88
 have hoz : out = outZ v' := by rw [ho]; rfl
 repeat' first
  | (refine ao1 rfl rfl fun K HK => ?_; refine aOp_bst (bs := out) (by simp only [go_sem, e7]; rfl) sM_m rfl (by simp only [go_sem]) (by simp only [go_sem]) ?_; refine HK _ _ ?_; clear HK K)
  | refine aw_seq' ?_
  | refine aw_region' ?_
  | refine aw_block ?_
  | refine ao_nil ?_
  | (refine ao1 rfl rfl fun K HK => ?_; simp only [go_sem, ↓reduceIte, Nat.reduceEqDiff, Nat.reduceAdd, Nat.reduceLeDiff, Nat.reduceBEq, Nat.reduceMul, Int.reduceEq, Int.reduceLT, Int.reduceLE, e7, e56, e57, sM_0, sM_1, sM_2, sM_a0, sM_a1, sM_a2, sM_s2, sM_b2, sM_len, sM_last, sM_l, sM_sl, sM_m, sM_ma, sM_ms, sM_mas, sM_mll]; (first | refine splitB (fun hq => ?_) (fun hq => ?_) | skip) <;> (refine HK _ _ ?_; clear HK K))
  | refine aw_if1 rfl ?_
  | refine aw_if0 rfl ?_
  | refine aw_skip ?_
  | refine aw_exit ?_
  | refine aw_ret ?_
  | (exfalso; omega)
 rw [hoz]
 exact ⟨.inr rfl, endX [.v (.string ⟨(outZ v').toArray⟩)] [A, B] (.dead :: (T2 ++ .buf 5 1 (byD (outZ v')) :: U)) (.v (.string ⟨(outZ v').toArray⟩)) rfl rfl (Nat.le_refl _) hl0 (by rw [low]; trivial) rfl ⟨rfl, rfl⟩⟩
theorem shaSum (b : List UInt8) (hb : b.length ≤ 100000000) (hK : G 1 = .rp (shaK.map zD)) (h : List Ob) : Does Tryz.prog G 141 h [.sl 1 (byD b)] (fun h' r => h' = h ∧ r = .v (.string ⟨(sumZ b).toArray⟩)) := by
 refine does_any G hG (by rw [lowL, lowL]; exact ⟨low_by _ _, trivial⟩) (by rw [low]; trivial) ?_ h
 rw [sumZ_cut]
 refine does_of_aw Tryz.func141 rfl (Nat.le_of_ble_eq_true rfl) hG fun hl0 _ => ?_
 simp only [Tryz.ntmps141]
 repeat' first
  | refine aw_seq' ?_
  | refine aw_region' ?_
  | refine ao_nil ?_
  | (refine ao1 rfl rfl fun K HK => ?_; simp only [go_sem, ↓reduceIte, Nat.reduceEqDiff, Nat.reduceAdd, Nat.reduceLeDiff, Nat.reduceBEq, Nat.reduceMul, Int.reduceEq, Int.reduceLT, Int.reduceLE] <;> (refine HK _ _ ?_; clear HK K))
  | (refine ao2 rfl rfl rfl ent_161 (shNew0 G hG) ?_; rintro _ _ ⟨rfl, rfl⟩)
  | (refine ao2 rfl rfl rfl ent_162 (shWrite0 G hG b hb hK) ?_; rintro _ _ ⟨rfl, rfl⟩)
  | (refine ao2 rfl rfl rfl ent_163 (shSum0 G hG _ (restZ b) b.length (restZ_len b) hb hK) ?_; rintro _ _ ⟨rfl, rfl⟩)
  | refine aw_ret ?_
 exact ⟨.inr rfl, endD (r := .v (.string ⟨(outZ (blksZ (blksZ shaIV b) (padZ (restZ b) b.length))).toArray⟩)) hl0 rfl (by simp) (by simp) rfl (by rw [low]; trivial) ⟨rfl, rfl⟩⟩
theorem digest_d (b : List UInt8) (hb : b.length ≤ 100000000) (hK : G 1 = .rp (shaK.map zD)) (h : List Ob) : Does Tryz.prog G 115 h [.sl 1 (byD b)] (fun h' r => h' = h ∧ r = .sl 1 (byD (sumZ b))) := by
 refine does_any G hG (by rw [lowL, lowL]; exact ⟨low_by _ _, trivial⟩) (low_by _ _) ?_ h
 refine does_of_aw Tryz.func115 rfl (Nat.le_of_ble_eq_true rfl) hG fun hl0 _ => ?_
 simp only [Tryz.ntmps115]
 repeat' first
  | (refine ao1 rfl rfl fun K HK => ?_; refine aOp_cvs rfl (by simp only [go_sem]) (by kernel_rfl) (by rw [sumZ_len]; decide) ?_; refine HK _ _ ?_; clear HK K)
  | refine aw_seq' ?_
  | refine aw_region' ?_
  | refine ao_nil ?_
  | (refine ao1 rfl rfl fun K HK => ?_; simp only [go_sem, ↓reduceIte, Nat.reduceEqDiff, Nat.reduceAdd, Nat.reduceLeDiff, Nat.reduceBEq, Nat.reduceMul, Int.reduceEq, Int.reduceLT, Int.reduceLE] <;> (refine HK _ _ ?_; clear HK K))
  | (refine ao2 rfl rfl rfl ent_141 (shaSum G hG b hb hK _) ?_; rintro _ _ ⟨rfl, rfl⟩)
  | refine aw_ret ?_
 exact ⟨.inr rfl, endD (r := .sl 1 (byD (sumZ b))) hl0 rfl (by simp) (by simp) rfl (low_by _ _) ⟨rfl, rfl⟩⟩
end
section
set_option maxRecDepth 100000
set_option maxHeartbeats 4000000
set_option pp.maxSteps 1000000
set_option pp.deepTerms true
attribute [local irreducible] on aOp
attribute [local go_sem] decide_true decide_false Bool.not_true Bool.not_false
attribute [local simp] byD_len
theorem mix_step (f : UInt8 → UInt8) : ∀ (l : List UInt8) (k : Nat) (h : k < l.length), ((l.take k).map f ++ l.drop k).set k (f l[k]) = (l.take (k + 1)).map f ++ l.drop (k + 1)
 | [], k, h => by simp at h
 | a :: l, 0, h => by simp
 | a :: l, k + 1, h => by
  have := mix_step f l k (by simpa using h)
  simp only [List.take_succ_cons, List.map_cons, List.cons_append, List.drop_succ_cons, List.set_cons_succ, List.getElem_cons_succ] at this ⊢
  rw [this]
theorem xorB_len (x : UInt8) (l : List UInt8) : (xorB x l).length = l.length := List.length_map ..
theorem rows_k {a b : List UInt8} (h : a.length = 64) : (((kC a).drop 0).take 64).map (fun d => [d]) ++ byD b = byD (a ++ b) := by
 rw [List.drop_zero, List.take_of_length_le (by rw [kC_len]; omega), kC_rows]; simp [byD]
theorem low_T0 : ∀ m, lowH m ([] : List Ob) := fun m x hx => by simp at hx
theorem low_T1 (a : List UInt8) : ∀ m, lowH m ([] ++ [Ob.cells (kC a)]) := fun m x hx => by
 simp at hx; subst hx; exact low_kC m a
theorem sumZ_ne (l : List UInt8) : sumZ l ≠ [] := fun h => by have := sumZ_len l; rw [h] at this; cases this
theorem low_cT {T : List Ob} (hT : ∀ m, lowH m T) (a b : List UInt8) {m : Nat} : lowH m (.cells (kC a) :: (T ++ [.cells (kC b)])) := fun x hx => by
 rcases List.mem_cons.1 hx with rfl | hx
 · exact low_kC m a
 · rcases List.mem_append.1 hx with hx | hx
   · exact hT m x hx
   · simp at hx; subst hx; exact low_kC m b
theorem byD_ne {l : List UInt8} (h : l ≠ []) : byD l ≠ [] := by cases l with
 | nil => exact absurd rfl h
 | cons a t => simp [byD]
theorem cons_last {A x : Ob} {T : List Ob} : (A :: (T ++ [x]))[T.length + 1]? = some x := by simp
theorem cons_lastA {A x : Ob} {T : List Ob} : (A :: T ++ [x])[(A :: T).length]? = some x := by simp
theorem cons_lset {A x y : Ob} {T : List Ob} : (A :: (T ++ [x])).set (T.length + 1) y = A :: (T ++ [y]) := by simp
theorem cons_llen {A : Ob} {T : List Ob} : (A :: T).length = T.length + 1 := rfl
variable (G : Nat → D) (hG : ∀ g, low 0 (G g))
include hG
theorem pad_d (kk : List UInt8) (hkl : kk.length = 64) (x : UInt8) (T : List Ob) (hT : ∀ m, lowH m T) : Does Tryz.prog G 116 (.cells (kC kk) :: T) [.v (.int .u8 x.toNat), .ptr 0 0] (fun h' r => h' = .cells (kC kk) :: (T ++ [.cells (kC (xorB x kk))]) ∧ r = .arr (T.length + 1) 0 64 64 1) := by
 have hT0 : (.cells (kC kk) :: T : List Ob)[0]? = some (.cells (kC kk)) := rfl
 refine does_of_aw Tryz.func116 rfl (Nat.le_of_ble_eq_true rfl) hG fun hl0 _ => ?_
 simp only [Tryz.ntmps116]
 repeat' first
  | (refine ao1 rfl rfl fun K HK => ?_; refine aOp_larr (by first | rfl | (simp only [go_sem, hT0]; rfl)) (by first | rfl | assumption) (getD_ka (by first | (simp only [go_sem]; rfl) | (simp only [go_sem]; done)) (by first | (simp only [go_sem]; rfl) | (simp only [go_sem]; done)) hkl) ?_; refine HK _ _ ?_; clear HK K)
  | (refine ao1 rfl rfl fun K HK => ?_; refine aOp_alc (ds := kC (List.replicate 64 0)) (by kernel_rfl) ?_; refine HK _ _ ?_; clear HK K)
  | (refine ao1' rfl fun K HK => ?_; refine aOp_stw (by first | rfl | (simp only [go_sem, hT0]; rfl)) (by first | exact cons_lastA | exact cons_last) rfl (by rw [all_kC, kC_len, hkl]; first | (simp only [go_sem]; done) | (simp only [go_sem]; rfl)) (by rw [kC_len, kC_len, hkl]; rfl) ?_; refine HK _ _ ?_; clear HK K)
  | refine aw_seq' ?_
  | refine aw_region' ?_
  | refine aw_block ?_
  | refine ao_nil ?_
  | (refine ao1 rfl rfl fun K HK => ?_; simp only [go_sem, ↓reduceIte, Nat.reduceEqDiff, Nat.reduceAdd, Nat.reduceLeDiff, Nat.reduceBEq, Nat.reduceMul, Int.reduceEq, Int.reduceLT, Int.reduceLE, cons_lset, cons_llen, cons_last, List.cons_append] <;> (refine HK _ _ ?_; clear HK K))
 refine aw_for (fun m e h' => ∃ (k : Nat), k ≤ 64 ∧ m = 64 - k ∧ h' = .cells (kC kk) :: (T ++ [.cells (kC ((kk.take k).map (· ^^^ x) ++ kk.drop k))]) ∧ e 0 = .v (.int .u8 x.toNat) ∧ e 4 = .ptr (T.length + 1) 0 ∧ e 7 = .v (.int .i64 k)) 64 ⟨0, by omega, rfl, ?_, rfl, ?_, rfl⟩ ?_
 · simp
 · simp [upd]
 rintro m e h' ⟨k, hk, rfl, rfl, e0, e4, e7⟩
 by_cases hlt : k < 64
 · generalize hW : (kk.take k).map (· ^^^ x) ++ kk.drop k = W
   have hWl : W.length = 64 := by rw [← hW]; simp; omega
   have hx : W[k]? = some (kk[k]'(by omega)) := by
    rw [← hW, List.getElem?_append_right (by simp; omega)]
    have : k - (List.map (· ^^^ x) (List.take k kk)).length = 0 := by simp; omega
    rw [this, List.getElem?_drop, Nat.add_zero, List.getElem?_eq_getElem (by omega)]
   have hN : W.set k (kk[k]'(by omega) ^^^ x) = (kk.take (k + 1)).map (· ^^^ x) ++ kk.drop (k + 1) := by
    rw [← hW]; exact mix_step (· ^^^ x) kk k (by omega)
   generalize (kk[k]'(by omega)) = w at hx hN
   have wk : IntKind.i64.wrap ((k : Int) + 1) = ((k + 1 : Nat) : Int) := IntWalk.i64_in _ (by omega)
   repeat' first
    | (refine ao1 rfl rfl fun K HK => ?_; refine aOp_iarr (by first | rfl | (simp only [go_sem, e0, e4, e7]; rfl)) (by first | rfl | (simp only [go_sem, e0, e4, e7]; rfl)) (by first | (simp only [go_sem]; rfl) | (simp only [go_sem]; done)) (by first | (simp only [go_sem]; rfl) | (simp only [go_sem]; done)) (by omega) ?_; refine HK _ _ ?_; clear HK K)
    | (refine ao1 rfl rfl fun K HK => ?_; refine aOp_larr (by first | rfl | (simp only [go_sem, e0, e4, e7]; rfl)) (by first | exact cons_last | exact cons_lastA) (getD_kb (by first | (simp only [go_sem]; rfl) | (simp only [go_sem]; done)) hx) ?_; refine HK _ _ ?_; clear HK K)
    | (refine ao1' rfl fun K HK => ?_; refine aOp_stA (es := [.v (.int .u8 _)]) (by first | rfl | (simp only [go_sem, e0, e4, e7]; rfl)) (by first | exact cons_last | exact cons_lastA) rfl (by first | (simp only [go_sem]; done) | (simp only [go_sem]; rfl)) (by rw [kC_len]; simp only [List.length_cons, List.length_nil]; omega) (putL_kb (by omega) (xor_byte w x)) ?_; refine HK _ _ ?_; clear HK K)
    | refine aw_seq' ?_
    | refine aw_region' ?_
    | refine aw_block ?_
    | refine ao_nil ?_
    | (refine ao1 rfl rfl fun K HK => ?_; simp only [go_sem, ↓reduceIte, Nat.reduceEqDiff, Nat.reduceAdd, Nat.reduceLeDiff, Nat.reduceBEq, Nat.reduceMul, Int.reduceEq, Int.reduceLT, Int.reduceLE, e0, e4, e7, wk, cons_lset, cons_llen, cons_last]; (first | refine splitB (fun hq => ?_) (fun hq => ?_) | skip) <;> (refine HK _ _ ?_; clear HK K))
    | refine aw_if1 rfl ?_
    | refine aw_if0 rfl ?_
    | refine aw_skip ?_
    | refine aw_exit ?_
    | refine thenS_n ?_
    | (exfalso; omega)
   exact ⟨rfl, 64 - (k + 1), by omega, k + 1, by omega, rfl, congrArg (fun z => Ob.cells (kC kk) :: (T ++ [Ob.cells (kC z)])) hN, by simp [upd, e0], by simp [upd, e4], rfl⟩
 have hk64 : k = 64 := by omega
 subst hk64
 repeat' first
  | (refine ao_tri1 rfl rfl (tri_slcArr (n := 64) (el := 5) (k := 1) (by first | rfl | (simp only [go_sem, e0, e4, e7]; rfl)) (by simp only [go_sem]) (by simp only [go_sem])) ?_)
  | refine aw_seq' ?_
  | refine aw_region' ?_
  | refine aw_block ?_
  | refine ao_nil ?_
  | (refine ao1 rfl rfl fun K HK => ?_; simp only [go_sem, ↓reduceIte, Nat.reduceEqDiff, Nat.reduceAdd, Nat.reduceLeDiff, Nat.reduceBEq, Nat.reduceMul, Int.reduceEq, Int.reduceLT, Int.reduceLE, e0, e4, e7, cons_lset, cons_llen, cons_last]; (first | refine splitB (fun hq => ?_) (fun hq => ?_) | skip) <;> (refine HK _ _ ?_; clear HK K))
  | refine aw_if1 rfl ?_
  | refine aw_if0 rfl ?_
  | refine aw_skip ?_
  | refine aw_exit ?_
  | refine aw_ret ?_
  | (exfalso; omega)
 have hxb : (kk.take 64).map (· ^^^ x) ++ kk.drop 64 = xorB x kk := by
  rw [List.take_of_length_le (by omega), List.drop_of_length_le (by omega), List.append_nil]; rfl
 rw [hxb]
 exact ⟨.inr rfl, endX [.arr (T.length + 1) 0 64 64 1] (.cells (kC kk) :: (T ++ [.cells (kC (xorB x kk))])) [] (.arr (T.length + 1) 0 64 64 1) rfl (by simp) (by simp) (low_cT hT _ _) (by simp [low]) rfl ⟨rfl, rfl⟩⟩
theorem digest_b (b : List UInt8) (hb : b.length ≤ 100000000) (hK : G 1 = .rp (shaK.map zD)) {h : List Ob} {i E n : Nat} {rows : List (List D)} (hi : h[i]? = some (.buf E 1 rows)) (hr : rows = byD b) (hn : n = b.length) : Does Tryz.prog G 115 h [.buf i n] (fun h' r => h' = h.set i .dead ∧ r = .sl 1 (byD (sumZ b))) := by
 subst hr hn
 exact Does.give1c hi byD_len (digest_d G hG b hb hK _)
theorem tag_l (key m : List UInt8) (hlong : 64 < key.length) (hm : m ≠ []) (hk : key.length ≤ 1000000) (hml : m.length ≤ 90000000) (hK : G 1 = .rp (shaK.map zD)) : Does Tryz.prog G 95 [] [.sl 1 (byD key), .sl 1 (byD m)] (fun h' r => h' = [] ∧ r = .sl 1 (byD (tagZ key m))) := by
 have hs := sumZ_len key
 have hkz : sumZ key ++ (List.replicate 64 (0 : UInt8)).drop (sumZ key).length = keyZ key := by
  unfold keyZ; simp only [if_pos hlong]; rw [List.drop_replicate]
 have hkl := keyZ_len key
 have hT : tagZ key m = sumZ (xorB 92 (keyZ key) ++ sumZ (xorB 54 (keyZ key) ++ m)) := by unfold tagZ; rfl
 refine does_of_aw Tryz.func95 rfl (Nat.le_of_ble_eq_true rfl) hG fun hl0 _ => ?_
 simp only [Tryz.ntmps95]
 repeat' first
  | (refine ao1 rfl rfl fun K HK => ?_; refine aOp_alc (ds := kC (List.replicate 64 0)) (by kernel_rfl) ?_; refine HK _ _ ?_; clear HK K)
  | (refine ao_tri1 rfl rfl (tri_slcArr (n := 64) (el := 5) (k := 1) rfl (by simp only [go_sem]) (by simp only [go_sem])) ?_)
  | (refine ao_tri1 rfl rfl (tri_cpArr rfl rfl (by simp only [go_sem, Option.bind_some]) rfl (by rw [byD_len]; omega) (by simp [kC]) (rowsOk_by _)) ?_)
  | (refine ao_mkfc rfl rfl ?_)
  | refine aw_seq' ?_
  | refine aw_region' ?_
  | refine ao_nil ?_
  | (refine ao1 rfl rfl fun K HK => ?_; simp only [go_sem, ↓reduceIte, Nat.reduceEqDiff, Nat.reduceAdd, Nat.reduceLeDiff, Nat.reduceBEq, Nat.reduceMul, Int.reduceEq, Int.reduceLT, Int.reduceLE]; (first | refine splitB (fun hq => ?_) (fun hq => ?_) | skip) <;> (refine HK _ _ ?_; clear HK K))
  | (refine ao2 rfl rfl rfl ent_115 (digest_d G hG key (by omega) hK _) ?_; rintro _ _ ⟨rfl, rfl⟩)
  | refine aw_if1 rfl ?_
  | refine aw_if0 rfl ?_
  | refine aw_skip ?_
  | (exfalso; omega)
 rw [putL_k0 (by simp; omega), hkz]
 generalize hKK : keyZ key = KK at hkl hT ⊢
 have hx1 := xorB_len 54 KK
 have hx2 := xorB_len 92 KK
 repeat' first
  | (refine ao_tri1 rfl rfl (tri_apArr rfl rfl (by simp only [go_sem]; rfl) rfl (byD_ne (by first | assumption | exact sumZ_ne _)) (by rw [kC_len]; omega) (rowsOk_by _) (by rw [byD_len]; first | omega | (rw [sumZ_len]; omega))) ?_)
  | refine ao_nil ?_
  | (refine ao1 rfl rfl fun K HK => ?_; simp only [go_sem, ↓reduceIte, Nat.reduceEqDiff, Nat.reduceAdd, Nat.reduceLeDiff, Nat.reduceBEq, Nat.reduceMul, Int.reduceEq, Int.reduceLT, Int.reduceLE] <;> (refine HK _ _ ?_; clear HK K))
  | (refine ao2 rfl rfl rfl ent_116 (pad_d G hG KK hkl 92 [] low_T0) ?_; rintro _ _ ⟨rfl, rfl⟩)
  | (refine ao2 rfl rfl rfl ent_116 (pad_d G hG KK hkl 54 _ (low_T1 _)) ?_; rintro _ _ ⟨rfl, rfl⟩)
  | (refine ao2 rfl rfl rfl ent_115 (digest_b G hG (xorB 54 KK ++ m) (by rw [List.length_append]; omega) hK rfl (rows_k (by omega)) (by rw [byD_len, List.length_append]; omega)) ?_; rintro _ _ ⟨rfl, rfl⟩)
  | (refine ao2 rfl rfl rfl ent_115 (digest_b G hG (xorB 92 KK ++ sumZ (xorB 54 KK ++ m)) (by rw [List.length_append, sumZ_len]; omega) hK rfl (rows_k (by omega)) (by rw [byD_len, List.length_append]; omega)) ?_; rintro _ _ ⟨rfl, rfl⟩)
  | refine aw_ret ?_
 rw [hT]
 exact ⟨.inr rfl, endD (r := .sl 1 (byD (sumZ (xorB 92 KK ++ sumZ (xorB 54 KK ++ m))))) hl0 rfl (by simp) (by simp) rfl (low_by _ _) ⟨rfl, rfl⟩⟩
theorem tag_s (key m : List UInt8) (hlong : ¬ 64 < key.length) (hm : m ≠ []) (hml : m.length ≤ 90000000) (hK : G 1 = .rp (shaK.map zD)) : Does Tryz.prog G 95 [] [.sl 1 (byD key), .sl 1 (byD m)] (fun h' r => h' = [] ∧ r = .sl 1 (byD (tagZ key m))) := by
 have hkz : key ++ (List.replicate 64 (0 : UInt8)).drop key.length = keyZ key := by
  unfold keyZ; simp only [if_neg hlong]; rw [List.drop_replicate]
 have hkl := keyZ_len key
 have hT : tagZ key m = sumZ (xorB 92 (keyZ key) ++ sumZ (xorB 54 (keyZ key) ++ m)) := by unfold tagZ; rfl
 refine does_of_aw Tryz.func95 rfl (Nat.le_of_ble_eq_true rfl) hG fun hl0 _ => ?_
 simp only [Tryz.ntmps95]
 repeat' first
  | (refine ao1 rfl rfl fun K HK => ?_; refine aOp_alc (ds := kC (List.replicate 64 0)) (by kernel_rfl) ?_; refine HK _ _ ?_; clear HK K)
  | (refine ao_tri1 rfl rfl (tri_slcArr (n := 64) (el := 5) (k := 1) rfl (by simp only [go_sem]) (by simp only [go_sem])) ?_)
  | (refine ao_tri1 rfl rfl (tri_cpArr rfl rfl (by simp only [go_sem, Option.bind_some]) rfl (by rw [byD_len]; omega) (by simp [kC]) (rowsOk_by _)) ?_)
  | (refine ao_mkfc rfl rfl ?_)
  | refine aw_seq' ?_
  | refine aw_region' ?_
  | refine ao_nil ?_
  | (refine ao1 rfl rfl fun K HK => ?_; simp only [go_sem, ↓reduceIte, Nat.reduceEqDiff, Nat.reduceAdd, Nat.reduceLeDiff, Nat.reduceBEq, Nat.reduceMul, Int.reduceEq, Int.reduceLT, Int.reduceLE]; (first | refine splitB (fun hq => ?_) (fun hq => ?_) | skip) <;> (refine HK _ _ ?_; clear HK K))
  | refine aw_if1 rfl ?_
  | refine aw_if0 rfl ?_
  | refine aw_skip ?_
  | (exfalso; omega)
 rw [putL_k0 (by simp; omega), hkz]
 generalize hKK : keyZ key = KK at hkl hT ⊢
 have hx1 := xorB_len 54 KK
 have hx2 := xorB_len 92 KK
 repeat' first
  | (refine ao_tri1 rfl rfl (tri_apArr rfl rfl (by simp only [go_sem]; rfl) rfl (byD_ne (by first | assumption | exact sumZ_ne _)) (by rw [kC_len]; omega) (rowsOk_by _) (by rw [byD_len]; first | omega | (rw [sumZ_len]; omega))) ?_)
  | refine ao_nil ?_
  | (refine ao1 rfl rfl fun K HK => ?_; simp only [go_sem, ↓reduceIte, Nat.reduceEqDiff, Nat.reduceAdd, Nat.reduceLeDiff, Nat.reduceBEq, Nat.reduceMul, Int.reduceEq, Int.reduceLT, Int.reduceLE] <;> (refine HK _ _ ?_; clear HK K))
  | (refine ao2 rfl rfl rfl ent_116 (pad_d G hG KK hkl 92 [] low_T0) ?_; rintro _ _ ⟨rfl, rfl⟩)
  | (refine ao2 rfl rfl rfl ent_116 (pad_d G hG KK hkl 54 _ (low_T1 _)) ?_; rintro _ _ ⟨rfl, rfl⟩)
  | (refine ao2 rfl rfl rfl ent_115 (digest_b G hG (xorB 54 KK ++ m) (by rw [List.length_append]; omega) hK rfl (rows_k (by omega)) (by rw [byD_len, List.length_append]; omega)) ?_; rintro _ _ ⟨rfl, rfl⟩)
  | (refine ao2 rfl rfl rfl ent_115 (digest_b G hG (xorB 92 KK ++ sumZ (xorB 54 KK ++ m)) (by rw [List.length_append, sumZ_len]; omega) hK rfl (rows_k (by omega)) (by rw [byD_len, List.length_append]; omega)) ?_; rintro _ _ ⟨rfl, rfl⟩)
  | refine aw_ret ?_
 rw [hT]
 exact ⟨.inr rfl, endD (r := .sl 1 (byD (sumZ (xorB 92 KK ++ sumZ (xorB 54 KK ++ m))))) hl0 rfl (by simp) (by simp) rfl (low_by _ _) ⟨rfl, rfl⟩⟩
theorem tag_d (key m : List UInt8) (hm : m ≠ []) (hk : key.length ≤ 1000000) (hml : m.length ≤ 90000000) (hK : G 1 = .rp (shaK.map zD)) (h : List Ob) : Does Tryz.prog G 95 h [.sl 1 (byD key), .sl 1 (byD m)] (fun h' r => h' = h ∧ r = .sl 1 (byD (tagZ key m))) := by
 refine does_any G hG (by rw [lowL, lowL, lowL]; exact ⟨low_by _ _, low_by _ _, trivial⟩) (low_by _ _) ?_ h
 by_cases hlong : 64 < key.length
 · exact tag_l G hG key m hlong hm hk hml hK
 · exact tag_s G hG key m hlong hm hml hK
end
section
set_option maxRecDepth 100000
set_option maxHeartbeats 4000000
set_option pp.maxSteps 1000000
set_option pp.deepTerms true
attribute [local irreducible] on aOp
attribute [local go_sem] decide_true decide_false Bool.not_true Bool.not_false
attribute [local simp] byD_len
def keyS : ByteArray := ⟨#[107, 101, 121]⟩
def deriveZ (master : List UInt8) (p ht : Int) : List UInt8 := tagZ master (textE keyS ++ (intE p ++ intE ht))
def signZ (master : List UInt8) (p ht : Int) (m : List UInt8) : List UInt8 := tagZ (deriveZ master p ht) m
theorem signZ_len (master : List UInt8) (p ht : Int) (m : List UInt8) : (signZ master p ht m).length = 32 := tagZ_len _ _
theorem deriveZ_len (master : List UInt8) (p ht : Int) : (deriveZ master p ht).length = 32 := tagZ_len _ _
def modOb (master : List UInt8) (p ht : Int) : Ob := .cells [.sl 1 (byD master), .v (.int .i64 p), .v (.int .i64 ht)]
theorem modOb_eq (master : List UInt8) (p ht : Int) : modOb master p ht = .cells [.sl 1 (byD master), .v (.int .i64 p), .v (.int .i64 ht)] := rfl
theorem low_mod (m : Nat) (master : List UInt8) (p ht : Int) : lowOb m (modOb master p ht) := ⟨low_by m _, by simp [lowL, low]⟩
theorem keyM_len {p ht : Int} (hp : I64 p) (hh : I64 ht) : (textE keyS ++ (intE p ++ intE ht)).length ≤ 40 := by
 have h1 := intE_len hp
 have h2 := intE_len hh
 have h3 : (textE keyS).length = 4 := by unfold textE; rw [uintE_lt (show keyS.size < 128 by decide)]; rfl
 simp only [List.length_append]; omega
theorem keyM_ne {p ht : Int} : (textE keyS ++ (intE p ++ intE ht)) ≠ [] := by
 unfold textE; simp [keyS]
variable (G : Nat → D) (hG : ∀ g, low 0 (G g)) (hK : G 1 = .rp (shaK.map zD))
include hG hK
theorem derive_d (master : List UInt8) (p ht : Int) (hp : I64 p) (hh : I64 ht) (hm : master.length ≤ 1000000) (h : List Ob) : Does Tryz.prog G 96 h [.sl 1 (byD master), .v (.int .i64 p), .v (.int .i64 ht)] (fun h' r => h' = h ∧ r = .sl 1 (byD (deriveZ master p ht))) := by
 refine does_any G hG (by rw [lowL]; exact ⟨low_by _ _, by simp [lowL, low]⟩) (low_by _ _) ?_ h
 have hl := keyM_len hp hh
 have hne := keyM_ne (p := p) (ht := ht)
 have h1 := intE_len hp
 have h3 : (textE keyS).length = 4 := by unfold textE; rw [uintE_lt (show keyS.size < 128 by decide)]; rfl
 refine does_of_aw Tryz.func96 rfl (Nat.le_of_ble_eq_true rfl) hG fun hl0 _ => ?_
 simp only [Tryz.ntmps96]
 repeat' first
  | (refine ao_nilcell 5 1 0 [] [] rfl ?_)
  | refine aw_seq' ?_
  | refine aw_region' ?_
  | refine ao_nil ?_
  | (refine ao1 rfl rfl fun K HK => ?_; simp only [go_sem, ↓reduceIte, Nat.reduceEqDiff, Nat.reduceAdd, Nat.reduceLeDiff, Nat.reduceBEq, Nat.reduceMul, Int.reduceEq, Int.reduceLT, Int.reduceLE] <;> (refine HK _ _ ?_; clear HK K))
  | (refine ao2 rfl rfl rfl ent_55 (wText_d G hG [] keyS (by decide) (by simp)) ?_; rintro _ _ ⟨rfl, rfl⟩)
  | (refine ao2 rfl rfl rfl ent_79 (wInt_d G hG (textE keyS) p hp (by omega)) ?_; rintro _ _ ⟨rfl, rfl⟩)
  | (refine ao2 rfl rfl rfl ent_79 (wInt_d G hG (textE keyS ++ intE p) ht hh (by rw [List.length_append]; omega)) ?_; rintro _ _ ⟨rfl, rfl⟩)
  | (refine ao2 rfl rfl rfl ent_46 (wData_d G hG (textE keyS ++ (intE p ++ intE ht)) (by omega)) ?_; rintro _ _ ⟨rfl, rfl⟩)
  | (refine ao2 rfl rfl rfl ent_95 (tag_d G hG master (textE keyS ++ (intE p ++ intE ht)) hne hm (by omega) hK _) ?_; rintro _ _ ⟨rfl, rfl⟩)
  | refine aw_ret ?_
 exact ⟨.inr rfl, endD (r := .sl 1 (byD (deriveZ master p ht))) hl0 rfl (by simp) (by simp) rfl (low_by _ _) ⟨rfl, rfl⟩⟩
theorem mSign_d (i : Nat) (master : List UInt8) (p ht : Int) (m : List UInt8) (hp : I64 p) (hm : master.length ≤ 1000000) (hml : m.length ≤ 80000000) (hne : m ≠ []) (h : List Ob) (hi : h[i]? = some (modOb master p ht)) (hh : ht ≤ 0) :
 Does Tryz.prog G 72 h [.ptr i 0, .v (.int .i64 0), .sl 1 (byD m)] (fun h' r => h' = h ∧ r = .tup [.sl 1 (byD (signZ master p 0 m)), .v (.int .i64 0)]) := by
 rw [modOb_eq] at hi
 have hd := deriveZ_len master p 0
 have hn : ¬ (0 : Int) < ht := by omega
 refine does_of_aw Tryz.func72 rfl (Nat.le_of_ble_eq_true rfl) hG fun hl0 _ => ?_
 simp only [Tryz.ntmps72]
 repeat' first
  | (refine ao1 rfl rfl fun K HK => ?_; refine aOp_larr (by first | rfl | (simp only [go_sem, hi]; rfl)) (by assumption) (by rw [getD_one (by first | (simp only [go_sem]; rfl) | (simp only [go_sem]; done))]; rfl) ?_; refine HK _ _ ?_; clear HK K)
  | (refine aq1 rfl rfl fun K HK => ?_; refine aOp_larr (by first | rfl | (simp only [go_sem, hi]; rfl)) (by assumption) (by rw [getD_one (by first | (simp only [go_sem]; rfl) | (simp only [go_sem]; done))]; rfl) ?_; refine HK _ _ rfl ?_; clear HK K)
  | refine aw_seq' ?_
  | refine aw_region' ?_
  | refine ao_nil ?_
  | ((first | refine ao1 rfl rfl fun K HK => ?_ | refine aq1 rfl rfl fun K HK => ?_); simp only [go_sem, ↓reduceIte, Nat.reduceEqDiff, Nat.reduceAdd, Nat.reduceLeDiff, Nat.reduceBEq, Nat.reduceMul, Int.reduceEq, Int.reduceLT, Int.reduceLE, hi]; (first | refine splitB (fun hq => ?_) (fun hq => ?_) | skip) <;> ((first | refine HK _ _ ?_ | refine HK _ _ rfl ?_); clear HK K))
  | refine aq_nil ?_
  | (refine aw_draw mixd (by kernel_rfl) ?_)
  | refine aq2 rfl rfl rfl ent_96 (derive_d G hG hK master p 0 hp (by simp [I64]) hm _) ?_
  | refine aq2 rfl rfl rfl ent_95 (tag_d G hG (deriveZ master p 0) m hne (by omega) (by omega) hK _) ?_
  | refine aw_if1 rfl ?_
  | refine aw_if0 rfl ?_
  | refine aw_skip ?_
  | refine aw_ret ?_
  | refine thenS_r ?_
  | (exfalso; omega)
 all_goals first
 | (exfalso; omega)
 | exact ⟨.inr rfl, endD (r := .tup [.sl 1 (byD (signZ master p 0 m)), .v (.int .i64 0)]) hl0 rfl (by simp) (by simp) rfl (by rw [low, lowL, lowL, lowL]; exact ⟨low_by _ _, by rw [low]; trivial, trivial⟩) ⟨rfl, rfl⟩⟩
omit hK in
theorem mProcess_d (i : Nat) (master : List UInt8) (p ht : Int) (h : List Ob) (hi : h[i]? = some (modOb master p ht)) : Does Tryz.prog G 71 h [.ptr i 0] (fun h' r => h' = h ∧ r = .v (.int .i64 p)) := by
 rw [modOb_eq] at hi
 refine does_of_aw Tryz.func71 rfl (Nat.le_of_ble_eq_true rfl) hG fun hl0 _ => ?_
 simp only [Tryz.ntmps71]
 repeat' first
  | refine aw_seq' ?_
  | refine aw_region' ?_
  | refine ao_nil ?_
  | (refine ao1 rfl rfl fun K HK => ?_; simp only [go_sem, ↓reduceIte, Nat.reduceEqDiff, Nat.reduceAdd, Nat.reduceLeDiff, Nat.reduceBEq, Nat.reduceMul, Int.reduceEq, Int.reduceLT, Int.reduceLE, hi] <;> (refine HK _ _ ?_; clear HK K))
  | refine aw_ret ?_
 exact ⟨.inr rfl, endD (r := .v (.int .i64 p)) hl0 rfl (by simp) (by simp) rfl (by simp [low]) ⟨rfl, rfl⟩⟩
omit hK in
theorem equal_d (a b : List UInt8) (h : List Ob) : Does Tryz.prog G 94 h [.sl 1 (byD a), .sl 1 (byD b)] (fun h' r => h' = h ∧ r = .v (.bool (decide (a = b)))) := by
 refine does_of_aw Tryz.func94 rfl (Nat.le_of_ble_eq_true rfl) hG fun hl0 _ => ?_
 simp only [Tryz.ntmps94]
 repeat' first
  | (refine ao1 rfl rfl fun K HK => ?_; refine aOp_bsl rfl (by simp only [go_sem]) (by simp only [go_sem]) ?_; refine HK _ _ ?_; clear HK K)
  | refine aw_seq' ?_
  | refine aw_region' ?_
  | refine ao_nil ?_
  | (refine ao1 rfl rfl fun K HK => ?_; simp only [go_sem, ↓reduceIte, Nat.reduceEqDiff, Nat.reduceAdd, Nat.reduceLeDiff, Nat.reduceBEq, Nat.reduceMul, Int.reduceEq, Int.reduceLT, Int.reduceLE]; (first | refine splitB (fun hq => ?_) (fun hq => ?_) | skip) <;> (refine HK _ _ ?_; clear HK K))
  | refine aw_ret ?_
 all_goals first
 | (have e : a = b := by (simpa using hq)
    rw [decide_eq_true e]
    exact ⟨.inr rfl, endD (r := .v (.bool true)) hl0 rfl (by simp) (by simp) rfl (by rw [low]; trivial) ⟨rfl, rfl⟩⟩)
 | (have e : ¬ a = b := fun e => hq (by rw [e])
    rw [decide_eq_false e]
    exact ⟨.inr rfl, endD (r := .v (.bool false)) hl0 rfl (by simp) (by simp) rfl (by rw [low]; trivial) ⟨rfl, rfl⟩⟩)
omit hK in
theorem equal_e {a b : List UInt8} {bb : Bool} (q : decide (a = b) = bb) (h : List Ob) : Does Tryz.prog G 94 h [.sl 1 (byD a), .sl 1 (byD b)] (fun h' r => h' = h ∧ r = .v (.bool bb)) := q ▸ equal_d G hG a b h
theorem mVerify_d (i : Nat) (master : List UInt8) (p0 ht0 p ht : Int) (m tag : List UInt8) (hp : I64 p) (hh : I64 ht) (hm : master.length ≤ 1000000) (hml : m.length ≤ 80000000) (hne : m ≠ []) (h : List Ob) (hi : h[i]? = some (modOb master p0 ht0)) :
 Does Tryz.prog G 65 h [.ptr i 0, .v (.int .i64 p), .v (.int .i64 ht), .sl 1 (byD m), .sl 1 (byD tag)] (fun h' r => h' = h ∧ r = .v (.bool (decide (tag = signZ master p ht m)))) := by
 rw [modOb_eq] at hi
 have hd := deriveZ_len master p ht
 generalize hbb : decide (tag = signZ master p ht m) = bb
 refine does_of_aw Tryz.func65 rfl (Nat.le_of_ble_eq_true rfl) hG fun hl0 _ => ?_
 simp only [Tryz.ntmps65]
 repeat' first
  | (refine ao1 rfl rfl fun K HK => ?_; refine aOp_larr (by first | rfl | (simp only [go_sem, hi]; rfl)) (by assumption) (by rw [getD_one (by first | (simp only [go_sem]; rfl) | (simp only [go_sem]; done))]; rfl) ?_; refine HK _ _ ?_; clear HK K)
  | refine aw_seq' ?_
  | refine aw_region' ?_
  | refine ao_nil ?_
  | (refine ao1 rfl rfl fun K HK => ?_; simp only [go_sem, ↓reduceIte, Nat.reduceEqDiff, Nat.reduceAdd, Nat.reduceLeDiff, Nat.reduceBEq, Nat.reduceMul, Int.reduceEq, Int.reduceLT, Int.reduceLE, hi] <;> (refine HK _ _ ?_; clear HK K))
  | (refine ao2 rfl rfl rfl ent_96 (derive_d G hG hK master p ht hp hh hm _) ?_; rintro _ _ ⟨rfl, rfl⟩)
  | (refine ao2 rfl rfl rfl ent_95 (tag_d G hG (deriveZ master p ht) m hne (by omega) (by omega) hK _) ?_; rintro _ _ ⟨rfl, rfl⟩)
  | (refine ao2 rfl rfl rfl ent_94 (equal_e G hG hbb _) ?_; rintro _ _ ⟨rfl, rfl⟩)
  | refine aw_ret ?_
 exact ⟨.inr rfl, endD (r := .v (.bool bb)) hl0 rfl (by simp) (by simp) rfl (by rw [low]; trivial) ⟨rfl, rfl⟩⟩
end
end Go.Proofs.YtgkjcmglcnhpaaaGreatDoor
