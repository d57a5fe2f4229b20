/-
  What the statements of the chapter share, part 23: DF, SMB.
-/
import Derived.Test.YtidpdgdakghfnaaGreatJ17
import Derived.Test.YtidpdgdakghfnaaGreatJ22
set_option linter.unusedVariables false
set_option linter.unusedSimpArgs false
set_option maxRecDepth 100000
set_option maxHeartbeats 8000000
namespace Go.Proofs.YtidpdgdakghfnaaGreat
open Go.RowKit
section
set_option maxRecDepth 100000
set_option maxHeartbeats 2000000
attribute [local irreducible] on aOp
attribute [local simp] byD_len
def delL (p : Cmd → Bool) (l : List Cmd) : List Cmd := l.filter fun c => !p c
theorem delL_len (p : Cmd → Bool) (l : List Cmd) : (delL p l).length ≤ l.length := List.length_filter_le _ _
theorem delL_all {p : Cmd → Bool} {l : List Cmd} (h : ∀ c ∈ l, p c = false) : delL p l = l := List.filter_eq_self.2 fun c hc => by rw [h c hc]; rfl
theorem delL_take {p : Cmd → Bool} {l : List Cmd} {k : Nat} {x : Cmd} (hx : l[k]? = some x) : delL p (l.take (k + 1)) = delL p (l.take k) ++ if p x then [] else [x] := by
 unfold delL
 rw [List.take_add_one, hx, List.filter_append]
 cases h : p x <;> simp [h]
variable (G : Nat → D) (hG : ∀ g, low 0 (G g))
theorem delete_d (l : List Cmd) (p : Cmd → Bool) (g : FuncId) (caps : List D) (he : entB Tryz.prog g = true) (hsz : l.length ≤ 1000000) (T : List Ob) (ht : ∀ rows U, T <+: U → Tells G g caps p l (oG rows U)) :
 Does Tryz.prog G 46 (oG (l.map cmdX) T) [.buf 0 l.length, .fn g caps] (fun h' r => ∃ rows U, h' = oG rows U ∧ rows.length = l.length ∧ rows.take (delL p l).length = (delL p l).map cmdX ∧ (r = .win 0 l.length 0 (delL p l).length ∨ (r = .buf 0 l.length ∧ delL p l = l))) := by
 refine does_keep Tryz.func46 rfl (Nat.le_of_ble_eq_true rfl) ?_
 simp only [Tryz.ntmps46]
 repeat' first
  | (refine ao_callK rfl rfl rfl (by kernel_rfl) (index_b G l p g caps he hsz T (ht _ T (List.prefix_refl _))) ?_; rintro _ _ ⟨rfl, z, rfl, ⟨rfl, hf⟩ | ⟨k, c, rfl, hk, hpc, hf⟩⟩)
  | refine aw_seq' ?_
  | refine aw_region' ?_
  | refine aw_block ?_
  | refine ao_nil ?_
  | (refine ao1 rfl rfl fun K HK => ?_; (try refine aOp_pick rfl ?_); simp only [go_sem, ↓reduceIte, Nat.reduceEqDiff, Nat.reduceAdd, Nat.reduceLeDiff, Nat.reduceBEq, Nat.reduceMul, Int.reduceEq, Int.reduceLT, Int.reduceLE, decide_true, decide_false, Bool.not_true, Bool.not_false]; (first | refine splitB (fun hq => ?_) (fun hq => ?_) | refine splitN (fun hq => ?_) (fun hq => ?_) | (refine slc_sl (by simp only [go_sem]) rfl rfl (by first | omega | simp) (by first | omega | simp) (by simp only [go_sem]; omega) ?_) | (refine ⟨by omega, by omega, ?_⟩; first | refine row_at (by assumption) ?_ | (intro row hrow; obtain ⟨x, hx, rfl⟩ := row_inv hrow; clear hrow) | (intro row hrow)) | (refine ⟨by omega, ?_⟩; refine row_at (by assumption) ?_) | skip) <;> (refine HK _ _ ?_; clear HK K))
  | (refine aq1 rfl rfl fun K HK => ?_; (try refine aOp_pick rfl ?_); simp only [go_sem, ↓reduceIte, Nat.reduceEqDiff, Nat.reduceAdd, Nat.reduceLeDiff, Nat.reduceBEq, Nat.reduceMul, Int.reduceEq, Int.reduceLT, Int.reduceLE, decide_true, decide_false, Bool.not_true, Bool.not_false]; (first | refine splitB (fun hq => ?_) (fun hq => ?_) | refine splitN (fun hq => ?_) (fun hq => ?_) | (refine slc_sl (by simp only [go_sem]) rfl rfl (by first | omega | simp) (by first | omega | simp) (by simp only [go_sem]; omega) ?_) | (refine ⟨by omega, by omega, ?_⟩; first | refine row_at (by assumption) ?_ | (intro row hrow; obtain ⟨x, hx, rfl⟩ := row_inv hrow; clear hrow) | (intro row hrow)) | (refine ⟨by omega, ?_⟩; refine row_at (by assumption) ?_) | skip) <;> (refine HK _ _ rfl ?_; clear HK K))
  | refine aq0 rfl rfl ?_
  | refine aq_nil ?_
  | (refine aw_draw mixd (by kernel_rfl) ?_)
  | refine ao_appB rfl rfl rfl rfl (by first | assumption | (simp only [go_sem, ↓reduceIte, Nat.reduceEqDiff, Nat.reduceAdd, Nat.reduceLeDiff, Nat.reduceBEq, Nat.reduceMul, Int.reduceEq, Int.reduceLT, Int.reduceLE, decide_true, decide_false, Bool.not_true, Bool.not_false]; rfl) | (simp only [go_sem, ↓reduceIte, Nat.reduceEqDiff, Nat.reduceAdd, Nat.reduceLeDiff, Nat.reduceBEq, Nat.reduceMul, Int.reduceEq, Int.reduceLT, Int.reduceLE, decide_true, decide_false, Bool.not_true, Bool.not_false]; done)) (by simp) (by simp only [go_sem]; rfl) (by first | assumption | (simp only [go_sem, ↓reduceIte, Nat.reduceEqDiff, Nat.reduceAdd, Nat.reduceLeDiff, Nat.reduceBEq, Nat.reduceMul, Int.reduceEq, Int.reduceLT, Int.reduceLE, decide_true, decide_false, Bool.not_true, Bool.not_false]; rfl) | (simp only [go_sem, ↓reduceIte, Nat.reduceEqDiff, Nat.reduceAdd, Nat.reduceLeDiff, Nat.reduceBEq, Nat.reduceMul, Int.reduceEq, Int.reduceLT, Int.reduceLE, decide_true, decide_false, Bool.not_true, Bool.not_false]; done)) (by simp) (by first | assumption | exact rowsOk_nil _ | exact rowsOk_by _ | (rw [byD_cut]; exact rowsOk_by _) | (simp [rowsOk, D.one, Value.oneCell']; done)) (by first | omega | (simp; done) | (simp; omega) | (simp [byD]; omega)) ?_
  | refine ao_appNB rfl rfl rfl rfl (by simp only [go_sem]; rfl) (by first | assumption | (simp only [go_sem, ↓reduceIte, Nat.reduceEqDiff, Nat.reduceAdd, Nat.reduceLeDiff, Nat.reduceBEq, Nat.reduceMul, Int.reduceEq, Int.reduceLT, Int.reduceLE, decide_true, decide_false, Bool.not_true, Bool.not_false]; rfl) | (simp only [go_sem, ↓reduceIte, Nat.reduceEqDiff, Nat.reduceAdd, Nat.reduceLeDiff, Nat.reduceBEq, Nat.reduceMul, Int.reduceEq, Int.reduceLT, Int.reduceLE, decide_true, decide_false, Bool.not_true, Bool.not_false]; done)) (by simp) (by first | assumption | exact rowsOk_nil _ | exact rowsOk_by _ | (rw [byD_cut]; exact rowsOk_by _) | (simp [rowsOk, D.one, Value.oneCell']; done)) (by first | omega | (simp; done) | (simp; omega) | (simp [byD]; omega)) ?_
  | refine ao_appR rfl rfl rfl (by first | assumption | (simp only [go_sem, ↓reduceIte, Nat.reduceEqDiff, Nat.reduceAdd, Nat.reduceLeDiff, Nat.reduceBEq, Nat.reduceMul, Int.reduceEq, Int.reduceLT, Int.reduceLE, decide_true, decide_false, Bool.not_true, Bool.not_false]; rfl) | (simp only [go_sem, ↓reduceIte, Nat.reduceEqDiff, Nat.reduceAdd, Nat.reduceLeDiff, Nat.reduceBEq, Nat.reduceMul, Int.reduceEq, Int.reduceLT, Int.reduceLE, decide_true, decide_false, Bool.not_true, Bool.not_false]; done)) (by simp) (by simp only [go_sem]; rfl) rfl (by first | assumption | exact rowsOk_nil _ | exact rowsOk_by _ | (rw [byD_cut]; exact rowsOk_by _) | (simp [rowsOk, D.one, Value.oneCell']; done)) (by first | omega | (simp; done) | (simp; omega) | (simp [byD]; omega)) ?_
  | refine ao_appNR rfl rfl rfl (by simp only [go_sem]; rfl) rfl (by first | assumption | exact rowsOk_nil _ | exact rowsOk_by _ | (rw [byD_cut]; exact rowsOk_by _) | (simp [rowsOk, D.one, Value.oneCell']; done)) (by first | omega | (simp; done) | (simp; omega) | (simp [byD]; omega)) ?_
  | refine ao0 rfl rfl ?_
  | (refine ao1' rfl fun K HK => ?_; simp only [go_sem, ↓reduceIte, Nat.reduceEqDiff, Nat.reduceAdd, Nat.reduceLeDiff, Nat.reduceBEq, Nat.reduceMul, Int.reduceEq, Int.reduceLT, Int.reduceLE, decide_true, decide_false, Bool.not_true, Bool.not_false]; refine HK _ _ ?_; clear HK K)
  | refine ao0' rfl ?_
  | refine aw_if1 rfl ?_
  | refine aw_if0 rfl ?_
  | refine aw_skip ?_
  | refine aw_exit ?_
  | refine aw_ret ?_
  | refine thenS_n ?_
  | refine thenS_x ?_
  | refine thenS_r ?_
  | refine inB_n ?_
  | refine inB_r ?_
  | refine inB_x ?_
  | refine inB_y rfl ?_
  | (exfalso; omega)
 · exact ⟨.inr rfl, [.buf 0 l.length], rfl, l.map cmdX, T, rfl, by simp, by rw [delL_all hf, ← List.length_map (f := cmdX), List.take_length], .inr ⟨rfl, delL_all hf⟩⟩
 have hkl := (List.getElem?_eq_some_iff.1 hk).1
 have wk : IntKind.i64.wrap ((k : Int) + 1) = ((k + 1 : Nat) : Int) := IntWalk.i64_in _ (by omega)
 refine aw_for (fun m e h' => ∃ (K kk : Nat) (rows : List (List D)) (U : List Ob), K ≤ l.length ∧ m = l.length - K ∧ kk = (delL p (l.take K)).length ∧ kk < K ∧ rows.length = l.length ∧ (∀ r ∈ rows, r.length = 6) ∧ rows.take kk = (delL p (l.take K)).map cmdX ∧ (∀ j, K ≤ j → rows[j]? = (l.map cmdX)[j]?) ∧ T <+: U ∧ h' = oG rows U ∧ e 0 = .buf 0 l.length ∧ e 1 = .fn g caps ∧ e 5 = .v (.int .i64 kk) ∧ e 6 = .v (.int .i64 K)) (l.length - (k + 1))
  ⟨k + 1, k, l.map cmdX, T, hkl, rfl, by rw [delL_take hk, delL_all hf, if_pos hpc]; simp; omega, by omega, by simp, six_map l, by rw [delL_take hk, delL_all hf, if_pos hpc, List.append_nil, List.map_take], fun _ _ => rfl, List.prefix_refl _, rfl, rfl, rfl, rfl, by show D.v (.int .i64 (IntKind.i64.wrap ((k : Int) + 1))) = _; rw [wk]⟩ ?_
 clear wk hf hpc hk
 rintro m e h' ⟨K, kk, rows, U, hKl, rfl, hkk, hkK, hrl, hr6, hrt, hrr, hU, rfl, e0, e1, e5, e6⟩
 by_cases hlt : K < l.length
 rotate_left
 · skip
   rw [List.take_of_length_le (show l.length ≤ K by omega)] at hkk hrt
   repeat' first
    | (refine ao_upto rfl rfl rfl rfl rfl hyl (by rw [elT_22]; exact szT_40) (by omega) ?_)
    | (refine ao_clrW rfl rfl oG_0 hrl elT_22 zero_cmd rfl (by decide) rfl (by omega) (Nat.le_refl _) fun ys hyl hyt => ?_)
    | (refine ao_from rfl rfl rfl rfl oG_0 hrl (by rw [elT_22]; exact szT_40) (by omega) ?_)
    | refine aw_seq' ?_
    | refine aw_region' ?_
    | refine aw_block ?_
    | refine ao_nil ?_
    | (refine ao1 rfl rfl fun K HK => ?_; (try refine aOp_pick rfl ?_); simp only [go_sem, ↓reduceIte, Nat.reduceEqDiff, Nat.reduceAdd, Nat.reduceLeDiff, Nat.reduceBEq, Nat.reduceMul, Int.reduceEq, Int.reduceLT, Int.reduceLE, decide_true, decide_false, Bool.not_true, Bool.not_false, e0, e1, e5, e6]; (first | refine splitB (fun hq => ?_) (fun hq => ?_) | refine splitN (fun hq => ?_) (fun hq => ?_) | (refine slc_sl (by simp only [go_sem]) rfl rfl (by first | omega | simp) (by first | omega | simp) (by simp only [go_sem]; omega) ?_) | (refine ⟨by omega, by omega, ?_⟩; first | refine row_at (by assumption) ?_ | (intro row hrow; obtain ⟨x, hx, rfl⟩ := row_inv hrow; clear hrow) | (intro row hrow)) | (refine ⟨by omega, ?_⟩; refine row_at (by assumption) ?_) | skip) <;> (refine HK _ _ ?_; clear HK K))
    | (refine aq1 rfl rfl fun K HK => ?_; (try refine aOp_pick rfl ?_); simp only [go_sem, ↓reduceIte, Nat.reduceEqDiff, Nat.reduceAdd, Nat.reduceLeDiff, Nat.reduceBEq, Nat.reduceMul, Int.reduceEq, Int.reduceLT, Int.reduceLE, decide_true, decide_false, Bool.not_true, Bool.not_false, e0, e1, e5, e6]; (first | refine splitB (fun hq => ?_) (fun hq => ?_) | refine splitN (fun hq => ?_) (fun hq => ?_) | (refine slc_sl (by simp only [go_sem]) rfl rfl (by first | omega | simp) (by first | omega | simp) (by simp only [go_sem]; omega) ?_) | (refine ⟨by omega, by omega, ?_⟩; first | refine row_at (by assumption) ?_ | (intro row hrow; obtain ⟨x, hx, rfl⟩ := row_inv hrow; clear hrow) | (intro row hrow)) | (refine ⟨by omega, ?_⟩; refine row_at (by assumption) ?_) | skip) <;> (refine HK _ _ rfl ?_; clear HK K))
    | refine aq0 rfl rfl ?_
    | refine aq_nil ?_
    | (refine aw_draw mixd (by kernel_rfl) ?_)
    | refine ao_appB rfl rfl rfl rfl (by first | assumption | (simp only [go_sem, ↓reduceIte, Nat.reduceEqDiff, Nat.reduceAdd, Nat.reduceLeDiff, Nat.reduceBEq, Nat.reduceMul, Int.reduceEq, Int.reduceLT, Int.reduceLE, decide_true, decide_false, Bool.not_true, Bool.not_false, e0, e1, e5, e6]; rfl) | (simp only [go_sem, ↓reduceIte, Nat.reduceEqDiff, Nat.reduceAdd, Nat.reduceLeDiff, Nat.reduceBEq, Nat.reduceMul, Int.reduceEq, Int.reduceLT, Int.reduceLE, decide_true, decide_false, Bool.not_true, Bool.not_false, e0, e1, e5, e6]; done)) (by simp) (by simp only [go_sem]; rfl) (by first | assumption | (simp only [go_sem, ↓reduceIte, Nat.reduceEqDiff, Nat.reduceAdd, Nat.reduceLeDiff, Nat.reduceBEq, Nat.reduceMul, Int.reduceEq, Int.reduceLT, Int.reduceLE, decide_true, decide_false, Bool.not_true, Bool.not_false, e0, e1, e5, e6]; rfl) | (simp only [go_sem, ↓reduceIte, Nat.reduceEqDiff, Nat.reduceAdd, Nat.reduceLeDiff, Nat.reduceBEq, Nat.reduceMul, Int.reduceEq, Int.reduceLT, Int.reduceLE, decide_true, decide_false, Bool.not_true, Bool.not_false, e0, e1, e5, e6]; done)) (by simp) (by first | assumption | exact rowsOk_nil _ | exact rowsOk_by _ | (rw [byD_cut]; exact rowsOk_by _) | (simp [rowsOk, D.one, Value.oneCell']; done)) (by first | omega | (simp; done) | (simp; omega) | (simp [byD]; omega)) ?_
    | refine ao_appNB rfl rfl rfl rfl (by simp only [go_sem]; rfl) (by first | assumption | (simp only [go_sem, ↓reduceIte, Nat.reduceEqDiff, Nat.reduceAdd, Nat.reduceLeDiff, Nat.reduceBEq, Nat.reduceMul, Int.reduceEq, Int.reduceLT, Int.reduceLE, decide_true, decide_false, Bool.not_true, Bool.not_false, e0, e1, e5, e6]; rfl) | (simp only [go_sem, ↓reduceIte, Nat.reduceEqDiff, Nat.reduceAdd, Nat.reduceLeDiff, Nat.reduceBEq, Nat.reduceMul, Int.reduceEq, Int.reduceLT, Int.reduceLE, decide_true, decide_false, Bool.not_true, Bool.not_false, e0, e1, e5, e6]; done)) (by simp) (by first | assumption | exact rowsOk_nil _ | exact rowsOk_by _ | (rw [byD_cut]; exact rowsOk_by _) | (simp [rowsOk, D.one, Value.oneCell']; done)) (by first | omega | (simp; done) | (simp; omega) | (simp [byD]; omega)) ?_
    | refine ao_appR rfl rfl rfl (by first | assumption | (simp only [go_sem, ↓reduceIte, Nat.reduceEqDiff, Nat.reduceAdd, Nat.reduceLeDiff, Nat.reduceBEq, Nat.reduceMul, Int.reduceEq, Int.reduceLT, Int.reduceLE, decide_true, decide_false, Bool.not_true, Bool.not_false, e0, e1, e5, e6]; rfl) | (simp only [go_sem, ↓reduceIte, Nat.reduceEqDiff, Nat.reduceAdd, Nat.reduceLeDiff, Nat.reduceBEq, Nat.reduceMul, Int.reduceEq, Int.reduceLT, Int.reduceLE, decide_true, decide_false, Bool.not_true, Bool.not_false, e0, e1, e5, e6]; done)) (by simp) (by simp only [go_sem]; rfl) rfl (by first | assumption | exact rowsOk_nil _ | exact rowsOk_by _ | (rw [byD_cut]; exact rowsOk_by _) | (simp [rowsOk, D.one, Value.oneCell']; done)) (by first | omega | (simp; done) | (simp; omega) | (simp [byD]; omega)) ?_
    | refine ao_appNR rfl rfl rfl (by simp only [go_sem]; rfl) rfl (by first | assumption | exact rowsOk_nil _ | exact rowsOk_by _ | (rw [byD_cut]; exact rowsOk_by _) | (simp [rowsOk, D.one, Value.oneCell']; done)) (by first | omega | (simp; done) | (simp; omega) | (simp [byD]; omega)) ?_
    | refine ao0 rfl rfl ?_
    | (refine ao1' rfl fun K HK => ?_; simp only [go_sem, ↓reduceIte, Nat.reduceEqDiff, Nat.reduceAdd, Nat.reduceLeDiff, Nat.reduceBEq, Nat.reduceMul, Int.reduceEq, Int.reduceLT, Int.reduceLE, decide_true, decide_false, Bool.not_true, Bool.not_false, e0, e1, e5, e6]; refine HK _ _ ?_; clear HK K)
    | refine ao0' rfl ?_
    | refine aw_if1 rfl ?_
    | refine aw_if0 rfl ?_
    | refine aw_skip ?_
    | refine aw_exit ?_
    | refine aw_ret ?_
    | refine thenS_n ?_
    | refine thenS_x ?_
    | refine thenS_r ?_
    | refine inB_n ?_
    | refine inB_r ?_
    | refine inB_x ?_
    | refine inB_y rfl ?_
    | (exfalso; omega)
   exact ⟨.inr rfl, [.win 0 l.length 0 kk], rfl, ys, U, rfl, hyl, by rw [← hkk, hyt, hrt], .inl (by rw [← hkk]; rfl)⟩
 have hx : l[K]? = some l[K] := List.getElem?_eq_getElem hlt
 have hxm := List.getElem_mem hlt
 generalize l[K] = x at hx hxm
 have wk : IntKind.i64.wrap ((K : Int) + 1) = ((K + 1 : Nat) : Int) := IntWalk.i64_in _ (by omega)
 have wkk : IntKind.i64.wrap ((kk : Int) + 1) = ((kk + 1 : Nat) : Int) := IntWalk.i64_in _ (by omega)
 have hxr : rows[((K : Nat) : Int).toNat]? = some (cmdX x) := by rw [Int.toNat_natCast, hrr K (Nat.le_refl _), List.getElem?_map, hx]; rfl
 have hU2 : T <+: U ++ [.cells (cmdX x)] := hU.trans (List.prefix_append _ _)
 have hc := ht rows _ hU2 x hxm
 have hd := delL_take (p := p) hx
 cases hpx : p x
 · rw [hpx] at hc hd
   obtain ⟨row, hkr⟩ : ∃ row, rows[((kk : Nat) : Int).toNat]? = some row := ⟨_, List.getElem?_eq_getElem (by rw [Int.toNat_natCast]; omega)⟩
   have hrow6 : row.length = 6 := hr6 _ (List.mem_of_getElem? hkr)
   repeat' first
    | (refine ao_storeB rfl rfl oG_0 hrl hkr rfl (by rw [szT_40]; rfl) (by rw [hrow6]; exact Nat.le_refl 6) ?_)
    | (refine ao_loadB rfl rfl rfl oG_0 hrl hxr (getC _) ?_)
    | (refine ao_idxB rfl rfl rfl rfl oG_0 hrl (by rw [elT_22]; exact szT_40) (by omega) (by omega) ?_)
    | (refine ao_callK rfl rfl rfl he hc ?_; rintro _ _ ⟨rfl, rfl⟩)
    | refine aw_seq' ?_
    | refine aw_region' ?_
    | refine aw_block ?_
    | refine ao_nil ?_
    | (refine ao1 rfl rfl fun K HK => ?_; (try refine aOp_pick rfl ?_); simp only [go_sem, ↓reduceIte, Nat.reduceEqDiff, Nat.reduceAdd, Nat.reduceLeDiff, Nat.reduceBEq, Nat.reduceMul, Int.reduceEq, Int.reduceLT, Int.reduceLE, decide_true, decide_false, Bool.not_true, Bool.not_false, e0, e1, e5, e6, wk, wkk, cmdX_eq, Int.toNat_natCast, oG_app, oG_len, oG_last, oG_lset, oG_0]; (first | refine splitB (fun hq => ?_) (fun hq => ?_) | refine splitN (fun hq => ?_) (fun hq => ?_) | (refine slc_sl (by simp only [go_sem]) rfl rfl (by first | omega | simp) (by first | omega | simp) (by simp only [go_sem]; omega) ?_) | (refine ⟨by omega, by omega, ?_⟩; first | refine row_at (by assumption) ?_ | (intro row hrow; obtain ⟨x, hx, rfl⟩ := row_inv hrow; clear hrow) | (intro row hrow)) | (refine ⟨by omega, ?_⟩; refine row_at (by assumption) ?_) | skip) <;> (refine HK _ _ ?_; clear HK K))
    | (refine aq1 rfl rfl fun K HK => ?_; (try refine aOp_pick rfl ?_); simp only [go_sem, ↓reduceIte, Nat.reduceEqDiff, Nat.reduceAdd, Nat.reduceLeDiff, Nat.reduceBEq, Nat.reduceMul, Int.reduceEq, Int.reduceLT, Int.reduceLE, decide_true, decide_false, Bool.not_true, Bool.not_false, e0, e1, e5, e6, wk, wkk, cmdX_eq, Int.toNat_natCast, oG_app, oG_len, oG_last, oG_lset, oG_0]; (first | refine splitB (fun hq => ?_) (fun hq => ?_) | refine splitN (fun hq => ?_) (fun hq => ?_) | (refine slc_sl (by simp only [go_sem]) rfl rfl (by first | omega | simp) (by first | omega | simp) (by simp only [go_sem]; omega) ?_) | (refine ⟨by omega, by omega, ?_⟩; first | refine row_at (by assumption) ?_ | (intro row hrow; obtain ⟨x, hx, rfl⟩ := row_inv hrow; clear hrow) | (intro row hrow)) | (refine ⟨by omega, ?_⟩; refine row_at (by assumption) ?_) | skip) <;> (refine HK _ _ rfl ?_; clear HK K))
    | refine aq0 rfl rfl ?_
    | refine aq_nil ?_
    | (refine aw_draw mixd (by kernel_rfl) ?_)
    | refine ao_appB rfl rfl rfl rfl (by first | assumption | (simp only [go_sem, ↓reduceIte, Nat.reduceEqDiff, Nat.reduceAdd, Nat.reduceLeDiff, Nat.reduceBEq, Nat.reduceMul, Int.reduceEq, Int.reduceLT, Int.reduceLE, decide_true, decide_false, Bool.not_true, Bool.not_false, e0, e1, e5, e6, wk, wkk, cmdX_eq, Int.toNat_natCast, oG_app, oG_len, oG_last, oG_lset, oG_0]; rfl) | (simp only [go_sem, ↓reduceIte, Nat.reduceEqDiff, Nat.reduceAdd, Nat.reduceLeDiff, Nat.reduceBEq, Nat.reduceMul, Int.reduceEq, Int.reduceLT, Int.reduceLE, decide_true, decide_false, Bool.not_true, Bool.not_false, e0, e1, e5, e6, wk, wkk, cmdX_eq, Int.toNat_natCast, oG_app, oG_len, oG_last, oG_lset, oG_0]; done)) (by simp) (by simp only [go_sem]; rfl) (by first | assumption | (simp only [go_sem, ↓reduceIte, Nat.reduceEqDiff, Nat.reduceAdd, Nat.reduceLeDiff, Nat.reduceBEq, Nat.reduceMul, Int.reduceEq, Int.reduceLT, Int.reduceLE, decide_true, decide_false, Bool.not_true, Bool.not_false, e0, e1, e5, e6, wk, wkk, cmdX_eq, Int.toNat_natCast, oG_app, oG_len, oG_last, oG_lset, oG_0]; rfl) | (simp only [go_sem, ↓reduceIte, Nat.reduceEqDiff, Nat.reduceAdd, Nat.reduceLeDiff, Nat.reduceBEq, Nat.reduceMul, Int.reduceEq, Int.reduceLT, Int.reduceLE, decide_true, decide_false, Bool.not_true, Bool.not_false, e0, e1, e5, e6, wk, wkk, cmdX_eq, Int.toNat_natCast, oG_app, oG_len, oG_last, oG_lset, oG_0]; done)) (by simp) (by first | assumption | exact rowsOk_nil _ | exact rowsOk_by _ | (rw [byD_cut]; exact rowsOk_by _) | (simp [rowsOk, D.one, Value.oneCell']; done)) (by first | omega | (simp; done) | (simp; omega) | (simp [byD]; omega)) ?_
    | refine ao_appNB rfl rfl rfl rfl (by simp only [go_sem]; rfl) (by first | assumption | (simp only [go_sem, ↓reduceIte, Nat.reduceEqDiff, Nat.reduceAdd, Nat.reduceLeDiff, Nat.reduceBEq, Nat.reduceMul, Int.reduceEq, Int.reduceLT, Int.reduceLE, decide_true, decide_false, Bool.not_true, Bool.not_false, e0, e1, e5, e6, wk, wkk, cmdX_eq, Int.toNat_natCast, oG_app, oG_len, oG_last, oG_lset, oG_0]; rfl) | (simp only [go_sem, ↓reduceIte, Nat.reduceEqDiff, Nat.reduceAdd, Nat.reduceLeDiff, Nat.reduceBEq, Nat.reduceMul, Int.reduceEq, Int.reduceLT, Int.reduceLE, decide_true, decide_false, Bool.not_true, Bool.not_false, e0, e1, e5, e6, wk, wkk, cmdX_eq, Int.toNat_natCast, oG_app, oG_len, oG_last, oG_lset, oG_0]; done)) (by simp) (by first | assumption | exact rowsOk_nil _ | exact rowsOk_by _ | (rw [byD_cut]; exact rowsOk_by _) | (simp [rowsOk, D.one, Value.oneCell']; done)) (by first | omega | (simp; done) | (simp; omega) | (simp [byD]; omega)) ?_
    | refine ao_appR rfl rfl rfl (by first | assumption | (simp only [go_sem, ↓reduceIte, Nat.reduceEqDiff, Nat.reduceAdd, Nat.reduceLeDiff, Nat.reduceBEq, Nat.reduceMul, Int.reduceEq, Int.reduceLT, Int.reduceLE, decide_true, decide_false, Bool.not_true, Bool.not_false, e0, e1, e5, e6, wk, wkk, cmdX_eq, Int.toNat_natCast, oG_app, oG_len, oG_last, oG_lset, oG_0]; rfl) | (simp only [go_sem, ↓reduceIte, Nat.reduceEqDiff, Nat.reduceAdd, Nat.reduceLeDiff, Nat.reduceBEq, Nat.reduceMul, Int.reduceEq, Int.reduceLT, Int.reduceLE, decide_true, decide_false, Bool.not_true, Bool.not_false, e0, e1, e5, e6, wk, wkk, cmdX_eq, Int.toNat_natCast, oG_app, oG_len, oG_last, oG_lset, oG_0]; done)) (by simp) (by simp only [go_sem]; rfl) rfl (by first | assumption | exact rowsOk_nil _ | exact rowsOk_by _ | (rw [byD_cut]; exact rowsOk_by _) | (simp [rowsOk, D.one, Value.oneCell']; done)) (by first | omega | (simp; done) | (simp; omega) | (simp [byD]; omega)) ?_
    | refine ao_appNR rfl rfl rfl (by simp only [go_sem]; rfl) rfl (by first | assumption | exact rowsOk_nil _ | exact rowsOk_by _ | (rw [byD_cut]; exact rowsOk_by _) | (simp [rowsOk, D.one, Value.oneCell']; done)) (by first | omega | (simp; done) | (simp; omega) | (simp [byD]; omega)) ?_
    | refine ao0 rfl rfl ?_
    | (refine ao1' rfl fun K HK => ?_; simp only [go_sem, ↓reduceIte, Nat.reduceEqDiff, Nat.reduceAdd, Nat.reduceLeDiff, Nat.reduceBEq, Nat.reduceMul, Int.reduceEq, Int.reduceLT, Int.reduceLE, decide_true, decide_false, Bool.not_true, Bool.not_false, e0, e1, e5, e6, wk, wkk, cmdX_eq, Int.toNat_natCast, oG_app, oG_len, oG_last, oG_lset, oG_0]; refine HK _ _ ?_; clear HK K)
    | refine ao0' rfl ?_
    | refine aw_if1 rfl ?_
    | refine aw_if0 rfl ?_
    | refine aw_skip ?_
    | refine aw_exit ?_
    | refine aw_ret ?_
    | refine thenS_n ?_
    | refine thenS_x ?_
    | refine thenS_r ?_
    | refine inB_n ?_
    | refine inB_r ?_
    | refine inB_x ?_
    | refine inB_y rfl ?_
    | (exfalso; omega)
   refine ⟨rfl, l.length - (K + 1), by omega, K + 1, kk + 1, rows.set kk (cmdX x), _, by omega, rfl, by rw [hd]; simp; omega, by omega, by simpa using hrl, fun r hr => ?_, ?_, fun j hj => ?_, hU2, by
    show (oG rows (U ++ [.cells (cmdX x)])).set 0 (.buf 40 6 (rows.set (Int.toNat (kk : Int)) (putL row 0 (cmdX x)))) = _
    rw [put_cmd hrow6, Int.toNat_natCast]; rfl, e0, e1, rfl, rfl⟩
   · rcases List.mem_or_eq_of_mem_set hr with h | rfl
     · exact hr6 _ h
     · rfl
   · rw [hd, List.take_add_one, List.take_set_of_le (Nat.le_refl _), hrt, List.getElem?_set_self (by omega)]; simp
   · rw [List.getElem?_set_ne (by omega)]; exact hrr j (by omega)
 · rw [hpx] at hc hd
   repeat' first
    | (refine ao_loadB rfl rfl rfl oG_0 hrl hxr (getC _) ?_)
    | (refine ao_idxB rfl rfl rfl rfl oG_0 hrl (by rw [elT_22]; exact szT_40) (by omega) (by omega) ?_)
    | (refine ao_callK rfl rfl rfl he hc ?_; rintro _ _ ⟨rfl, rfl⟩)
    | refine aw_seq' ?_
    | refine aw_region' ?_
    | refine aw_block ?_
    | refine ao_nil ?_
    | (refine ao1 rfl rfl fun K HK => ?_; (try refine aOp_pick rfl ?_); simp only [go_sem, ↓reduceIte, Nat.reduceEqDiff, Nat.reduceAdd, Nat.reduceLeDiff, Nat.reduceBEq, Nat.reduceMul, Int.reduceEq, Int.reduceLT, Int.reduceLE, decide_true, decide_false, Bool.not_true, Bool.not_false, e0, e1, e5, e6, wk, wkk, cmdX_eq, Int.toNat_natCast, oG_app, oG_len, oG_last, oG_lset, oG_0]; (first | refine splitB (fun hq => ?_) (fun hq => ?_) | refine splitN (fun hq => ?_) (fun hq => ?_) | (refine slc_sl (by simp only [go_sem]) rfl rfl (by first | omega | simp) (by first | omega | simp) (by simp only [go_sem]; omega) ?_) | (refine ⟨by omega, by omega, ?_⟩; first | refine row_at (by assumption) ?_ | (intro row hrow; obtain ⟨x, hx, rfl⟩ := row_inv hrow; clear hrow) | (intro row hrow)) | (refine ⟨by omega, ?_⟩; refine row_at (by assumption) ?_) | skip) <;> (refine HK _ _ ?_; clear HK K))
    | (refine aq1 rfl rfl fun K HK => ?_; (try refine aOp_pick rfl ?_); simp only [go_sem, ↓reduceIte, Nat.reduceEqDiff, Nat.reduceAdd, Nat.reduceLeDiff, Nat.reduceBEq, Nat.reduceMul, Int.reduceEq, Int.reduceLT, Int.reduceLE, decide_true, decide_false, Bool.not_true, Bool.not_false, e0, e1, e5, e6, wk, wkk, cmdX_eq, Int.toNat_natCast, oG_app, oG_len, oG_last, oG_lset, oG_0]; (first | refine splitB (fun hq => ?_) (fun hq => ?_) | refine splitN (fun hq => ?_) (fun hq => ?_) | (refine slc_sl (by simp only [go_sem]) rfl rfl (by first | omega | simp) (by first | omega | simp) (by simp only [go_sem]; omega) ?_) | (refine ⟨by omega, by omega, ?_⟩; first | refine row_at (by assumption) ?_ | (intro row hrow; obtain ⟨x, hx, rfl⟩ := row_inv hrow; clear hrow) | (intro row hrow)) | (refine ⟨by omega, ?_⟩; refine row_at (by assumption) ?_) | skip) <;> (refine HK _ _ rfl ?_; clear HK K))
    | refine aq0 rfl rfl ?_
    | refine aq_nil ?_
    | (refine aw_draw mixd (by kernel_rfl) ?_)
    | refine ao_appB rfl rfl rfl rfl (by first | assumption | (simp only [go_sem, ↓reduceIte, Nat.reduceEqDiff, Nat.reduceAdd, Nat.reduceLeDiff, Nat.reduceBEq, Nat.reduceMul, Int.reduceEq, Int.reduceLT, Int.reduceLE, decide_true, decide_false, Bool.not_true, Bool.not_false, e0, e1, e5, e6, wk, wkk, cmdX_eq, Int.toNat_natCast, oG_app, oG_len, oG_last, oG_lset, oG_0]; rfl) | (simp only [go_sem, ↓reduceIte, Nat.reduceEqDiff, Nat.reduceAdd, Nat.reduceLeDiff, Nat.reduceBEq, Nat.reduceMul, Int.reduceEq, Int.reduceLT, Int.reduceLE, decide_true, decide_false, Bool.not_true, Bool.not_false, e0, e1, e5, e6, wk, wkk, cmdX_eq, Int.toNat_natCast, oG_app, oG_len, oG_last, oG_lset, oG_0]; done)) (by simp) (by simp only [go_sem]; rfl) (by first | assumption | (simp only [go_sem, ↓reduceIte, Nat.reduceEqDiff, Nat.reduceAdd, Nat.reduceLeDiff, Nat.reduceBEq, Nat.reduceMul, Int.reduceEq, Int.reduceLT, Int.reduceLE, decide_true, decide_false, Bool.not_true, Bool.not_false, e0, e1, e5, e6, wk, wkk, cmdX_eq, Int.toNat_natCast, oG_app, oG_len, oG_last, oG_lset, oG_0]; rfl) | (simp only [go_sem, ↓reduceIte, Nat.reduceEqDiff, Nat.reduceAdd, Nat.reduceLeDiff, Nat.reduceBEq, Nat.reduceMul, Int.reduceEq, Int.reduceLT, Int.reduceLE, decide_true, decide_false, Bool.not_true, Bool.not_false, e0, e1, e5, e6, wk, wkk, cmdX_eq, Int.toNat_natCast, oG_app, oG_len, oG_last, oG_lset, oG_0]; done)) (by simp) (by first | assumption | exact rowsOk_nil _ | exact rowsOk_by _ | (rw [byD_cut]; exact rowsOk_by _) | (simp [rowsOk, D.one, Value.oneCell']; done)) (by first | omega | (simp; done) | (simp; omega) | (simp [byD]; omega)) ?_
    | refine ao_appNB rfl rfl rfl rfl (by simp only [go_sem]; rfl) (by first | assumption | (simp only [go_sem, ↓reduceIte, Nat.reduceEqDiff, Nat.reduceAdd, Nat.reduceLeDiff, Nat.reduceBEq, Nat.reduceMul, Int.reduceEq, Int.reduceLT, Int.reduceLE, decide_true, decide_false, Bool.not_true, Bool.not_false, e0, e1, e5, e6, wk, wkk, cmdX_eq, Int.toNat_natCast, oG_app, oG_len, oG_last, oG_lset, oG_0]; rfl) | (simp only [go_sem, ↓reduceIte, Nat.reduceEqDiff, Nat.reduceAdd, Nat.reduceLeDiff, Nat.reduceBEq, Nat.reduceMul, Int.reduceEq, Int.reduceLT, Int.reduceLE, decide_true, decide_false, Bool.not_true, Bool.not_false, e0, e1, e5, e6, wk, wkk, cmdX_eq, Int.toNat_natCast, oG_app, oG_len, oG_last, oG_lset, oG_0]; done)) (by simp) (by first | assumption | exact rowsOk_nil _ | exact rowsOk_by _ | (rw [byD_cut]; exact rowsOk_by _) | (simp [rowsOk, D.one, Value.oneCell']; done)) (by first | omega | (simp; done) | (simp; omega) | (simp [byD]; omega)) ?_
    | refine ao_appR rfl rfl rfl (by first | assumption | (simp only [go_sem, ↓reduceIte, Nat.reduceEqDiff, Nat.reduceAdd, Nat.reduceLeDiff, Nat.reduceBEq, Nat.reduceMul, Int.reduceEq, Int.reduceLT, Int.reduceLE, decide_true, decide_false, Bool.not_true, Bool.not_false, e0, e1, e5, e6, wk, wkk, cmdX_eq, Int.toNat_natCast, oG_app, oG_len, oG_last, oG_lset, oG_0]; rfl) | (simp only [go_sem, ↓reduceIte, Nat.reduceEqDiff, Nat.reduceAdd, Nat.reduceLeDiff, Nat.reduceBEq, Nat.reduceMul, Int.reduceEq, Int.reduceLT, Int.reduceLE, decide_true, decide_false, Bool.not_true, Bool.not_false, e0, e1, e5, e6, wk, wkk, cmdX_eq, Int.toNat_natCast, oG_app, oG_len, oG_last, oG_lset, oG_0]; done)) (by simp) (by simp only [go_sem]; rfl) rfl (by first | assumption | exact rowsOk_nil _ | exact rowsOk_by _ | (rw [byD_cut]; exact rowsOk_by _) | (simp [rowsOk, D.one, Value.oneCell']; done)) (by first | omega | (simp; done) | (simp; omega) | (simp [byD]; omega)) ?_
    | refine ao_appNR rfl rfl rfl (by simp only [go_sem]; rfl) rfl (by first | assumption | exact rowsOk_nil _ | exact rowsOk_by _ | (rw [byD_cut]; exact rowsOk_by _) | (simp [rowsOk, D.one, Value.oneCell']; done)) (by first | omega | (simp; done) | (simp; omega) | (simp [byD]; omega)) ?_
    | refine ao0 rfl rfl ?_
    | (refine ao1' rfl fun K HK => ?_; simp only [go_sem, ↓reduceIte, Nat.reduceEqDiff, Nat.reduceAdd, Nat.reduceLeDiff, Nat.reduceBEq, Nat.reduceMul, Int.reduceEq, Int.reduceLT, Int.reduceLE, decide_true, decide_false, Bool.not_true, Bool.not_false, e0, e1, e5, e6, wk, wkk, cmdX_eq, Int.toNat_natCast, oG_app, oG_len, oG_last, oG_lset, oG_0]; refine HK _ _ ?_; clear HK K)
    | refine ao0' rfl ?_
    | refine aw_if1 rfl ?_
    | refine aw_if0 rfl ?_
    | refine aw_skip ?_
    | refine aw_exit ?_
    | refine aw_ret ?_
    | refine thenS_n ?_
    | refine thenS_x ?_
    | refine thenS_r ?_
    | refine inB_n ?_
    | refine inB_r ?_
    | refine inB_x ?_
    | refine inB_y rfl ?_
    | (exfalso; omega)
   exact ⟨rfl, l.length - (K + 1), by omega, K + 1, kk, rows, _, by omega, rfl, by rw [hd]; simpa using hkk, by omega, hrl, hr6, by rw [hd]; simpa using hrt, fun j hj => hrr j (by omega), hU2, rfl, e0, e1, e5, rfl⟩
end
section
set_option maxRecDepth 100000
set_option maxHeartbeats 2000000
attribute [local irreducible] on aOp
attribute [local simp] byD_len
def smallW (x : ByteArray × List UInt8) : Prop := x.1.size ≤ 40 ∧ x.2.length ≤ 200
def smallC (c : Cmd) : Prop := c.writes.length ≤ 6 ∧ c.tag.length ≤ 100 ∧ ∀ x ∈ c.writes, smallW x
def SmallL (l : List Cmd) (most : Nat) : Prop := l.length ≤ most ∧ ∀ c ∈ l, smallC c
theorem all_take {α : Type} {p : α → Prop} {l : List α} {k : Nat} {x : α} (h : ∀ y ∈ l.take k, p y) (hx : l[k]? = some x) (q : p x) : ∀ y ∈ l.take (k + 1), p y := fun y hy => by
 rw [List.take_add_one, hx] at hy
 rcases List.mem_append.1 hy with h1 | h1
 · exact h y h1
 · simp at h1; subst h1; exact q
variable (G : Nat → D) (hG : ∀ g, low 0 (G g))
include hG
theorem does_anyK {P : Program} {f : FuncId} {args : List D} {KR : D → Prop} (la : lowL 0 args) (lr : ∀ r, KR r → low 0 r) (q : Does P G f [] args (fun h' r => h' = [] ∧ KR r)) (h : List Ob) : Does P G f h args (fun h' r => h' = h ∧ KR r) := by
 have L : Lies (fun i => i) [] h := ⟨fun i ob q => by simp at q, fun i j q => by simp at q, fun ob q => by simp at q⟩
 have F := Does.frame hG L (args := args) la (K1 := fun h1 r1 => h1 = [] ∧ KR r1) (by
  rintro _ _ ⟨rfl, _⟩
  exact ⟨fun i j hi => by simp at hi, fun j _ hj => by simp at hj⟩) q
 rw [renL_low0 _ _ la] at F
 refine F.mono ?_
 rintro _ _ ⟨_, r1, ⟨rfl, hr⟩, rfl, rfl⟩
 exact ⟨rfl, by rw [ren_low0 _ _ (lr _ hr)]; exact hr⟩
theorem small_d (l : List Cmd) (most : Nat) (hm : most ≤ 1000) (h : List Ob) : Does Tryz.prog G 10 h [.sl 6 (l.map cmdX), .v (.int .i64 most)] (fun h' r => h' = h ∧ ∃ b : Bool, r = .v (.bool b) ∧ (b = true ↔ SmallL l most)) := by
 refine does_anyK G hG (by rw [lowL, lowL, lowL]; exact ⟨low_cms _ _, by simp [low], trivial⟩) (by rintro _ ⟨b, rfl, _⟩; rw [low]; trivial) ?_ h
 have no : ∀ {res : Array ResultVar} {s : S} {v : Bool} (hl0 : lowH ([] : List Ob).length []) (hres : resD Tryz.prog s res.toList = some [.v (.bool v)]), (v = true ↔ SmallL l most) → EndD Tryz.prog res ([] : List Ob).length (fun h' r => h' = [] ∧ ∃ b : Bool, r = .v (.bool b) ∧ (b = true ↔ SmallL l most)) s := fun hl0 hres hv => endD (r := .v _) hl0 hres (by simp) (by simp) rfl (by rw [low]; trivial) ⟨rfl, _, rfl, hv⟩
 refine does_of_aw Tryz.func10 rfl (Nat.le_of_ble_eq_true rfl) hG fun hl0 _ => ?_
 simp only [Tryz.ntmps10]
 by_cases h1 : most < l.length
 · have h1' : (most : Int) < (l.length : Int) := by omega
   repeat' first
    | refine aw_seq' ?_
    | refine aw_region' ?_
    | refine aw_block ?_
    | refine ao_nil ?_
    | (refine ao1 rfl rfl fun K HK => ?_; (try refine aOp_pick rfl ?_); simp only [go_sem, ↓reduceIte, Nat.reduceEqDiff, Nat.reduceAdd, Nat.reduceLeDiff, Nat.reduceBEq, Nat.reduceMul, Int.reduceEq, Int.reduceLT, Int.reduceLE, decide_true, decide_false, Bool.not_true, Bool.not_false, List.length_map, h1']; (first | refine splitB (fun hq => ?_) (fun hq => ?_) | refine splitN (fun hq => ?_) (fun hq => ?_) | (refine slc_sl (by simp only [go_sem]) rfl rfl (by first | omega | simp) (by first | omega | simp) (by simp only [go_sem]; omega) ?_) | (refine ⟨by omega, by omega, ?_⟩; first | refine row_at (by assumption) ?_ | (intro row hrow; obtain ⟨x, hx, rfl⟩ := row_inv hrow; clear hrow) | (intro row hrow)) | (refine ⟨by omega, ?_⟩; refine row_at (by assumption) ?_) | skip) <;> (refine HK _ _ ?_; clear HK K))
    | (refine aq1 rfl rfl fun K HK => ?_; (try refine aOp_pick rfl ?_); simp only [go_sem, ↓reduceIte, Nat.reduceEqDiff, Nat.reduceAdd, Nat.reduceLeDiff, Nat.reduceBEq, Nat.reduceMul, Int.reduceEq, Int.reduceLT, Int.reduceLE, decide_true, decide_false, Bool.not_true, Bool.not_false, List.length_map, h1']; (first | refine splitB (fun hq => ?_) (fun hq => ?_) | refine splitN (fun hq => ?_) (fun hq => ?_) | (refine slc_sl (by simp only [go_sem]) rfl rfl (by first | omega | simp) (by first | omega | simp) (by simp only [go_sem]; omega) ?_) | (refine ⟨by omega, by omega, ?_⟩; first | refine row_at (by assumption) ?_ | (intro row hrow; obtain ⟨x, hx, rfl⟩ := row_inv hrow; clear hrow) | (intro row hrow)) | (refine ⟨by omega, ?_⟩; refine row_at (by assumption) ?_) | skip) <;> (refine HK _ _ rfl ?_; clear HK K))
    | refine aq0 rfl rfl ?_
    | refine aq_nil ?_
    | (refine aw_draw mixd (by kernel_rfl) ?_)
    | refine ao_appB rfl rfl rfl rfl (by first | assumption | (simp only [go_sem, ↓reduceIte, Nat.reduceEqDiff, Nat.reduceAdd, Nat.reduceLeDiff, Nat.reduceBEq, Nat.reduceMul, Int.reduceEq, Int.reduceLT, Int.reduceLE, decide_true, decide_false, Bool.not_true, Bool.not_false, List.length_map, h1']; rfl) | (simp only [go_sem, ↓reduceIte, Nat.reduceEqDiff, Nat.reduceAdd, Nat.reduceLeDiff, Nat.reduceBEq, Nat.reduceMul, Int.reduceEq, Int.reduceLT, Int.reduceLE, decide_true, decide_false, Bool.not_true, Bool.not_false, List.length_map, h1']; done)) (by simp) (by simp only [go_sem]; rfl) (by first | assumption | (simp only [go_sem, ↓reduceIte, Nat.reduceEqDiff, Nat.reduceAdd, Nat.reduceLeDiff, Nat.reduceBEq, Nat.reduceMul, Int.reduceEq, Int.reduceLT, Int.reduceLE, decide_true, decide_false, Bool.not_true, Bool.not_false, List.length_map, h1']; rfl) | (simp only [go_sem, ↓reduceIte, Nat.reduceEqDiff, Nat.reduceAdd, Nat.reduceLeDiff, Nat.reduceBEq, Nat.reduceMul, Int.reduceEq, Int.reduceLT, Int.reduceLE, decide_true, decide_false, Bool.not_true, Bool.not_false, List.length_map, h1']; done)) (by simp) (by first | assumption | exact rowsOk_nil _ | exact rowsOk_by _ | (rw [byD_cut]; exact rowsOk_by _) | (simp [rowsOk, D.one, Value.oneCell']; done)) (by first | omega | (simp; done) | (simp; omega) | (simp [byD]; omega)) ?_
    | refine ao_appNB rfl rfl rfl rfl (by simp only [go_sem]; rfl) (by first | assumption | (simp only [go_sem, ↓reduceIte, Nat.reduceEqDiff, Nat.reduceAdd, Nat.reduceLeDiff, Nat.reduceBEq, Nat.reduceMul, Int.reduceEq, Int.reduceLT, Int.reduceLE, decide_true, decide_false, Bool.not_true, Bool.not_false, List.length_map, h1']; rfl) | (simp only [go_sem, ↓reduceIte, Nat.reduceEqDiff, Nat.reduceAdd, Nat.reduceLeDiff, Nat.reduceBEq, Nat.reduceMul, Int.reduceEq, Int.reduceLT, Int.reduceLE, decide_true, decide_false, Bool.not_true, Bool.not_false, List.length_map, h1']; done)) (by simp) (by first | assumption | exact rowsOk_nil _ | exact rowsOk_by _ | (rw [byD_cut]; exact rowsOk_by _) | (simp [rowsOk, D.one, Value.oneCell']; done)) (by first | omega | (simp; done) | (simp; omega) | (simp [byD]; omega)) ?_
    | refine ao_appR rfl rfl rfl (by first | assumption | (simp only [go_sem, ↓reduceIte, Nat.reduceEqDiff, Nat.reduceAdd, Nat.reduceLeDiff, Nat.reduceBEq, Nat.reduceMul, Int.reduceEq, Int.reduceLT, Int.reduceLE, decide_true, decide_false, Bool.not_true, Bool.not_false, List.length_map, h1']; rfl) | (simp only [go_sem, ↓reduceIte, Nat.reduceEqDiff, Nat.reduceAdd, Nat.reduceLeDiff, Nat.reduceBEq, Nat.reduceMul, Int.reduceEq, Int.reduceLT, Int.reduceLE, decide_true, decide_false, Bool.not_true, Bool.not_false, List.length_map, h1']; done)) (by simp) (by simp only [go_sem]; rfl) rfl (by first | assumption | exact rowsOk_nil _ | exact rowsOk_by _ | (rw [byD_cut]; exact rowsOk_by _) | (simp [rowsOk, D.one, Value.oneCell']; done)) (by first | omega | (simp; done) | (simp; omega) | (simp [byD]; omega)) ?_
    | refine ao_appNR rfl rfl rfl (by simp only [go_sem]; rfl) rfl (by first | assumption | exact rowsOk_nil _ | exact rowsOk_by _ | (rw [byD_cut]; exact rowsOk_by _) | (simp [rowsOk, D.one, Value.oneCell']; done)) (by first | omega | (simp; done) | (simp; omega) | (simp [byD]; omega)) ?_
    | refine ao0 rfl rfl ?_
    | (refine ao1' rfl fun K HK => ?_; simp only [go_sem, ↓reduceIte, Nat.reduceEqDiff, Nat.reduceAdd, Nat.reduceLeDiff, Nat.reduceBEq, Nat.reduceMul, Int.reduceEq, Int.reduceLT, Int.reduceLE, decide_true, decide_false, Bool.not_true, Bool.not_false, List.length_map, h1']; refine HK _ _ ?_; clear HK K)
    | refine ao0' rfl ?_
    | refine aw_if1 rfl ?_
    | refine aw_if0 rfl ?_
    | refine aw_skip ?_
    | refine aw_exit ?_
    | refine aw_ret ?_
    | refine thenS_n ?_
    | refine thenS_x ?_
    | refine thenS_r ?_
    | refine inB_n ?_
    | refine inB_r ?_
    | refine inB_x ?_
    | refine inB_y rfl ?_
    | (exfalso; omega)
   all_goals exact ⟨by simp, no hl0 rfl ⟨fun h => (by cases h), fun h => (by have := h.1; omega)⟩⟩
 have h1' : ¬ (most : Int) < (l.length : Int) := by omega
 repeat' first
  | refine aw_seq' ?_
  | refine aw_region' ?_
  | refine aw_block ?_
  | refine ao_nil ?_
  | (refine ao1 rfl rfl fun K HK => ?_; (try refine aOp_pick rfl ?_); simp only [go_sem, ↓reduceIte, Nat.reduceEqDiff, Nat.reduceAdd, Nat.reduceLeDiff, Nat.reduceBEq, Nat.reduceMul, Int.reduceEq, Int.reduceLT, Int.reduceLE, decide_true, decide_false, Bool.not_true, Bool.not_false, List.length_map, h1']; (first | refine splitB (fun hq => ?_) (fun hq => ?_) | refine splitN (fun hq => ?_) (fun hq => ?_) | (refine slc_sl (by simp only [go_sem]) rfl rfl (by first | omega | simp) (by first | omega | simp) (by simp only [go_sem]; omega) ?_) | (refine ⟨by omega, by omega, ?_⟩; first | refine row_at (by assumption) ?_ | (intro row hrow; obtain ⟨x, hx, rfl⟩ := row_inv hrow; clear hrow) | (intro row hrow)) | (refine ⟨by omega, ?_⟩; refine row_at (by assumption) ?_) | skip) <;> (refine HK _ _ ?_; clear HK K))
  | (refine aq1 rfl rfl fun K HK => ?_; (try refine aOp_pick rfl ?_); simp only [go_sem, ↓reduceIte, Nat.reduceEqDiff, Nat.reduceAdd, Nat.reduceLeDiff, Nat.reduceBEq, Nat.reduceMul, Int.reduceEq, Int.reduceLT, Int.reduceLE, decide_true, decide_false, Bool.not_true, Bool.not_false, List.length_map, h1']; (first | refine splitB (fun hq => ?_) (fun hq => ?_) | refine splitN (fun hq => ?_) (fun hq => ?_) | (refine slc_sl (by simp only [go_sem]) rfl rfl (by first | omega | simp) (by first | omega | simp) (by simp only [go_sem]; omega) ?_) | (refine ⟨by omega, by omega, ?_⟩; first | refine row_at (by assumption) ?_ | (intro row hrow; obtain ⟨x, hx, rfl⟩ := row_inv hrow; clear hrow) | (intro row hrow)) | (refine ⟨by omega, ?_⟩; refine row_at (by assumption) ?_) | skip) <;> (refine HK _ _ rfl ?_; clear HK K))
  | refine aq0 rfl rfl ?_
  | refine aq_nil ?_
  | (refine aw_draw mixd (by kernel_rfl) ?_)
  | refine ao_appB rfl rfl rfl rfl (by first | assumption | (simp only [go_sem, ↓reduceIte, Nat.reduceEqDiff, Nat.reduceAdd, Nat.reduceLeDiff, Nat.reduceBEq, Nat.reduceMul, Int.reduceEq, Int.reduceLT, Int.reduceLE, decide_true, decide_false, Bool.not_true, Bool.not_false, List.length_map, h1']; rfl) | (simp only [go_sem, ↓reduceIte, Nat.reduceEqDiff, Nat.reduceAdd, Nat.reduceLeDiff, Nat.reduceBEq, Nat.reduceMul, Int.reduceEq, Int.reduceLT, Int.reduceLE, decide_true, decide_false, Bool.not_true, Bool.not_false, List.length_map, h1']; done)) (by simp) (by simp only [go_sem]; rfl) (by first | assumption | (simp only [go_sem, ↓reduceIte, Nat.reduceEqDiff, Nat.reduceAdd, Nat.reduceLeDiff, Nat.reduceBEq, Nat.reduceMul, Int.reduceEq, Int.reduceLT, Int.reduceLE, decide_true, decide_false, Bool.not_true, Bool.not_false, List.length_map, h1']; rfl) | (simp only [go_sem, ↓reduceIte, Nat.reduceEqDiff, Nat.reduceAdd, Nat.reduceLeDiff, Nat.reduceBEq, Nat.reduceMul, Int.reduceEq, Int.reduceLT, Int.reduceLE, decide_true, decide_false, Bool.not_true, Bool.not_false, List.length_map, h1']; done)) (by simp) (by first | assumption | exact rowsOk_nil _ | exact rowsOk_by _ | (rw [byD_cut]; exact rowsOk_by _) | (simp [rowsOk, D.one, Value.oneCell']; done)) (by first | omega | (simp; done) | (simp; omega) | (simp [byD]; omega)) ?_
  | refine ao_appNB rfl rfl rfl rfl (by simp only [go_sem]; rfl) (by first | assumption | (simp only [go_sem, ↓reduceIte, Nat.reduceEqDiff, Nat.reduceAdd, Nat.reduceLeDiff, Nat.reduceBEq, Nat.reduceMul, Int.reduceEq, Int.reduceLT, Int.reduceLE, decide_true, decide_false, Bool.not_true, Bool.not_false, List.length_map, h1']; rfl) | (simp only [go_sem, ↓reduceIte, Nat.reduceEqDiff, Nat.reduceAdd, Nat.reduceLeDiff, Nat.reduceBEq, Nat.reduceMul, Int.reduceEq, Int.reduceLT, Int.reduceLE, decide_true, decide_false, Bool.not_true, Bool.not_false, List.length_map, h1']; done)) (by simp) (by first | assumption | exact rowsOk_nil _ | exact rowsOk_by _ | (rw [byD_cut]; exact rowsOk_by _) | (simp [rowsOk, D.one, Value.oneCell']; done)) (by first | omega | (simp; done) | (simp; omega) | (simp [byD]; omega)) ?_
  | refine ao_appR rfl rfl rfl (by first | assumption | (simp only [go_sem, ↓reduceIte, Nat.reduceEqDiff, Nat.reduceAdd, Nat.reduceLeDiff, Nat.reduceBEq, Nat.reduceMul, Int.reduceEq, Int.reduceLT, Int.reduceLE, decide_true, decide_false, Bool.not_true, Bool.not_false, List.length_map, h1']; rfl) | (simp only [go_sem, ↓reduceIte, Nat.reduceEqDiff, Nat.reduceAdd, Nat.reduceLeDiff, Nat.reduceBEq, Nat.reduceMul, Int.reduceEq, Int.reduceLT, Int.reduceLE, decide_true, decide_false, Bool.not_true, Bool.not_false, List.length_map, h1']; done)) (by simp) (by simp only [go_sem]; rfl) rfl (by first | assumption | exact rowsOk_nil _ | exact rowsOk_by _ | (rw [byD_cut]; exact rowsOk_by _) | (simp [rowsOk, D.one, Value.oneCell']; done)) (by first | omega | (simp; done) | (simp; omega) | (simp [byD]; omega)) ?_
  | refine ao_appNR rfl rfl rfl (by simp only [go_sem]; rfl) rfl (by first | assumption | exact rowsOk_nil _ | exact rowsOk_by _ | (rw [byD_cut]; exact rowsOk_by _) | (simp [rowsOk, D.one, Value.oneCell']; done)) (by first | omega | (simp; done) | (simp; omega) | (simp [byD]; omega)) ?_
  | refine ao0 rfl rfl ?_
  | (refine ao1' rfl fun K HK => ?_; simp only [go_sem, ↓reduceIte, Nat.reduceEqDiff, Nat.reduceAdd, Nat.reduceLeDiff, Nat.reduceBEq, Nat.reduceMul, Int.reduceEq, Int.reduceLT, Int.reduceLE, decide_true, decide_false, Bool.not_true, Bool.not_false, List.length_map, h1']; refine HK _ _ ?_; clear HK K)
  | refine ao0' rfl ?_
  | refine aw_if1 rfl ?_
  | refine aw_if0 rfl ?_
  | refine aw_skip ?_
  | refine aw_exit ?_
  | refine aw_ret ?_
  | refine thenS_n ?_
  | refine thenS_x ?_
  | refine thenS_r ?_
  | refine inB_n ?_
  | refine inB_r ?_
  | refine inB_x ?_
  | refine inB_y rfl ?_
  | (exfalso; omega)
 refine aw_for (fun m e h' => ∃ k : Nat, k ≤ l.length ∧ m = l.length - k ∧ (∀ y ∈ l.take k, smallC y) ∧ h' = [] ∧ e 0 = .sl 6 (l.map cmdX) ∧ e 5 = .v (.int .i64 k)) l.length ⟨0, Nat.zero_le _, rfl, by simp, rfl, rfl, rfl⟩ ?_
 rintro m e h' ⟨k, hk, rfl, hs, rfl, e0, e5⟩
 by_cases hlt : k < l.length
 rotate_left
 · skip
   repeat' first
    | refine aw_seq' ?_
    | refine aw_region' ?_
    | refine aw_block ?_
    | refine ao_nil ?_
    | (refine ao1 rfl rfl fun K HK => ?_; (try refine aOp_pick rfl ?_); simp only [go_sem, ↓reduceIte, Nat.reduceEqDiff, Nat.reduceAdd, Nat.reduceLeDiff, Nat.reduceBEq, Nat.reduceMul, Int.reduceEq, Int.reduceLT, Int.reduceLE, decide_true, decide_false, Bool.not_true, Bool.not_false, e0, e5, List.length_map]; (first | refine splitB (fun hq => ?_) (fun hq => ?_) | refine splitN (fun hq => ?_) (fun hq => ?_) | (refine slc_sl (by simp only [go_sem]) rfl rfl (by first | omega | simp) (by first | omega | simp) (by simp only [go_sem]; omega) ?_) | (refine ⟨by omega, by omega, ?_⟩; first | refine row_at (by assumption) ?_ | (intro row hrow; obtain ⟨x, hx, rfl⟩ := row_inv hrow; clear hrow) | (intro row hrow)) | (refine ⟨by omega, ?_⟩; refine row_at (by assumption) ?_) | skip) <;> (refine HK _ _ ?_; clear HK K))
    | (refine aq1 rfl rfl fun K HK => ?_; (try refine aOp_pick rfl ?_); simp only [go_sem, ↓reduceIte, Nat.reduceEqDiff, Nat.reduceAdd, Nat.reduceLeDiff, Nat.reduceBEq, Nat.reduceMul, Int.reduceEq, Int.reduceLT, Int.reduceLE, decide_true, decide_false, Bool.not_true, Bool.not_false, e0, e5, List.length_map]; (first | refine splitB (fun hq => ?_) (fun hq => ?_) | refine splitN (fun hq => ?_) (fun hq => ?_) | (refine slc_sl (by simp only [go_sem]) rfl rfl (by first | omega | simp) (by first | omega | simp) (by simp only [go_sem]; omega) ?_) | (refine ⟨by omega, by omega, ?_⟩; first | refine row_at (by assumption) ?_ | (intro row hrow; obtain ⟨x, hx, rfl⟩ := row_inv hrow; clear hrow) | (intro row hrow)) | (refine ⟨by omega, ?_⟩; refine row_at (by assumption) ?_) | skip) <;> (refine HK _ _ rfl ?_; clear HK K))
    | refine aq0 rfl rfl ?_
    | refine aq_nil ?_
    | (refine aw_draw mixd (by kernel_rfl) ?_)
    | refine ao_appB rfl rfl rfl rfl (by first | assumption | (simp only [go_sem, ↓reduceIte, Nat.reduceEqDiff, Nat.reduceAdd, Nat.reduceLeDiff, Nat.reduceBEq, Nat.reduceMul, Int.reduceEq, Int.reduceLT, Int.reduceLE, decide_true, decide_false, Bool.not_true, Bool.not_false, e0, e5, List.length_map]; rfl) | (simp only [go_sem, ↓reduceIte, Nat.reduceEqDiff, Nat.reduceAdd, Nat.reduceLeDiff, Nat.reduceBEq, Nat.reduceMul, Int.reduceEq, Int.reduceLT, Int.reduceLE, decide_true, decide_false, Bool.not_true, Bool.not_false, e0, e5, List.length_map]; done)) (by simp) (by simp only [go_sem]; rfl) (by first | assumption | (simp only [go_sem, ↓reduceIte, Nat.reduceEqDiff, Nat.reduceAdd, Nat.reduceLeDiff, Nat.reduceBEq, Nat.reduceMul, Int.reduceEq, Int.reduceLT, Int.reduceLE, decide_true, decide_false, Bool.not_true, Bool.not_false, e0, e5, List.length_map]; rfl) | (simp only [go_sem, ↓reduceIte, Nat.reduceEqDiff, Nat.reduceAdd, Nat.reduceLeDiff, Nat.reduceBEq, Nat.reduceMul, Int.reduceEq, Int.reduceLT, Int.reduceLE, decide_true, decide_false, Bool.not_true, Bool.not_false, e0, e5, List.length_map]; done)) (by simp) (by first | assumption | exact rowsOk_nil _ | exact rowsOk_by _ | (rw [byD_cut]; exact rowsOk_by _) | (simp [rowsOk, D.one, Value.oneCell']; done)) (by first | omega | (simp; done) | (simp; omega) | (simp [byD]; omega)) ?_
    | refine ao_appNB rfl rfl rfl rfl (by simp only [go_sem]; rfl) (by first | assumption | (simp only [go_sem, ↓reduceIte, Nat.reduceEqDiff, Nat.reduceAdd, Nat.reduceLeDiff, Nat.reduceBEq, Nat.reduceMul, Int.reduceEq, Int.reduceLT, Int.reduceLE, decide_true, decide_false, Bool.not_true, Bool.not_false, e0, e5, List.length_map]; rfl) | (simp only [go_sem, ↓reduceIte, Nat.reduceEqDiff, Nat.reduceAdd, Nat.reduceLeDiff, Nat.reduceBEq, Nat.reduceMul, Int.reduceEq, Int.reduceLT, Int.reduceLE, decide_true, decide_false, Bool.not_true, Bool.not_false, e0, e5, List.length_map]; done)) (by simp) (by first | assumption | exact rowsOk_nil _ | exact rowsOk_by _ | (rw [byD_cut]; exact rowsOk_by _) | (simp [rowsOk, D.one, Value.oneCell']; done)) (by first | omega | (simp; done) | (simp; omega) | (simp [byD]; omega)) ?_
    | refine ao_appR rfl rfl rfl (by first | assumption | (simp only [go_sem, ↓reduceIte, Nat.reduceEqDiff, Nat.reduceAdd, Nat.reduceLeDiff, Nat.reduceBEq, Nat.reduceMul, Int.reduceEq, Int.reduceLT, Int.reduceLE, decide_true, decide_false, Bool.not_true, Bool.not_false, e0, e5, List.length_map]; rfl) | (simp only [go_sem, ↓reduceIte, Nat.reduceEqDiff, Nat.reduceAdd, Nat.reduceLeDiff, Nat.reduceBEq, Nat.reduceMul, Int.reduceEq, Int.reduceLT, Int.reduceLE, decide_true, decide_false, Bool.not_true, Bool.not_false, e0, e5, List.length_map]; done)) (by simp) (by simp only [go_sem]; rfl) rfl (by first | assumption | exact rowsOk_nil _ | exact rowsOk_by _ | (rw [byD_cut]; exact rowsOk_by _) | (simp [rowsOk, D.one, Value.oneCell']; done)) (by first | omega | (simp; done) | (simp; omega) | (simp [byD]; omega)) ?_
    | refine ao_appNR rfl rfl rfl (by simp only [go_sem]; rfl) rfl (by first | assumption | exact rowsOk_nil _ | exact rowsOk_by _ | (rw [byD_cut]; exact rowsOk_by _) | (simp [rowsOk, D.one, Value.oneCell']; done)) (by first | omega | (simp; done) | (simp; omega) | (simp [byD]; omega)) ?_
    | refine ao0 rfl rfl ?_
    | (refine ao1' rfl fun K HK => ?_; simp only [go_sem, ↓reduceIte, Nat.reduceEqDiff, Nat.reduceAdd, Nat.reduceLeDiff, Nat.reduceBEq, Nat.reduceMul, Int.reduceEq, Int.reduceLT, Int.reduceLE, decide_true, decide_false, Bool.not_true, Bool.not_false, e0, e5, List.length_map]; refine HK _ _ ?_; clear HK K)
    | refine ao0' rfl ?_
    | refine aw_if1 rfl ?_
    | refine aw_if0 rfl ?_
    | refine aw_skip ?_
    | refine aw_exit ?_
    | refine aw_ret ?_
    | refine thenS_n ?_
    | refine thenS_x ?_
    | refine thenS_r ?_
    | refine inB_n ?_
    | refine inB_r ?_
    | refine inB_x ?_
    | refine inB_y rfl ?_
    | (exfalso; omega)
   exact ⟨by simp, no hl0 rfl ⟨fun _ => ⟨by omega, by rwa [List.take_of_length_le (by omega)] at hs⟩, fun _ => rfl⟩⟩
 have hx : l[k]? = some l[k] := List.getElem?_eq_getElem hlt
 have hxm : l[k] ∈ l := List.getElem_mem hlt
 generalize l[k] = x at hx hxm
 have wk : IntKind.i64.wrap ((k : Int) + 1) = (k : Int) + 1 := IntWalk.i64_in _ (by omega)
 repeat' first
  | refine aw_seq' ?_
  | refine aw_region' ?_
  | refine aw_block ?_
  | refine ao_nil ?_
  | (refine ao1 rfl rfl fun K HK => ?_; (try refine aOp_pick rfl ?_); simp only [go_sem, ↓reduceIte, Nat.reduceEqDiff, Nat.reduceAdd, Nat.reduceLeDiff, Nat.reduceBEq, Nat.reduceMul, Int.reduceEq, Int.reduceLT, Int.reduceLE, decide_true, decide_false, Bool.not_true, Bool.not_false, e0, e5, List.length_map, cmdX_eq, byD_len, Int.toNat_natCast, wk]; (first | refine splitB (fun hq => ?_) (fun hq => ?_) | refine splitN (fun hq => ?_) (fun hq => ?_) | (refine slc_sl (by simp only [go_sem]) rfl rfl (by first | omega | simp) (by first | omega | simp) (by simp only [go_sem]; omega) ?_) | (refine ⟨by omega, by omega, ?_⟩; first | refine row_at (by assumption) ?_ | (intro row hrow; obtain ⟨x, hx, rfl⟩ := row_inv hrow; clear hrow) | (intro row hrow)) | (refine ⟨by omega, ?_⟩; refine row_at (by assumption) ?_) | skip) <;> (refine HK _ _ ?_; clear HK K))
  | (refine aq1 rfl rfl fun K HK => ?_; (try refine aOp_pick rfl ?_); simp only [go_sem, ↓reduceIte, Nat.reduceEqDiff, Nat.reduceAdd, Nat.reduceLeDiff, Nat.reduceBEq, Nat.reduceMul, Int.reduceEq, Int.reduceLT, Int.reduceLE, decide_true, decide_false, Bool.not_true, Bool.not_false, e0, e5, List.length_map, cmdX_eq, byD_len, Int.toNat_natCast, wk]; (first | refine splitB (fun hq => ?_) (fun hq => ?_) | refine splitN (fun hq => ?_) (fun hq => ?_) | (refine slc_sl (by simp only [go_sem]) rfl rfl (by first | omega | simp) (by first | omega | simp) (by simp only [go_sem]; omega) ?_) | (refine ⟨by omega, by omega, ?_⟩; first | refine row_at (by assumption) ?_ | (intro row hrow; obtain ⟨x, hx, rfl⟩ := row_inv hrow; clear hrow) | (intro row hrow)) | (refine ⟨by omega, ?_⟩; refine row_at (by assumption) ?_) | skip) <;> (refine HK _ _ rfl ?_; clear HK K))
  | refine aq0 rfl rfl ?_
  | refine aq_nil ?_
  | (refine aw_draw mixd (by kernel_rfl) ?_)
  | refine ao_appB rfl rfl rfl rfl (by first | assumption | (simp only [go_sem, ↓reduceIte, Nat.reduceEqDiff, Nat.reduceAdd, Nat.reduceLeDiff, Nat.reduceBEq, Nat.reduceMul, Int.reduceEq, Int.reduceLT, Int.reduceLE, decide_true, decide_false, Bool.not_true, Bool.not_false, e0, e5, List.length_map, cmdX_eq, byD_len, Int.toNat_natCast, wk]; rfl) | (simp only [go_sem, ↓reduceIte, Nat.reduceEqDiff, Nat.reduceAdd, Nat.reduceLeDiff, Nat.reduceBEq, Nat.reduceMul, Int.reduceEq, Int.reduceLT, Int.reduceLE, decide_true, decide_false, Bool.not_true, Bool.not_false, e0, e5, List.length_map, cmdX_eq, byD_len, Int.toNat_natCast, wk]; done)) (by simp) (by simp only [go_sem]; rfl) (by first | assumption | (simp only [go_sem, ↓reduceIte, Nat.reduceEqDiff, Nat.reduceAdd, Nat.reduceLeDiff, Nat.reduceBEq, Nat.reduceMul, Int.reduceEq, Int.reduceLT, Int.reduceLE, decide_true, decide_false, Bool.not_true, Bool.not_false, e0, e5, List.length_map, cmdX_eq, byD_len, Int.toNat_natCast, wk]; rfl) | (simp only [go_sem, ↓reduceIte, Nat.reduceEqDiff, Nat.reduceAdd, Nat.reduceLeDiff, Nat.reduceBEq, Nat.reduceMul, Int.reduceEq, Int.reduceLT, Int.reduceLE, decide_true, decide_false, Bool.not_true, Bool.not_false, e0, e5, List.length_map, cmdX_eq, byD_len, Int.toNat_natCast, wk]; done)) (by simp) (by first | assumption | exact rowsOk_nil _ | exact rowsOk_by _ | (rw [byD_cut]; exact rowsOk_by _) | (simp [rowsOk, D.one, Value.oneCell']; done)) (by first | omega | (simp; done) | (simp; omega) | (simp [byD]; omega)) ?_
  | refine ao_appNB rfl rfl rfl rfl (by simp only [go_sem]; rfl) (by first | assumption | (simp only [go_sem, ↓reduceIte, Nat.reduceEqDiff, Nat.reduceAdd, Nat.reduceLeDiff, Nat.reduceBEq, Nat.reduceMul, Int.reduceEq, Int.reduceLT, Int.reduceLE, decide_true, decide_false, Bool.not_true, Bool.not_false, e0, e5, List.length_map, cmdX_eq, byD_len, Int.toNat_natCast, wk]; rfl) | (simp only [go_sem, ↓reduceIte, Nat.reduceEqDiff, Nat.reduceAdd, Nat.reduceLeDiff, Nat.reduceBEq, Nat.reduceMul, Int.reduceEq, Int.reduceLT, Int.reduceLE, decide_true, decide_false, Bool.not_true, Bool.not_false, e0, e5, List.length_map, cmdX_eq, byD_len, Int.toNat_natCast, wk]; done)) (by simp) (by first | assumption | exact rowsOk_nil _ | exact rowsOk_by _ | (rw [byD_cut]; exact rowsOk_by _) | (simp [rowsOk, D.one, Value.oneCell']; done)) (by first | omega | (simp; done) | (simp; omega) | (simp [byD]; omega)) ?_
  | refine ao_appR rfl rfl rfl (by first | assumption | (simp only [go_sem, ↓reduceIte, Nat.reduceEqDiff, Nat.reduceAdd, Nat.reduceLeDiff, Nat.reduceBEq, Nat.reduceMul, Int.reduceEq, Int.reduceLT, Int.reduceLE, decide_true, decide_false, Bool.not_true, Bool.not_false, e0, e5, List.length_map, cmdX_eq, byD_len, Int.toNat_natCast, wk]; rfl) | (simp only [go_sem, ↓reduceIte, Nat.reduceEqDiff, Nat.reduceAdd, Nat.reduceLeDiff, Nat.reduceBEq, Nat.reduceMul, Int.reduceEq, Int.reduceLT, Int.reduceLE, decide_true, decide_false, Bool.not_true, Bool.not_false, e0, e5, List.length_map, cmdX_eq, byD_len, Int.toNat_natCast, wk]; done)) (by simp) (by simp only [go_sem]; rfl) rfl (by first | assumption | exact rowsOk_nil _ | exact rowsOk_by _ | (rw [byD_cut]; exact rowsOk_by _) | (simp [rowsOk, D.one, Value.oneCell']; done)) (by first | omega | (simp; done) | (simp; omega) | (simp [byD]; omega)) ?_
  | refine ao_appNR rfl rfl rfl (by simp only [go_sem]; rfl) rfl (by first | assumption | exact rowsOk_nil _ | exact rowsOk_by _ | (rw [byD_cut]; exact rowsOk_by _) | (simp [rowsOk, D.one, Value.oneCell']; done)) (by first | omega | (simp; done) | (simp; omega) | (simp [byD]; omega)) ?_
  | refine ao0 rfl rfl ?_
  | (refine ao1' rfl fun K HK => ?_; simp only [go_sem, ↓reduceIte, Nat.reduceEqDiff, Nat.reduceAdd, Nat.reduceLeDiff, Nat.reduceBEq, Nat.reduceMul, Int.reduceEq, Int.reduceLT, Int.reduceLE, decide_true, decide_false, Bool.not_true, Bool.not_false, e0, e5, List.length_map, cmdX_eq, byD_len, Int.toNat_natCast, wk]; refine HK _ _ ?_; clear HK K)
  | refine ao0' rfl ?_
  | refine aw_if1 rfl ?_
  | refine aw_if0 rfl ?_
  | refine aw_skip ?_
  | refine aw_exit ?_
  | refine aw_ret ?_
  | refine thenS_n ?_
  | refine thenS_x ?_
  | refine thenS_r ?_
  | refine inB_n ?_
  | refine inB_r ?_
  | refine inB_x ?_
  | refine inB_y rfl ?_
  | (exfalso; omega)
 · exact ⟨by simp, no hl0 rfl ⟨fun h => (by cases h), fun h => (by have := (h.2 x hxm).1; omega)⟩⟩
 · exact ⟨by simp, no hl0 rfl ⟨fun h => (by cases h), fun h => (by have := (h.2 x hxm).2.1; omega)⟩⟩
 rename_i hw ht
 refine aw_for (fun m e h' => ∃ j : Nat, j ≤ x.writes.length ∧ m = x.writes.length - j ∧ (∀ y ∈ x.writes.take j, smallW y) ∧ h' = [] ∧ e 0 = .sl 6 (l.map cmdX) ∧ e 5 = .v (.int .i64 k) ∧ e 6 = .v (.int .i64 j)) x.writes.length ⟨0, Nat.zero_le _, rfl, by simp, rfl, e0, e5, rfl⟩ ?_
 clear e0 e5
 rintro m e h' ⟨j, hj, rfl, hsw, rfl, e0, e5, e6⟩
 by_cases hjl : j < x.writes.length
 rotate_left
 · skip
   repeat' first
    | refine aw_seq' ?_
    | refine aw_region' ?_
    | refine aw_block ?_
    | refine ao_nil ?_
    | (refine ao1 rfl rfl fun K HK => ?_; (try refine aOp_pick rfl ?_); simp only [go_sem, ↓reduceIte, Nat.reduceEqDiff, Nat.reduceAdd, Nat.reduceLeDiff, Nat.reduceBEq, Nat.reduceMul, Int.reduceEq, Int.reduceLT, Int.reduceLE, decide_true, decide_false, Bool.not_true, Bool.not_false, e0, e5, e6, List.length_map, cmdX_eq, Int.toNat_natCast, wk]; (first | refine splitB (fun hq => ?_) (fun hq => ?_) | refine splitN (fun hq => ?_) (fun hq => ?_) | (refine slc_sl (by simp only [go_sem]) rfl rfl (by first | omega | simp) (by first | omega | simp) (by simp only [go_sem]; omega) ?_) | (refine ⟨by omega, by omega, ?_⟩; first | refine row_at (by assumption) ?_ | (intro row hrow; obtain ⟨x, hx, rfl⟩ := row_inv hrow; clear hrow) | (intro row hrow)) | (refine ⟨by omega, ?_⟩; refine row_at (by assumption) ?_) | skip) <;> (refine HK _ _ ?_; clear HK K))
    | (refine aq1 rfl rfl fun K HK => ?_; (try refine aOp_pick rfl ?_); simp only [go_sem, ↓reduceIte, Nat.reduceEqDiff, Nat.reduceAdd, Nat.reduceLeDiff, Nat.reduceBEq, Nat.reduceMul, Int.reduceEq, Int.reduceLT, Int.reduceLE, decide_true, decide_false, Bool.not_true, Bool.not_false, e0, e5, e6, List.length_map, cmdX_eq, Int.toNat_natCast, wk]; (first | refine splitB (fun hq => ?_) (fun hq => ?_) | refine splitN (fun hq => ?_) (fun hq => ?_) | (refine slc_sl (by simp only [go_sem]) rfl rfl (by first | omega | simp) (by first | omega | simp) (by simp only [go_sem]; omega) ?_) | (refine ⟨by omega, by omega, ?_⟩; first | refine row_at (by assumption) ?_ | (intro row hrow; obtain ⟨x, hx, rfl⟩ := row_inv hrow; clear hrow) | (intro row hrow)) | (refine ⟨by omega, ?_⟩; refine row_at (by assumption) ?_) | skip) <;> (refine HK _ _ rfl ?_; clear HK K))
    | refine aq0 rfl rfl ?_
    | refine aq_nil ?_
    | (refine aw_draw mixd (by kernel_rfl) ?_)
    | refine ao_appB rfl rfl rfl rfl (by first | assumption | (simp only [go_sem, ↓reduceIte, Nat.reduceEqDiff, Nat.reduceAdd, Nat.reduceLeDiff, Nat.reduceBEq, Nat.reduceMul, Int.reduceEq, Int.reduceLT, Int.reduceLE, decide_true, decide_false, Bool.not_true, Bool.not_false, e0, e5, e6, List.length_map, cmdX_eq, Int.toNat_natCast, wk]; rfl) | (simp only [go_sem, ↓reduceIte, Nat.reduceEqDiff, Nat.reduceAdd, Nat.reduceLeDiff, Nat.reduceBEq, Nat.reduceMul, Int.reduceEq, Int.reduceLT, Int.reduceLE, decide_true, decide_false, Bool.not_true, Bool.not_false, e0, e5, e6, List.length_map, cmdX_eq, Int.toNat_natCast, wk]; done)) (by simp) (by simp only [go_sem]; rfl) (by first | assumption | (simp only [go_sem, ↓reduceIte, Nat.reduceEqDiff, Nat.reduceAdd, Nat.reduceLeDiff, Nat.reduceBEq, Nat.reduceMul, Int.reduceEq, Int.reduceLT, Int.reduceLE, decide_true, decide_false, Bool.not_true, Bool.not_false, e0, e5, e6, List.length_map, cmdX_eq, Int.toNat_natCast, wk]; rfl) | (simp only [go_sem, ↓reduceIte, Nat.reduceEqDiff, Nat.reduceAdd, Nat.reduceLeDiff, Nat.reduceBEq, Nat.reduceMul, Int.reduceEq, Int.reduceLT, Int.reduceLE, decide_true, decide_false, Bool.not_true, Bool.not_false, e0, e5, e6, List.length_map, cmdX_eq, Int.toNat_natCast, wk]; done)) (by simp) (by first | assumption | exact rowsOk_nil _ | exact rowsOk_by _ | (rw [byD_cut]; exact rowsOk_by _) | (simp [rowsOk, D.one, Value.oneCell']; done)) (by first | omega | (simp; done) | (simp; omega) | (simp [byD]; omega)) ?_
    | refine ao_appNB rfl rfl rfl rfl (by simp only [go_sem]; rfl) (by first | assumption | (simp only [go_sem, ↓reduceIte, Nat.reduceEqDiff, Nat.reduceAdd, Nat.reduceLeDiff, Nat.reduceBEq, Nat.reduceMul, Int.reduceEq, Int.reduceLT, Int.reduceLE, decide_true, decide_false, Bool.not_true, Bool.not_false, e0, e5, e6, List.length_map, cmdX_eq, Int.toNat_natCast, wk]; rfl) | (simp only [go_sem, ↓reduceIte, Nat.reduceEqDiff, Nat.reduceAdd, Nat.reduceLeDiff, Nat.reduceBEq, Nat.reduceMul, Int.reduceEq, Int.reduceLT, Int.reduceLE, decide_true, decide_false, Bool.not_true, Bool.not_false, e0, e5, e6, List.length_map, cmdX_eq, Int.toNat_natCast, wk]; done)) (by simp) (by first | assumption | exact rowsOk_nil _ | exact rowsOk_by _ | (rw [byD_cut]; exact rowsOk_by _) | (simp [rowsOk, D.one, Value.oneCell']; done)) (by first | omega | (simp; done) | (simp; omega) | (simp [byD]; omega)) ?_
    | refine ao_appR rfl rfl rfl (by first | assumption | (simp only [go_sem, ↓reduceIte, Nat.reduceEqDiff, Nat.reduceAdd, Nat.reduceLeDiff, Nat.reduceBEq, Nat.reduceMul, Int.reduceEq, Int.reduceLT, Int.reduceLE, decide_true, decide_false, Bool.not_true, Bool.not_false, e0, e5, e6, List.length_map, cmdX_eq, Int.toNat_natCast, wk]; rfl) | (simp only [go_sem, ↓reduceIte, Nat.reduceEqDiff, Nat.reduceAdd, Nat.reduceLeDiff, Nat.reduceBEq, Nat.reduceMul, Int.reduceEq, Int.reduceLT, Int.reduceLE, decide_true, decide_false, Bool.not_true, Bool.not_false, e0, e5, e6, List.length_map, cmdX_eq, Int.toNat_natCast, wk]; done)) (by simp) (by simp only [go_sem]; rfl) rfl (by first | assumption | exact rowsOk_nil _ | exact rowsOk_by _ | (rw [byD_cut]; exact rowsOk_by _) | (simp [rowsOk, D.one, Value.oneCell']; done)) (by first | omega | (simp; done) | (simp; omega) | (simp [byD]; omega)) ?_
    | refine ao_appNR rfl rfl rfl (by simp only [go_sem]; rfl) rfl (by first | assumption | exact rowsOk_nil _ | exact rowsOk_by _ | (rw [byD_cut]; exact rowsOk_by _) | (simp [rowsOk, D.one, Value.oneCell']; done)) (by first | omega | (simp; done) | (simp; omega) | (simp [byD]; omega)) ?_
    | refine ao0 rfl rfl ?_
    | (refine ao1' rfl fun K HK => ?_; simp only [go_sem, ↓reduceIte, Nat.reduceEqDiff, Nat.reduceAdd, Nat.reduceLeDiff, Nat.reduceBEq, Nat.reduceMul, Int.reduceEq, Int.reduceLT, Int.reduceLE, decide_true, decide_false, Bool.not_true, Bool.not_false, e0, e5, e6, List.length_map, cmdX_eq, Int.toNat_natCast, wk]; refine HK _ _ ?_; clear HK K)
    | refine ao0' rfl ?_
    | refine aw_if1 rfl ?_
    | refine aw_if0 rfl ?_
    | refine aw_skip ?_
    | refine aw_exit ?_
    | refine aw_ret ?_
    | refine thenS_n ?_
    | refine thenS_x ?_
    | refine thenS_r ?_
    | refine inB_n ?_
    | refine inB_r ?_
    | refine inB_x ?_
    | refine inB_y rfl ?_
    | (exfalso; omega)
   exact ⟨rfl, l.length - (k + 1), by omega, k + 1, hlt, rfl, all_take hs hx ⟨by omega, by omega, by rwa [List.take_of_length_le (by omega)] at hsw⟩, rfl, e0, rfl⟩
 have hy : x.writes[j]? = some x.writes[j] := List.getElem?_eq_getElem hjl
 have hym : x.writes[j] ∈ x.writes := List.getElem_mem hjl
 generalize x.writes[j] = y at hy hym
 have wj : IntKind.i64.wrap ((j : Int) + 1) = (j : Int) + 1 := IntWalk.i64_in _ (by omega)
 repeat' first
  | refine aw_seq' ?_
  | refine aw_region' ?_
  | refine aw_block ?_
  | refine ao_nil ?_
  | (refine ao1 rfl rfl fun K HK => ?_; (try refine aOp_pick rfl ?_); simp only [go_sem, ↓reduceIte, Nat.reduceEqDiff, Nat.reduceAdd, Nat.reduceLeDiff, Nat.reduceBEq, Nat.reduceMul, Int.reduceEq, Int.reduceLT, Int.reduceLE, decide_true, decide_false, Bool.not_true, Bool.not_false, e0, e5, e6, List.length_map, cmdX_eq, wrX_eq, byD_len, Int.toNat_natCast, wj]; (first | refine splitB (fun hq => ?_) (fun hq => ?_) | refine splitN (fun hq => ?_) (fun hq => ?_) | (refine slc_sl (by simp only [go_sem]) rfl rfl (by first | omega | simp) (by first | omega | simp) (by simp only [go_sem]; omega) ?_) | (refine ⟨by omega, by omega, ?_⟩; first | refine row_at (by assumption) ?_ | (intro row hrow; obtain ⟨x, hx, rfl⟩ := row_inv hrow; clear hrow) | (intro row hrow)) | (refine ⟨by omega, ?_⟩; refine row_at (by assumption) ?_) | skip) <;> (refine HK _ _ ?_; clear HK K))
  | (refine aq1 rfl rfl fun K HK => ?_; (try refine aOp_pick rfl ?_); simp only [go_sem, ↓reduceIte, Nat.reduceEqDiff, Nat.reduceAdd, Nat.reduceLeDiff, Nat.reduceBEq, Nat.reduceMul, Int.reduceEq, Int.reduceLT, Int.reduceLE, decide_true, decide_false, Bool.not_true, Bool.not_false, e0, e5, e6, List.length_map, cmdX_eq, wrX_eq, byD_len, Int.toNat_natCast, wj]; (first | refine splitB (fun hq => ?_) (fun hq => ?_) | refine splitN (fun hq => ?_) (fun hq => ?_) | (refine slc_sl (by simp only [go_sem]) rfl rfl (by first | omega | simp) (by first | omega | simp) (by simp only [go_sem]; omega) ?_) | (refine ⟨by omega, by omega, ?_⟩; first | refine row_at (by assumption) ?_ | (intro row hrow; obtain ⟨x, hx, rfl⟩ := row_inv hrow; clear hrow) | (intro row hrow)) | (refine ⟨by omega, ?_⟩; refine row_at (by assumption) ?_) | skip) <;> (refine HK _ _ rfl ?_; clear HK K))
  | refine aq0 rfl rfl ?_
  | refine aq_nil ?_
  | (refine aw_draw mixd (by kernel_rfl) ?_)
  | refine ao_appB rfl rfl rfl rfl (by first | assumption | (simp only [go_sem, ↓reduceIte, Nat.reduceEqDiff, Nat.reduceAdd, Nat.reduceLeDiff, Nat.reduceBEq, Nat.reduceMul, Int.reduceEq, Int.reduceLT, Int.reduceLE, decide_true, decide_false, Bool.not_true, Bool.not_false, e0, e5, e6, List.length_map, cmdX_eq, wrX_eq, byD_len, Int.toNat_natCast, wj]; rfl) | (simp only [go_sem, ↓reduceIte, Nat.reduceEqDiff, Nat.reduceAdd, Nat.reduceLeDiff, Nat.reduceBEq, Nat.reduceMul, Int.reduceEq, Int.reduceLT, Int.reduceLE, decide_true, decide_false, Bool.not_true, Bool.not_false, e0, e5, e6, List.length_map, cmdX_eq, wrX_eq, byD_len, Int.toNat_natCast, wj]; done)) (by simp) (by simp only [go_sem]; rfl) (by first | assumption | (simp only [go_sem, ↓reduceIte, Nat.reduceEqDiff, Nat.reduceAdd, Nat.reduceLeDiff, Nat.reduceBEq, Nat.reduceMul, Int.reduceEq, Int.reduceLT, Int.reduceLE, decide_true, decide_false, Bool.not_true, Bool.not_false, e0, e5, e6, List.length_map, cmdX_eq, wrX_eq, byD_len, Int.toNat_natCast, wj]; rfl) | (simp only [go_sem, ↓reduceIte, Nat.reduceEqDiff, Nat.reduceAdd, Nat.reduceLeDiff, Nat.reduceBEq, Nat.reduceMul, Int.reduceEq, Int.reduceLT, Int.reduceLE, decide_true, decide_false, Bool.not_true, Bool.not_false, e0, e5, e6, List.length_map, cmdX_eq, wrX_eq, byD_len, Int.toNat_natCast, wj]; done)) (by simp) (by first | assumption | exact rowsOk_nil _ | exact rowsOk_by _ | (rw [byD_cut]; exact rowsOk_by _) | (simp [rowsOk, D.one, Value.oneCell']; done)) (by first | omega | (simp; done) | (simp; omega) | (simp [byD]; omega)) ?_
  | refine ao_appNB rfl rfl rfl rfl (by simp only [go_sem]; rfl) (by first | assumption | (simp only [go_sem, ↓reduceIte, Nat.reduceEqDiff, Nat.reduceAdd, Nat.reduceLeDiff, Nat.reduceBEq, Nat.reduceMul, Int.reduceEq, Int.reduceLT, Int.reduceLE, decide_true, decide_false, Bool.not_true, Bool.not_false, e0, e5, e6, List.length_map, cmdX_eq, wrX_eq, byD_len, Int.toNat_natCast, wj]; rfl) | (simp only [go_sem, ↓reduceIte, Nat.reduceEqDiff, Nat.reduceAdd, Nat.reduceLeDiff, Nat.reduceBEq, Nat.reduceMul, Int.reduceEq, Int.reduceLT, Int.reduceLE, decide_true, decide_false, Bool.not_true, Bool.not_false, e0, e5, e6, List.length_map, cmdX_eq, wrX_eq, byD_len, Int.toNat_natCast, wj]; done)) (by simp) (by first | assumption | exact rowsOk_nil _ | exact rowsOk_by _ | (rw [byD_cut]; exact rowsOk_by _) | (simp [rowsOk, D.one, Value.oneCell']; done)) (by first | omega | (simp; done) | (simp; omega) | (simp [byD]; omega)) ?_
  | refine ao_appR rfl rfl rfl (by first | assumption | (simp only [go_sem, ↓reduceIte, Nat.reduceEqDiff, Nat.reduceAdd, Nat.reduceLeDiff, Nat.reduceBEq, Nat.reduceMul, Int.reduceEq, Int.reduceLT, Int.reduceLE, decide_true, decide_false, Bool.not_true, Bool.not_false, e0, e5, e6, List.length_map, cmdX_eq, wrX_eq, byD_len, Int.toNat_natCast, wj]; rfl) | (simp only [go_sem, ↓reduceIte, Nat.reduceEqDiff, Nat.reduceAdd, Nat.reduceLeDiff, Nat.reduceBEq, Nat.reduceMul, Int.reduceEq, Int.reduceLT, Int.reduceLE, decide_true, decide_false, Bool.not_true, Bool.not_false, e0, e5, e6, List.length_map, cmdX_eq, wrX_eq, byD_len, Int.toNat_natCast, wj]; done)) (by simp) (by simp only [go_sem]; rfl) rfl (by first | assumption | exact rowsOk_nil _ | exact rowsOk_by _ | (rw [byD_cut]; exact rowsOk_by _) | (simp [rowsOk, D.one, Value.oneCell']; done)) (by first | omega | (simp; done) | (simp; omega) | (simp [byD]; omega)) ?_
  | refine ao_appNR rfl rfl rfl (by simp only [go_sem]; rfl) rfl (by first | assumption | exact rowsOk_nil _ | exact rowsOk_by _ | (rw [byD_cut]; exact rowsOk_by _) | (simp [rowsOk, D.one, Value.oneCell']; done)) (by first | omega | (simp; done) | (simp; omega) | (simp [byD]; omega)) ?_
  | refine ao0 rfl rfl ?_
  | (refine ao1' rfl fun K HK => ?_; simp only [go_sem, ↓reduceIte, Nat.reduceEqDiff, Nat.reduceAdd, Nat.reduceLeDiff, Nat.reduceBEq, Nat.reduceMul, Int.reduceEq, Int.reduceLT, Int.reduceLE, decide_true, decide_false, Bool.not_true, Bool.not_false, e0, e5, e6, List.length_map, cmdX_eq, wrX_eq, byD_len, Int.toNat_natCast, wj]; refine HK _ _ ?_; clear HK K)
  | refine ao0' rfl ?_
  | refine aw_if1 rfl ?_
  | refine aw_if0 rfl ?_
  | refine aw_skip ?_
  | refine aw_exit ?_
  | refine aw_ret ?_
  | refine thenS_n ?_
  | refine thenS_x ?_
  | refine thenS_r ?_
  | refine inB_n ?_
  | refine inB_r ?_
  | refine inB_x ?_
  | refine inB_y rfl ?_
  | (exfalso; omega)
 · exact ⟨by simp, no hl0 rfl ⟨fun h => (by cases h), fun h => (by have := ((h.2 x hxm).2.2 y hym).1; omega)⟩⟩
 · exact ⟨by simp, no hl0 rfl ⟨fun h => (by cases h), fun h => (by have := ((h.2 x hxm).2.2 y hym).2; omega)⟩⟩
 · exact ⟨rfl, x.writes.length - (j + 1), by omega, j + 1, hjl, rfl, all_take hsw hy ⟨by omega, by omega⟩, rfl, e0, e5, rfl⟩
end
end Go.Proofs.YtidpdgdakghfnaaGreat
