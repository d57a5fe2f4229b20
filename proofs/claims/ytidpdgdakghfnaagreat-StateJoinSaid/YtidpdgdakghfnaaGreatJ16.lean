/-
  What the statements of the chapter share, part 16: RB2, RB3, SO, CF0, CL1.
-/
import Derived.Test.YtidpdgdakghfnaaGreatJ14
import Derived.Test.YtidpdgdakghfnaaGreatJ15
set_option linter.unusedVariables false
set_option linter.unusedSimpArgs false
set_option maxRecDepth 100000
set_option maxHeartbeats 8000000
namespace Go.Proofs.YtidpdgdakghfnaaGreat
open Go.RowKit
section
set_option maxRecDepth 100000
set_option maxHeartbeats 1000000
attribute [local irreducible] on aOp
attribute [local simp] byD_len
theorem Does.arg0 {P : Program} {G : Nat → D} {f : FuncId} {h : List Ob} {d d' : D} {args : List D} {K : List Ob → D → Prop} (q : Does P G f h (d' :: args) K) (k : ∀ hd hh W u, rd hd hh W d u → rd hd hh W d' u) : Does P G f h (d :: args) K := fun w hd p vs o ha => by
 rw [rdL] at ha
 obtain ⟨u, t, rfl, h1, h2⟩ := ha
 exact q w hd p _ o (by rw [rdL]; exact ⟨u, t, rfl, k _ _ _ _ h1, h2⟩)
variable (G : Nat → D) (hG : ∀ g, low 0 (G g))
include hG
theorem sUint (l : List UInt8) {n : Nat} (hn : n < 18446744073709551616) (hl : l.length ≤ 100000000) (h : List Ob) : Does Tryz.prog G 180 h [.sl 1 (byD l), .v (.int .u64 n)] (fun h' r => h' = h ∧ r = .sl 1 (byD (l ++ uintE n))) :=
 does_gave hG (by rw [lowL, lowL, lowL]; exact ⟨low_by _ _, by simp [low], trivial⟩) rfl (rUint0 G hG l n hn hl) h
theorem sInt (l : List UInt8) {n : Int} (hn : I64 n) (hl : l.length ≤ 100000000) (h : List Ob) : Does Tryz.prog G 181 h [.sl 1 (byD l), .v (.int .i64 n)] (fun h' r => h' = h ∧ r = .sl 1 (byD (l ++ intE n))) :=
 does_gave hG (by rw [lowL, lowL, lowL]; exact ⟨low_by _ _, by simp [low], trivial⟩) rfl (rInt0 G hG l n hn hl) h
theorem sText (l : List UInt8) {s : ByteArray} (hs : s.size ≤ 10000000) (hl : l.length ≤ 80000000) (h : List Ob) : Does Tryz.prog G 182 h [.sl 1 (byD l), .v (.string s)] (fun h' r => h' = h ∧ r = .sl 1 (byD (l ++ textE s))) :=
 does_gave hG (by rw [lowL, lowL, lowL]; exact ⟨low_by _ _, by simp [low], trivial⟩) rfl (rText0 G hG l s hs hl) h
theorem sBytes (l : List UInt8) {b : List UInt8} (hs : b.length ≤ 10000000) (hl : l.length ≤ 80000000) (h : List Ob) : Does Tryz.prog G 120 h [.sl 1 (byD l), .sl 1 (byD b)] (fun h' r => h' = h ∧ r = .sl 1 (byD (l ++ bytesE b))) :=
 does_gave hG (by rw [lowL, lowL, lowL]; exact ⟨low_by _ _, low_by _ _, trivial⟩) rfl (rBytes0 G hG l b hs hl) h
theorem bare_d (l : List UInt8) (c : Cmd) (hc : c.Ok) (hl : l.length ≤ 1000000) (h : List Ob) : Does Tryz.prog G 121 h [.sl 1 (byD l), .agg (cmdX c)] (fun h' r => h' = h ∧ r = .sl 1 (byD (l ++ writeC c))) := by
 refine does_any G hG (by rw [lowL, lowL, lowL]; exact ⟨low_by _ _, low_agg _ _, trivial⟩) (low_by _ _) ?_ h
 have h1 := intE_len hc.client
 have h2 := intE_len hc.seq
 have h3 := intE_len hc.kind
 have h4 := (uintE_len10 c.writes.length (by have := hc.many; omega)).1
 have hm := hc.many
 have hb := writesE_len c.writes hc.each
 refine does_of_aw Tryz.func121 rfl (Nat.le_of_ble_eq_true rfl) hG fun hl0 _ => ?_
 simp only [Tryz.ntmps121]
 repeat' first
  | refine aw_seq' ?_
  | refine aw_region' ?_
  | refine aw_block ?_
  | refine ao_nil ?_
  | (refine ao1 rfl rfl fun K HK => ?_; (try refine aOp_pick rfl ?_); simp only [go_sem, ↓reduceIte, Nat.reduceEqDiff, Nat.reduceAdd, Nat.reduceLeDiff, Nat.reduceBEq, Nat.reduceMul, Int.reduceEq, Int.reduceLT, Int.reduceLE, decide_true, decide_false, Bool.not_true, Bool.not_false, cmdX_eq, lenU (a := c.writes.length) (by omega)]; (first | refine splitB (fun hq => ?_) (fun hq => ?_) | refine splitN (fun hq => ?_) (fun hq => ?_) | (refine slc_sl (by simp only [go_sem]) rfl rfl (by first | omega | simp) (by first | omega | simp) (by simp only [go_sem]; omega) ?_) | (refine ⟨by omega, by omega, ?_⟩; first | refine row_at (by assumption) ?_ | (intro row hrow; obtain ⟨x, hx, rfl⟩ := row_inv hrow; clear hrow) | (intro row hrow)) | (refine ⟨by omega, ?_⟩; refine row_at (by assumption) ?_) | skip) <;> (refine HK _ _ ?_; clear HK K))
  | (refine aq1 rfl rfl fun K HK => ?_; (try refine aOp_pick rfl ?_); simp only [go_sem, ↓reduceIte, Nat.reduceEqDiff, Nat.reduceAdd, Nat.reduceLeDiff, Nat.reduceBEq, Nat.reduceMul, Int.reduceEq, Int.reduceLT, Int.reduceLE, decide_true, decide_false, Bool.not_true, Bool.not_false, cmdX_eq, lenU (a := c.writes.length) (by omega)]; (first | refine splitB (fun hq => ?_) (fun hq => ?_) | refine splitN (fun hq => ?_) (fun hq => ?_) | (refine slc_sl (by simp only [go_sem]) rfl rfl (by first | omega | simp) (by first | omega | simp) (by simp only [go_sem]; omega) ?_) | (refine ⟨by omega, by omega, ?_⟩; first | refine row_at (by assumption) ?_ | (intro row hrow; obtain ⟨x, hx, rfl⟩ := row_inv hrow; clear hrow) | (intro row hrow)) | (refine ⟨by omega, ?_⟩; refine row_at (by assumption) ?_) | skip) <;> (refine HK _ _ rfl ?_; clear HK K))
  | refine aq0 rfl rfl ?_
  | refine aq_nil ?_
  | (refine aw_draw mixd (by kernel_rfl) ?_)
  | refine ao_appB rfl rfl rfl rfl (by first | assumption | (simp only [go_sem, ↓reduceIte, Nat.reduceEqDiff, Nat.reduceAdd, Nat.reduceLeDiff, Nat.reduceBEq, Nat.reduceMul, Int.reduceEq, Int.reduceLT, Int.reduceLE, decide_true, decide_false, Bool.not_true, Bool.not_false, cmdX_eq, lenU (a := c.writes.length) (by omega)]; rfl) | (simp only [go_sem, ↓reduceIte, Nat.reduceEqDiff, Nat.reduceAdd, Nat.reduceLeDiff, Nat.reduceBEq, Nat.reduceMul, Int.reduceEq, Int.reduceLT, Int.reduceLE, decide_true, decide_false, Bool.not_true, Bool.not_false, cmdX_eq, lenU (a := c.writes.length) (by omega)]; done)) (by simp) (by simp only [go_sem]; rfl) (by first | assumption | (simp only [go_sem, ↓reduceIte, Nat.reduceEqDiff, Nat.reduceAdd, Nat.reduceLeDiff, Nat.reduceBEq, Nat.reduceMul, Int.reduceEq, Int.reduceLT, Int.reduceLE, decide_true, decide_false, Bool.not_true, Bool.not_false, cmdX_eq, lenU (a := c.writes.length) (by omega)]; rfl) | (simp only [go_sem, ↓reduceIte, Nat.reduceEqDiff, Nat.reduceAdd, Nat.reduceLeDiff, Nat.reduceBEq, Nat.reduceMul, Int.reduceEq, Int.reduceLT, Int.reduceLE, decide_true, decide_false, Bool.not_true, Bool.not_false, cmdX_eq, lenU (a := c.writes.length) (by omega)]; done)) (by simp) (by first | assumption | exact rowsOk_nil _ | exact rowsOk_by _ | (rw [byD_cut]; exact rowsOk_by _) | (simp [rowsOk, D.one, Value.oneCell']; done)) (by first | omega | (simp; done) | (simp; omega) | (simp [byD]; omega)) ?_
  | refine ao_appNB rfl rfl rfl rfl (by simp only [go_sem]; rfl) (by first | assumption | (simp only [go_sem, ↓reduceIte, Nat.reduceEqDiff, Nat.reduceAdd, Nat.reduceLeDiff, Nat.reduceBEq, Nat.reduceMul, Int.reduceEq, Int.reduceLT, Int.reduceLE, decide_true, decide_false, Bool.not_true, Bool.not_false, cmdX_eq, lenU (a := c.writes.length) (by omega)]; rfl) | (simp only [go_sem, ↓reduceIte, Nat.reduceEqDiff, Nat.reduceAdd, Nat.reduceLeDiff, Nat.reduceBEq, Nat.reduceMul, Int.reduceEq, Int.reduceLT, Int.reduceLE, decide_true, decide_false, Bool.not_true, Bool.not_false, cmdX_eq, lenU (a := c.writes.length) (by omega)]; done)) (by simp) (by first | assumption | exact rowsOk_nil _ | exact rowsOk_by _ | (rw [byD_cut]; exact rowsOk_by _) | (simp [rowsOk, D.one, Value.oneCell']; done)) (by first | omega | (simp; done) | (simp; omega) | (simp [byD]; omega)) ?_
  | refine ao_appR rfl rfl rfl (by first | assumption | (simp only [go_sem, ↓reduceIte, Nat.reduceEqDiff, Nat.reduceAdd, Nat.reduceLeDiff, Nat.reduceBEq, Nat.reduceMul, Int.reduceEq, Int.reduceLT, Int.reduceLE, decide_true, decide_false, Bool.not_true, Bool.not_false, cmdX_eq, lenU (a := c.writes.length) (by omega)]; rfl) | (simp only [go_sem, ↓reduceIte, Nat.reduceEqDiff, Nat.reduceAdd, Nat.reduceLeDiff, Nat.reduceBEq, Nat.reduceMul, Int.reduceEq, Int.reduceLT, Int.reduceLE, decide_true, decide_false, Bool.not_true, Bool.not_false, cmdX_eq, lenU (a := c.writes.length) (by omega)]; done)) (by simp) (by simp only [go_sem]; rfl) rfl (by first | assumption | exact rowsOk_nil _ | exact rowsOk_by _ | (rw [byD_cut]; exact rowsOk_by _) | (simp [rowsOk, D.one, Value.oneCell']; done)) (by first | omega | (simp; done) | (simp; omega) | (simp [byD]; omega)) ?_
  | refine ao_appNR rfl rfl rfl (by simp only [go_sem]; rfl) rfl (by first | assumption | exact rowsOk_nil _ | exact rowsOk_by _ | (rw [byD_cut]; exact rowsOk_by _) | (simp [rowsOk, D.one, Value.oneCell']; done)) (by first | omega | (simp; done) | (simp; omega) | (simp [byD]; omega)) ?_
  | refine ao0 rfl rfl ?_
  | refine aq2 rfl rfl rfl ent_181 (sInt G hG _ hc.client (by first | omega | (simp only [List.length_append]; omega)) _) ?_
  | (refine ao2 rfl rfl rfl ent_181 (sInt G hG _ hc.client (by first | omega | (simp only [List.length_append]; omega)) _) ?_; rintro _ _ ⟨rfl, rfl⟩)
  | refine aq2 rfl rfl rfl ent_181 (sInt G hG _ hc.seq (by first | omega | (simp only [List.length_append]; omega)) _) ?_
  | (refine ao2 rfl rfl rfl ent_181 (sInt G hG _ hc.seq (by first | omega | (simp only [List.length_append]; omega)) _) ?_; rintro _ _ ⟨rfl, rfl⟩)
  | refine aq2 rfl rfl rfl ent_181 (sInt G hG _ hc.kind (by first | omega | (simp only [List.length_append]; omega)) _) ?_
  | (refine ao2 rfl rfl rfl ent_181 (sInt G hG _ hc.kind (by first | omega | (simp only [List.length_append]; omega)) _) ?_; rintro _ _ ⟨rfl, rfl⟩)
  | refine aq2 rfl rfl rfl ent_180 (sUint G hG _ (n := c.writes.length) (by omega) (by first | omega | (simp only [List.length_append]; omega)) _) ?_
  | (refine ao2 rfl rfl rfl ent_180 (sUint G hG _ (n := c.writes.length) (by omega) (by first | omega | (simp only [List.length_append]; omega)) _) ?_; rintro _ _ ⟨rfl, rfl⟩)
  | (refine ao1' rfl fun K HK => ?_; simp only [go_sem, ↓reduceIte, Nat.reduceEqDiff, Nat.reduceAdd, Nat.reduceLeDiff, Nat.reduceBEq, Nat.reduceMul, Int.reduceEq, Int.reduceLT, Int.reduceLE, decide_true, decide_false, Bool.not_true, Bool.not_false, cmdX_eq, lenU (a := c.writes.length) (by omega)]; refine HK _ _ ?_; clear HK K)
  | refine ao0' rfl ?_
  | refine aw_if1 rfl ?_
  | refine aw_if0 rfl ?_
  | refine aw_skip ?_
  | refine aw_exit ?_
  | refine aw_ret ?_
  | refine thenS_n ?_
  | refine thenS_x ?_
  | refine thenS_r ?_
  | refine inB_n ?_
  | refine inB_r ?_
  | refine inB_x ?_
  | refine inB_y rfl ?_
  | (exfalso; omega)
 generalize hP : l ++ (intE c.client ++ (intE c.seq ++ (intE c.kind ++ uintE c.writes.length))) = P
 have hPl : P.length ≤ 1000040 := by rw [← hP]; simp only [List.length_append]; omega
 refine aw_for (fun m e h' => ∃ (k : Nat) (cur : List UInt8), k ≤ c.writes.length ∧ m = c.writes.length - k ∧ cur = P ++ writesE (c.writes.take k) ∧ h' = [.cells (cmdX c)] ∧ e 3 = .ptr 0 0 ∧ e 5 = .sl 1 (byD cur) ∧ e 6 = .v (.int .i64 k)) c.writes.length ⟨0, P, Nat.zero_le _, rfl, by simp [writesE], rfl, rfl, rfl, rfl⟩ ?_
 rintro m e h' ⟨k, cur, hk, rfl, hcur, rfl, e3, e5, e6⟩
 have hcl : cur.length ≤ 30000000 := by
  have h5 := writesE_len (c.writes.take k) fun x hx => hc.each x (List.mem_of_mem_take hx)
  rw [hcur, List.length_append]
  have := List.length_take_le k c.writes
  omega
 by_cases hlt : k < c.writes.length
 · have hx : c.writes[k]? = some c.writes[k] := List.getElem?_eq_getElem hlt
   have hxm := hc.each _ (List.getElem_mem hlt)
   generalize c.writes[k] = x at hx hxm
   have ht : (textE x.1).length ≤ 10010 := by
    have h6 := (uintE_len10 x.1.size (by omega)).1
    have e2 : x.1.data.toList.length = x.1.size := rfl
    simp only [textE, List.length_append, e2]; omega
   have wk : IntKind.i64.wrap ((k : Int) + 1) = (k : Int) + 1 := IntWalk.i64_in _ (by omega)
   repeat' first
    | refine aw_seq' ?_
    | refine aw_region' ?_
    | refine aw_block ?_
    | refine ao_nil ?_
    | (refine ao1 rfl rfl fun K HK => ?_; (try refine aOp_pick rfl ?_); simp only [go_sem, ↓reduceIte, Nat.reduceEqDiff, Nat.reduceAdd, Nat.reduceLeDiff, Nat.reduceBEq, Nat.reduceMul, Int.reduceEq, Int.reduceLT, Int.reduceLE, decide_true, decide_false, Bool.not_true, Bool.not_false, e3, e5, e6, cmdX_eq, wrX_eq, Int.toNat_natCast, wk]; (first | refine splitB (fun hq => ?_) (fun hq => ?_) | refine splitN (fun hq => ?_) (fun hq => ?_) | (refine slc_sl (by simp only [go_sem]) rfl rfl (by first | omega | simp) (by first | omega | simp) (by simp only [go_sem]; omega) ?_) | (refine ⟨by omega, by omega, ?_⟩; first | refine row_at (by assumption) ?_ | (intro row hrow; obtain ⟨x, hx, rfl⟩ := row_inv hrow; clear hrow) | (intro row hrow)) | (refine ⟨by omega, ?_⟩; refine row_at (by assumption) ?_) | skip) <;> (refine HK _ _ ?_; clear HK K))
    | (refine aq1 rfl rfl fun K HK => ?_; (try refine aOp_pick rfl ?_); simp only [go_sem, ↓reduceIte, Nat.reduceEqDiff, Nat.reduceAdd, Nat.reduceLeDiff, Nat.reduceBEq, Nat.reduceMul, Int.reduceEq, Int.reduceLT, Int.reduceLE, decide_true, decide_false, Bool.not_true, Bool.not_false, e3, e5, e6, cmdX_eq, wrX_eq, Int.toNat_natCast, wk]; (first | refine splitB (fun hq => ?_) (fun hq => ?_) | refine splitN (fun hq => ?_) (fun hq => ?_) | (refine slc_sl (by simp only [go_sem]) rfl rfl (by first | omega | simp) (by first | omega | simp) (by simp only [go_sem]; omega) ?_) | (refine ⟨by omega, by omega, ?_⟩; first | refine row_at (by assumption) ?_ | (intro row hrow; obtain ⟨x, hx, rfl⟩ := row_inv hrow; clear hrow) | (intro row hrow)) | (refine ⟨by omega, ?_⟩; refine row_at (by assumption) ?_) | skip) <;> (refine HK _ _ rfl ?_; clear HK K))
    | refine aq0 rfl rfl ?_
    | refine aq_nil ?_
    | (refine aw_draw mixd (by kernel_rfl) ?_)
    | refine ao_appB rfl rfl rfl rfl (by first | assumption | (simp only [go_sem, ↓reduceIte, Nat.reduceEqDiff, Nat.reduceAdd, Nat.reduceLeDiff, Nat.reduceBEq, Nat.reduceMul, Int.reduceEq, Int.reduceLT, Int.reduceLE, decide_true, decide_false, Bool.not_true, Bool.not_false, e3, e5, e6, cmdX_eq, wrX_eq, Int.toNat_natCast, wk]; rfl) | (simp only [go_sem, ↓reduceIte, Nat.reduceEqDiff, Nat.reduceAdd, Nat.reduceLeDiff, Nat.reduceBEq, Nat.reduceMul, Int.reduceEq, Int.reduceLT, Int.reduceLE, decide_true, decide_false, Bool.not_true, Bool.not_false, e3, e5, e6, cmdX_eq, wrX_eq, Int.toNat_natCast, wk]; done)) (by simp) (by simp only [go_sem]; rfl) (by first | assumption | (simp only [go_sem, ↓reduceIte, Nat.reduceEqDiff, Nat.reduceAdd, Nat.reduceLeDiff, Nat.reduceBEq, Nat.reduceMul, Int.reduceEq, Int.reduceLT, Int.reduceLE, decide_true, decide_false, Bool.not_true, Bool.not_false, e3, e5, e6, cmdX_eq, wrX_eq, Int.toNat_natCast, wk]; rfl) | (simp only [go_sem, ↓reduceIte, Nat.reduceEqDiff, Nat.reduceAdd, Nat.reduceLeDiff, Nat.reduceBEq, Nat.reduceMul, Int.reduceEq, Int.reduceLT, Int.reduceLE, decide_true, decide_false, Bool.not_true, Bool.not_false, e3, e5, e6, cmdX_eq, wrX_eq, Int.toNat_natCast, wk]; done)) (by simp) (by first | assumption | exact rowsOk_nil _ | exact rowsOk_by _ | (rw [byD_cut]; exact rowsOk_by _) | (simp [rowsOk, D.one, Value.oneCell']; done)) (by first | omega | (simp; done) | (simp; omega) | (simp [byD]; omega)) ?_
    | refine ao_appNB rfl rfl rfl rfl (by simp only [go_sem]; rfl) (by first | assumption | (simp only [go_sem, ↓reduceIte, Nat.reduceEqDiff, Nat.reduceAdd, Nat.reduceLeDiff, Nat.reduceBEq, Nat.reduceMul, Int.reduceEq, Int.reduceLT, Int.reduceLE, decide_true, decide_false, Bool.not_true, Bool.not_false, e3, e5, e6, cmdX_eq, wrX_eq, Int.toNat_natCast, wk]; rfl) | (simp only [go_sem, ↓reduceIte, Nat.reduceEqDiff, Nat.reduceAdd, Nat.reduceLeDiff, Nat.reduceBEq, Nat.reduceMul, Int.reduceEq, Int.reduceLT, Int.reduceLE, decide_true, decide_false, Bool.not_true, Bool.not_false, e3, e5, e6, cmdX_eq, wrX_eq, Int.toNat_natCast, wk]; done)) (by simp) (by first | assumption | exact rowsOk_nil _ | exact rowsOk_by _ | (rw [byD_cut]; exact rowsOk_by _) | (simp [rowsOk, D.one, Value.oneCell']; done)) (by first | omega | (simp; done) | (simp; omega) | (simp [byD]; omega)) ?_
    | refine ao_appR rfl rfl rfl (by first | assumption | (simp only [go_sem, ↓reduceIte, Nat.reduceEqDiff, Nat.reduceAdd, Nat.reduceLeDiff, Nat.reduceBEq, Nat.reduceMul, Int.reduceEq, Int.reduceLT, Int.reduceLE, decide_true, decide_false, Bool.not_true, Bool.not_false, e3, e5, e6, cmdX_eq, wrX_eq, Int.toNat_natCast, wk]; rfl) | (simp only [go_sem, ↓reduceIte, Nat.reduceEqDiff, Nat.reduceAdd, Nat.reduceLeDiff, Nat.reduceBEq, Nat.reduceMul, Int.reduceEq, Int.reduceLT, Int.reduceLE, decide_true, decide_false, Bool.not_true, Bool.not_false, e3, e5, e6, cmdX_eq, wrX_eq, Int.toNat_natCast, wk]; done)) (by simp) (by simp only [go_sem]; rfl) rfl (by first | assumption | exact rowsOk_nil _ | exact rowsOk_by _ | (rw [byD_cut]; exact rowsOk_by _) | (simp [rowsOk, D.one, Value.oneCell']; done)) (by first | omega | (simp; done) | (simp; omega) | (simp [byD]; omega)) ?_
    | refine ao_appNR rfl rfl rfl (by simp only [go_sem]; rfl) rfl (by first | assumption | exact rowsOk_nil _ | exact rowsOk_by _ | (rw [byD_cut]; exact rowsOk_by _) | (simp [rowsOk, D.one, Value.oneCell']; done)) (by first | omega | (simp; done) | (simp; omega) | (simp [byD]; omega)) ?_
    | refine ao0 rfl rfl ?_
    | refine aq2 rfl rfl rfl ent_182 (sText G hG cur (s := x.1) (by omega) (by omega) _) ?_
    | (refine ao2 rfl rfl rfl ent_182 (sText G hG cur (s := x.1) (by omega) (by omega) _) ?_; rintro _ _ ⟨rfl, rfl⟩)
    | refine aq2 rfl rfl rfl ent_120 (sBytes G hG (cur ++ textE x.1) (b := x.2) (by omega) (by simp only [List.length_append]; omega) _) ?_
    | (refine ao2 rfl rfl rfl ent_120 (sBytes G hG (cur ++ textE x.1) (b := x.2) (by omega) (by simp only [List.length_append]; omega) _) ?_; rintro _ _ ⟨rfl, rfl⟩)
    | (refine ao1' rfl fun K HK => ?_; simp only [go_sem, ↓reduceIte, Nat.reduceEqDiff, Nat.reduceAdd, Nat.reduceLeDiff, Nat.reduceBEq, Nat.reduceMul, Int.reduceEq, Int.reduceLT, Int.reduceLE, decide_true, decide_false, Bool.not_true, Bool.not_false, e3, e5, e6, cmdX_eq, wrX_eq, Int.toNat_natCast, wk]; refine HK _ _ ?_; clear HK K)
    | refine ao0' rfl ?_
    | refine aw_if1 rfl ?_
    | refine aw_if0 rfl ?_
    | refine aw_skip ?_
    | refine aw_exit ?_
    | refine aw_ret ?_
    | refine thenS_n ?_
    | refine thenS_x ?_
    | refine thenS_r ?_
    | refine inB_n ?_
    | refine inB_r ?_
    | refine inB_x ?_
    | refine inB_y rfl ?_
    | (exfalso; omega)
   have hcur' : cur ++ (textE x.1 ++ bytesE x.2) = P ++ writesE (c.writes.take (k + 1)) := by rw [writesE_take hx, hcur]; simp
   exact ⟨rfl, c.writes.length - (k + 1), by omega, k + 1, _, hlt, rfl, hcur', rfl, e3, rfl, rfl⟩
 · skip
   repeat' first
    | refine aw_seq' ?_
    | refine aw_region' ?_
    | refine aw_block ?_
    | refine ao_nil ?_
    | (refine ao1 rfl rfl fun K HK => ?_; (try refine aOp_pick rfl ?_); simp only [go_sem, ↓reduceIte, Nat.reduceEqDiff, Nat.reduceAdd, Nat.reduceLeDiff, Nat.reduceBEq, Nat.reduceMul, Int.reduceEq, Int.reduceLT, Int.reduceLE, decide_true, decide_false, Bool.not_true, Bool.not_false, e3, e5, e6, cmdX_eq]; (first | refine splitB (fun hq => ?_) (fun hq => ?_) | refine splitN (fun hq => ?_) (fun hq => ?_) | (refine slc_sl (by simp only [go_sem]) rfl rfl (by first | omega | simp) (by first | omega | simp) (by simp only [go_sem]; omega) ?_) | (refine ⟨by omega, by omega, ?_⟩; first | refine row_at (by assumption) ?_ | (intro row hrow; obtain ⟨x, hx, rfl⟩ := row_inv hrow; clear hrow) | (intro row hrow)) | (refine ⟨by omega, ?_⟩; refine row_at (by assumption) ?_) | skip) <;> (refine HK _ _ ?_; clear HK K))
    | (refine aq1 rfl rfl fun K HK => ?_; (try refine aOp_pick rfl ?_); simp only [go_sem, ↓reduceIte, Nat.reduceEqDiff, Nat.reduceAdd, Nat.reduceLeDiff, Nat.reduceBEq, Nat.reduceMul, Int.reduceEq, Int.reduceLT, Int.reduceLE, decide_true, decide_false, Bool.not_true, Bool.not_false, e3, e5, e6, cmdX_eq]; (first | refine splitB (fun hq => ?_) (fun hq => ?_) | refine splitN (fun hq => ?_) (fun hq => ?_) | (refine slc_sl (by simp only [go_sem]) rfl rfl (by first | omega | simp) (by first | omega | simp) (by simp only [go_sem]; omega) ?_) | (refine ⟨by omega, by omega, ?_⟩; first | refine row_at (by assumption) ?_ | (intro row hrow; obtain ⟨x, hx, rfl⟩ := row_inv hrow; clear hrow) | (intro row hrow)) | (refine ⟨by omega, ?_⟩; refine row_at (by assumption) ?_) | skip) <;> (refine HK _ _ rfl ?_; clear HK K))
    | refine aq0 rfl rfl ?_
    | refine aq_nil ?_
    | (refine aw_draw mixd (by kernel_rfl) ?_)
    | refine ao_appB rfl rfl rfl rfl (by first | assumption | (simp only [go_sem, ↓reduceIte, Nat.reduceEqDiff, Nat.reduceAdd, Nat.reduceLeDiff, Nat.reduceBEq, Nat.reduceMul, Int.reduceEq, Int.reduceLT, Int.reduceLE, decide_true, decide_false, Bool.not_true, Bool.not_false, e3, e5, e6, cmdX_eq]; rfl) | (simp only [go_sem, ↓reduceIte, Nat.reduceEqDiff, Nat.reduceAdd, Nat.reduceLeDiff, Nat.reduceBEq, Nat.reduceMul, Int.reduceEq, Int.reduceLT, Int.reduceLE, decide_true, decide_false, Bool.not_true, Bool.not_false, e3, e5, e6, cmdX_eq]; done)) (by simp) (by simp only [go_sem]; rfl) (by first | assumption | (simp only [go_sem, ↓reduceIte, Nat.reduceEqDiff, Nat.reduceAdd, Nat.reduceLeDiff, Nat.reduceBEq, Nat.reduceMul, Int.reduceEq, Int.reduceLT, Int.reduceLE, decide_true, decide_false, Bool.not_true, Bool.not_false, e3, e5, e6, cmdX_eq]; rfl) | (simp only [go_sem, ↓reduceIte, Nat.reduceEqDiff, Nat.reduceAdd, Nat.reduceLeDiff, Nat.reduceBEq, Nat.reduceMul, Int.reduceEq, Int.reduceLT, Int.reduceLE, decide_true, decide_false, Bool.not_true, Bool.not_false, e3, e5, e6, cmdX_eq]; done)) (by simp) (by first | assumption | exact rowsOk_nil _ | exact rowsOk_by _ | (rw [byD_cut]; exact rowsOk_by _) | (simp [rowsOk, D.one, Value.oneCell']; done)) (by first | omega | (simp; done) | (simp; omega) | (simp [byD]; omega)) ?_
    | refine ao_appNB rfl rfl rfl rfl (by simp only [go_sem]; rfl) (by first | assumption | (simp only [go_sem, ↓reduceIte, Nat.reduceEqDiff, Nat.reduceAdd, Nat.reduceLeDiff, Nat.reduceBEq, Nat.reduceMul, Int.reduceEq, Int.reduceLT, Int.reduceLE, decide_true, decide_false, Bool.not_true, Bool.not_false, e3, e5, e6, cmdX_eq]; rfl) | (simp only [go_sem, ↓reduceIte, Nat.reduceEqDiff, Nat.reduceAdd, Nat.reduceLeDiff, Nat.reduceBEq, Nat.reduceMul, Int.reduceEq, Int.reduceLT, Int.reduceLE, decide_true, decide_false, Bool.not_true, Bool.not_false, e3, e5, e6, cmdX_eq]; done)) (by simp) (by first | assumption | exact rowsOk_nil _ | exact rowsOk_by _ | (rw [byD_cut]; exact rowsOk_by _) | (simp [rowsOk, D.one, Value.oneCell']; done)) (by first | omega | (simp; done) | (simp; omega) | (simp [byD]; omega)) ?_
    | refine ao_appR rfl rfl rfl (by first | assumption | (simp only [go_sem, ↓reduceIte, Nat.reduceEqDiff, Nat.reduceAdd, Nat.reduceLeDiff, Nat.reduceBEq, Nat.reduceMul, Int.reduceEq, Int.reduceLT, Int.reduceLE, decide_true, decide_false, Bool.not_true, Bool.not_false, e3, e5, e6, cmdX_eq]; rfl) | (simp only [go_sem, ↓reduceIte, Nat.reduceEqDiff, Nat.reduceAdd, Nat.reduceLeDiff, Nat.reduceBEq, Nat.reduceMul, Int.reduceEq, Int.reduceLT, Int.reduceLE, decide_true, decide_false, Bool.not_true, Bool.not_false, e3, e5, e6, cmdX_eq]; done)) (by simp) (by simp only [go_sem]; rfl) rfl (by first | assumption | exact rowsOk_nil _ | exact rowsOk_by _ | (rw [byD_cut]; exact rowsOk_by _) | (simp [rowsOk, D.one, Value.oneCell']; done)) (by first | omega | (simp; done) | (simp; omega) | (simp [byD]; omega)) ?_
    | refine ao_appNR rfl rfl rfl (by simp only [go_sem]; rfl) rfl (by first | assumption | exact rowsOk_nil _ | exact rowsOk_by _ | (rw [byD_cut]; exact rowsOk_by _) | (simp [rowsOk, D.one, Value.oneCell']; done)) (by first | omega | (simp; done) | (simp; omega) | (simp [byD]; omega)) ?_
    | refine ao0 rfl rfl ?_
    | refine aq2 rfl rfl rfl ent_181 (sInt G hG cur hc.replica (by omega) _) ?_
    | (refine ao2 rfl rfl rfl ent_181 (sInt G hG cur hc.replica (by omega) _) ?_; rintro _ _ ⟨rfl, rfl⟩)
    | (refine ao1' rfl fun K HK => ?_; simp only [go_sem, ↓reduceIte, Nat.reduceEqDiff, Nat.reduceAdd, Nat.reduceLeDiff, Nat.reduceBEq, Nat.reduceMul, Int.reduceEq, Int.reduceLT, Int.reduceLE, decide_true, decide_false, Bool.not_true, Bool.not_false, e3, e5, e6, cmdX_eq]; refine HK _ _ ?_; clear HK K)
    | refine ao0' rfl ?_
    | refine aw_if1 rfl ?_
    | refine aw_if0 rfl ?_
    | refine aw_skip ?_
    | refine aw_exit ?_
    | refine aw_ret ?_
    | refine thenS_n ?_
    | refine thenS_x ?_
    | refine thenS_r ?_
    | refine inB_n ?_
    | refine inB_r ?_
    | refine inB_x ?_
    | refine inB_y rfl ?_
    | (exfalso; omega)
   have hcur' : cur ++ intE c.replica = l ++ writeC c := by
    rw [hcur, ← hP, List.take_of_length_le (by omega)]
    simp [writeC]
   exact ⟨.inr rfl, endD (r := .sl 1 (byD (l ++ writeC c))) hl0 rfl (by simp) (by simp) (by rw [← hcur']; rfl) (low_by _ _) ⟨rfl, rfl⟩⟩
theorem rencode_d (c : Cmd) (hc : c.Ok) (h : List Ob) : Does Tryz.prog G 72 h [.agg (cmdX c)] (fun h' r => h' = h ∧ r = .sl 1 (byD (encC c))) := by
 refine does_any G hG (by rw [lowL, lowL]; exact ⟨low_agg _ _, trivial⟩) (low_by _ _) ?_ h
 have hw := writeC_len c hc
 have ht := hc.tag
 refine does_of_aw Tryz.func72 rfl (Nat.le_of_ble_eq_true rfl) hG fun hl0 _ => ?_
 simp only [Tryz.ntmps72]
 repeat' first
  | refine aw_seq' ?_
  | refine aw_region' ?_
  | refine aw_block ?_
  | refine ao_nil ?_
  | (refine ao1 rfl rfl fun K HK => ?_; (try refine aOp_pick rfl ?_); simp only [go_sem, ↓reduceIte, Nat.reduceEqDiff, Nat.reduceAdd, Nat.reduceLeDiff, Nat.reduceBEq, Nat.reduceMul, Int.reduceEq, Int.reduceLT, Int.reduceLE, decide_true, decide_false, Bool.not_true, Bool.not_false, cmdX_eq]; (first | refine splitB (fun hq => ?_) (fun hq => ?_) | refine splitN (fun hq => ?_) (fun hq => ?_) | (refine slc_sl (by simp only [go_sem]) rfl rfl (by first | omega | simp) (by first | omega | simp) (by simp only [go_sem]; omega) ?_) | (refine ⟨by omega, by omega, ?_⟩; first | refine row_at (by assumption) ?_ | (intro row hrow; obtain ⟨x, hx, rfl⟩ := row_inv hrow; clear hrow) | (intro row hrow)) | (refine ⟨by omega, ?_⟩; refine row_at (by assumption) ?_) | skip) <;> (refine HK _ _ ?_; clear HK K))
  | (refine aq1 rfl rfl fun K HK => ?_; (try refine aOp_pick rfl ?_); simp only [go_sem, ↓reduceIte, Nat.reduceEqDiff, Nat.reduceAdd, Nat.reduceLeDiff, Nat.reduceBEq, Nat.reduceMul, Int.reduceEq, Int.reduceLT, Int.reduceLE, decide_true, decide_false, Bool.not_true, Bool.not_false, cmdX_eq]; (first | refine splitB (fun hq => ?_) (fun hq => ?_) | refine splitN (fun hq => ?_) (fun hq => ?_) | (refine slc_sl (by simp only [go_sem]) rfl rfl (by first | omega | simp) (by first | omega | simp) (by simp only [go_sem]; omega) ?_) | (refine ⟨by omega, by omega, ?_⟩; first | refine row_at (by assumption) ?_ | (intro row hrow; obtain ⟨x, hx, rfl⟩ := row_inv hrow; clear hrow) | (intro row hrow)) | (refine ⟨by omega, ?_⟩; refine row_at (by assumption) ?_) | skip) <;> (refine HK _ _ rfl ?_; clear HK K))
  | refine aq0 rfl rfl ?_
  | refine aq_nil ?_
  | (refine aw_draw mixd (by kernel_rfl) ?_)
  | refine ao_appB rfl rfl rfl rfl (by first | assumption | (simp only [go_sem, ↓reduceIte, Nat.reduceEqDiff, Nat.reduceAdd, Nat.reduceLeDiff, Nat.reduceBEq, Nat.reduceMul, Int.reduceEq, Int.reduceLT, Int.reduceLE, decide_true, decide_false, Bool.not_true, Bool.not_false, cmdX_eq]; rfl) | (simp only [go_sem, ↓reduceIte, Nat.reduceEqDiff, Nat.reduceAdd, Nat.reduceLeDiff, Nat.reduceBEq, Nat.reduceMul, Int.reduceEq, Int.reduceLT, Int.reduceLE, decide_true, decide_false, Bool.not_true, Bool.not_false, cmdX_eq]; done)) (by simp) (by simp only [go_sem]; rfl) (by first | assumption | (simp only [go_sem, ↓reduceIte, Nat.reduceEqDiff, Nat.reduceAdd, Nat.reduceLeDiff, Nat.reduceBEq, Nat.reduceMul, Int.reduceEq, Int.reduceLT, Int.reduceLE, decide_true, decide_false, Bool.not_true, Bool.not_false, cmdX_eq]; rfl) | (simp only [go_sem, ↓reduceIte, Nat.reduceEqDiff, Nat.reduceAdd, Nat.reduceLeDiff, Nat.reduceBEq, Nat.reduceMul, Int.reduceEq, Int.reduceLT, Int.reduceLE, decide_true, decide_false, Bool.not_true, Bool.not_false, cmdX_eq]; done)) (by simp) (by first | assumption | exact rowsOk_nil _ | exact rowsOk_by _ | (rw [byD_cut]; exact rowsOk_by _) | (simp [rowsOk, D.one, Value.oneCell']; done)) (by first | omega | (simp; done) | (simp; omega) | (simp [byD]; omega)) ?_
  | refine ao_appNB rfl rfl rfl rfl (by simp only [go_sem]; rfl) (by first | assumption | (simp only [go_sem, ↓reduceIte, Nat.reduceEqDiff, Nat.reduceAdd, Nat.reduceLeDiff, Nat.reduceBEq, Nat.reduceMul, Int.reduceEq, Int.reduceLT, Int.reduceLE, decide_true, decide_false, Bool.not_true, Bool.not_false, cmdX_eq]; rfl) | (simp only [go_sem, ↓reduceIte, Nat.reduceEqDiff, Nat.reduceAdd, Nat.reduceLeDiff, Nat.reduceBEq, Nat.reduceMul, Int.reduceEq, Int.reduceLT, Int.reduceLE, decide_true, decide_false, Bool.not_true, Bool.not_false, cmdX_eq]; done)) (by simp) (by first | assumption | exact rowsOk_nil _ | exact rowsOk_by _ | (rw [byD_cut]; exact rowsOk_by _) | (simp [rowsOk, D.one, Value.oneCell']; done)) (by first | omega | (simp; done) | (simp; omega) | (simp [byD]; omega)) ?_
  | refine ao_appR rfl rfl rfl (by first | assumption | (simp only [go_sem, ↓reduceIte, Nat.reduceEqDiff, Nat.reduceAdd, Nat.reduceLeDiff, Nat.reduceBEq, Nat.reduceMul, Int.reduceEq, Int.reduceLT, Int.reduceLE, decide_true, decide_false, Bool.not_true, Bool.not_false, cmdX_eq]; rfl) | (simp only [go_sem, ↓reduceIte, Nat.reduceEqDiff, Nat.reduceAdd, Nat.reduceLeDiff, Nat.reduceBEq, Nat.reduceMul, Int.reduceEq, Int.reduceLT, Int.reduceLE, decide_true, decide_false, Bool.not_true, Bool.not_false, cmdX_eq]; done)) (by simp) (by simp only [go_sem]; rfl) rfl (by first | assumption | exact rowsOk_nil _ | exact rowsOk_by _ | (rw [byD_cut]; exact rowsOk_by _) | (simp [rowsOk, D.one, Value.oneCell']; done)) (by first | omega | (simp; done) | (simp; omega) | (simp [byD]; omega)) ?_
  | refine ao_appNR rfl rfl rfl (by simp only [go_sem]; rfl) rfl (by first | assumption | exact rowsOk_nil _ | exact rowsOk_by _ | (rw [byD_cut]; exact rowsOk_by _) | (simp [rowsOk, D.one, Value.oneCell']; done)) (by first | omega | (simp; done) | (simp; omega) | (simp [byD]; omega)) ?_
  | refine ao0 rfl rfl ?_
  | refine aq2 rfl rfl rfl ent_121 (Does.arg0 (bare_d G hG [] c hc (by simp) _) nil_sl) ?_
  | (refine ao2 rfl rfl rfl ent_121 (Does.arg0 (bare_d G hG [] c hc (by simp) _) nil_sl) ?_; rintro _ _ ⟨rfl, rfl⟩)
  | refine aq2 rfl rfl rfl ent_120 (sBytes G hG (writeC c) (b := c.tag) (by omega) (by omega) _) ?_
  | (refine ao2 rfl rfl rfl ent_120 (sBytes G hG (writeC c) (b := c.tag) (by omega) (by omega) _) ?_; rintro _ _ ⟨rfl, rfl⟩)
  | (refine ao1' rfl fun K HK => ?_; simp only [go_sem, ↓reduceIte, Nat.reduceEqDiff, Nat.reduceAdd, Nat.reduceLeDiff, Nat.reduceBEq, Nat.reduceMul, Int.reduceEq, Int.reduceLT, Int.reduceLE, decide_true, decide_false, Bool.not_true, Bool.not_false, cmdX_eq]; refine HK _ _ ?_; clear HK K)
  | refine ao0' rfl ?_
  | refine aw_if1 rfl ?_
  | refine aw_if0 rfl ?_
  | refine aw_skip ?_
  | refine aw_exit ?_
  | refine aw_ret ?_
  | refine thenS_n ?_
  | refine thenS_x ?_
  | refine thenS_r ?_
  | refine inB_n ?_
  | refine inB_r ?_
  | refine inB_x ?_
  | refine inB_y rfl ?_
  | (exfalso; omega)
 exact ⟨.inr rfl, endD (r := .sl 1 (byD (encC c))) hl0 rfl (by simp) (by simp) rfl (low_by _ _) ⟨rfl, rfl⟩⟩
end
section
set_option maxRecDepth 100000
set_option maxHeartbeats 1000000
attribute [local irreducible] on aOp
attribute [local simp] byD_len
theorem cmpC_c {a b : Cmd} (h : ¬ a.client = b.client) : cmpC a b = if a.client < b.client then -1 else 1 := by
 unfold cmpC orI cmpI
 by_cases h1 : a.client < b.client
 · simp [h1]
 · have h2 : b.client < a.client := by omega
   simp [h1, h2]
theorem cmpC_s {a b : Cmd} (h0 : a.client = b.client) (h : ¬ a.seq = b.seq) : cmpC a b = if a.seq < b.seq then -1 else 1 := by
 unfold cmpC orI orI cmpI
 rw [h0]
 by_cases h1 : a.seq < b.seq
 · simp [h1]
 · have h2 : b.seq < a.seq := by omega
   simp [h1, h2]
theorem cmpC_e {a b : Cmd} (h0 : a.client = b.client) (h : a.seq = b.seq) : cmpC a b = Lib.compareBytes (encC a) (encC b) := by
 unfold cmpC orI orI orI orI cmpI
 simp [h0, h]
 intro h; exact h.symm
theorem cb_self : ∀ l : List UInt8, Lib.compareBytes l l = 0
 | [] => by rw [Lib.compareBytes]
 | a :: l => by
  have h : ¬ a < a := UInt8.lt_irrefl a
  rw [Lib.compareBytes, if_neg h, if_neg h]; exact cb_self l
theorem cb_ne : ∀ l m : List UInt8, l ≠ m → Lib.compareBytes l m = if Op.bytesLess l m then -1 else 1
 | [], [], h => absurd rfl h
 | [], _ :: _, _ => by simp [Lib.compareBytes, Op.bytesLess]
 | _ :: _, [], _ => by simp [Lib.compareBytes, Op.bytesLess]
 | a :: l, b :: m, h => by
  rw [Lib.compareBytes]
  unfold Op.bytesLess
  by_cases h1 : a < b
  · simp [h1]
  · by_cases h2 : b < a
    · have h3 : ¬ a = b := fun e => by subst e; exact h1 h2
      simp [h1, h2, h3]
    · have h3 : a = b := by
       rcases Classical.em (a = b) with h | h
       · exact h
       · exact absurd (UInt8.lt_or_lt_of_ne h) (by simp [h1, h2])
      subst h3
      have h4 : l ≠ m := fun e => h (by rw [e])
      simp [h1, cb_ne l m h4]
variable (G : Nat → D) (hG : ∀ g, low 0 (G g))
include hG
theorem sign_d (b : Bool) (h : List Ob) : Does Tryz.prog G 71 h [.v (.bool b)] (fun h' r => h' = h ∧ r = .v (.int .i64 (if b then -1 else 1))) := by
 refine does_of_aw Tryz.func71 rfl (Nat.le_of_ble_eq_true rfl) hG fun hl0 _ => ?_
 simp only [Tryz.ntmps71]
 cases b
 all_goals
  repeat' first
   | refine aw_seq' ?_
   | refine aw_region' ?_
   | refine aw_block ?_
   | refine ao_nil ?_
   | (refine ao1 rfl rfl fun K HK => ?_; (try refine aOp_pick rfl ?_); simp only [go_sem, ↓reduceIte, Nat.reduceEqDiff, Nat.reduceAdd, Nat.reduceLeDiff, Nat.reduceBEq, Nat.reduceMul, Int.reduceEq, Int.reduceLT, Int.reduceLE, decide_true, decide_false, Bool.not_true, Bool.not_false]; (first | refine splitB (fun hq => ?_) (fun hq => ?_) | refine splitN (fun hq => ?_) (fun hq => ?_) | (refine slc_sl (by simp only [go_sem]) rfl rfl (by first | omega | simp) (by first | omega | simp) (by simp only [go_sem]; omega) ?_) | (refine ⟨by omega, by omega, ?_⟩; first | refine row_at (by assumption) ?_ | (intro row hrow; obtain ⟨x, hx, rfl⟩ := row_inv hrow; clear hrow) | (intro row hrow)) | (refine ⟨by omega, ?_⟩; refine row_at (by assumption) ?_) | skip) <;> (refine HK _ _ ?_; clear HK K))
   | (refine aq1 rfl rfl fun K HK => ?_; (try refine aOp_pick rfl ?_); simp only [go_sem, ↓reduceIte, Nat.reduceEqDiff, Nat.reduceAdd, Nat.reduceLeDiff, Nat.reduceBEq, Nat.reduceMul, Int.reduceEq, Int.reduceLT, Int.reduceLE, decide_true, decide_false, Bool.not_true, Bool.not_false]; (first | refine splitB (fun hq => ?_) (fun hq => ?_) | refine splitN (fun hq => ?_) (fun hq => ?_) | (refine slc_sl (by simp only [go_sem]) rfl rfl (by first | omega | simp) (by first | omega | simp) (by simp only [go_sem]; omega) ?_) | (refine ⟨by omega, by omega, ?_⟩; first | refine row_at (by assumption) ?_ | (intro row hrow; obtain ⟨x, hx, rfl⟩ := row_inv hrow; clear hrow) | (intro row hrow)) | (refine ⟨by omega, ?_⟩; refine row_at (by assumption) ?_) | skip) <;> (refine HK _ _ rfl ?_; clear HK K))
   | refine aq0 rfl rfl ?_
   | refine aq_nil ?_
   | (refine aw_draw mixd (by kernel_rfl) ?_)
   | refine ao_appB rfl rfl rfl rfl (by first | assumption | (simp only [go_sem, ↓reduceIte, Nat.reduceEqDiff, Nat.reduceAdd, Nat.reduceLeDiff, Nat.reduceBEq, Nat.reduceMul, Int.reduceEq, Int.reduceLT, Int.reduceLE, decide_true, decide_false, Bool.not_true, Bool.not_false]; rfl) | (simp only [go_sem, ↓reduceIte, Nat.reduceEqDiff, Nat.reduceAdd, Nat.reduceLeDiff, Nat.reduceBEq, Nat.reduceMul, Int.reduceEq, Int.reduceLT, Int.reduceLE, decide_true, decide_false, Bool.not_true, Bool.not_false]; done)) (by simp) (by simp only [go_sem]; rfl) (by first | assumption | (simp only [go_sem, ↓reduceIte, Nat.reduceEqDiff, Nat.reduceAdd, Nat.reduceLeDiff, Nat.reduceBEq, Nat.reduceMul, Int.reduceEq, Int.reduceLT, Int.reduceLE, decide_true, decide_false, Bool.not_true, Bool.not_false]; rfl) | (simp only [go_sem, ↓reduceIte, Nat.reduceEqDiff, Nat.reduceAdd, Nat.reduceLeDiff, Nat.reduceBEq, Nat.reduceMul, Int.reduceEq, Int.reduceLT, Int.reduceLE, decide_true, decide_false, Bool.not_true, Bool.not_false]; done)) (by simp) (by first | assumption | exact rowsOk_nil _ | exact rowsOk_by _ | (rw [byD_cut]; exact rowsOk_by _) | (simp [rowsOk, D.one, Value.oneCell']; done)) (by first | omega | (simp; done) | (simp; omega) | (simp [byD]; omega)) ?_
   | refine ao_appNB rfl rfl rfl rfl (by simp only [go_sem]; rfl) (by first | assumption | (simp only [go_sem, ↓reduceIte, Nat.reduceEqDiff, Nat.reduceAdd, Nat.reduceLeDiff, Nat.reduceBEq, Nat.reduceMul, Int.reduceEq, Int.reduceLT, Int.reduceLE, decide_true, decide_false, Bool.not_true, Bool.not_false]; rfl) | (simp only [go_sem, ↓reduceIte, Nat.reduceEqDiff, Nat.reduceAdd, Nat.reduceLeDiff, Nat.reduceBEq, Nat.reduceMul, Int.reduceEq, Int.reduceLT, Int.reduceLE, decide_true, decide_false, Bool.not_true, Bool.not_false]; done)) (by simp) (by first | assumption | exact rowsOk_nil _ | exact rowsOk_by _ | (rw [byD_cut]; exact rowsOk_by _) | (simp [rowsOk, D.one, Value.oneCell']; done)) (by first | omega | (simp; done) | (simp; omega) | (simp [byD]; omega)) ?_
   | refine ao_appR rfl rfl rfl (by first | assumption | (simp only [go_sem, ↓reduceIte, Nat.reduceEqDiff, Nat.reduceAdd, Nat.reduceLeDiff, Nat.reduceBEq, Nat.reduceMul, Int.reduceEq, Int.reduceLT, Int.reduceLE, decide_true, decide_false, Bool.not_true, Bool.not_false]; rfl) | (simp only [go_sem, ↓reduceIte, Nat.reduceEqDiff, Nat.reduceAdd, Nat.reduceLeDiff, Nat.reduceBEq, Nat.reduceMul, Int.reduceEq, Int.reduceLT, Int.reduceLE, decide_true, decide_false, Bool.not_true, Bool.not_false]; done)) (by simp) (by simp only [go_sem]; rfl) rfl (by first | assumption | exact rowsOk_nil _ | exact rowsOk_by _ | (rw [byD_cut]; exact rowsOk_by _) | (simp [rowsOk, D.one, Value.oneCell']; done)) (by first | omega | (simp; done) | (simp; omega) | (simp [byD]; omega)) ?_
   | refine ao_appNR rfl rfl rfl (by simp only [go_sem]; rfl) rfl (by first | assumption | exact rowsOk_nil _ | exact rowsOk_by _ | (rw [byD_cut]; exact rowsOk_by _) | (simp [rowsOk, D.one, Value.oneCell']; done)) (by first | omega | (simp; done) | (simp; omega) | (simp [byD]; omega)) ?_
   | refine ao0 rfl rfl ?_
   | (refine ao1' rfl fun K HK => ?_; simp only [go_sem, ↓reduceIte, Nat.reduceEqDiff, Nat.reduceAdd, Nat.reduceLeDiff, Nat.reduceBEq, Nat.reduceMul, Int.reduceEq, Int.reduceLT, Int.reduceLE, decide_true, decide_false, Bool.not_true, Bool.not_false]; refine HK _ _ ?_; clear HK K)
   | refine ao0' rfl ?_
   | refine aw_if1 rfl ?_
   | refine aw_if0 rfl ?_
   | refine aw_skip ?_
   | refine aw_exit ?_
   | refine aw_ret ?_
   | refine thenS_n ?_
   | refine thenS_x ?_
   | refine thenS_r ?_
   | refine inB_n ?_
   | refine inB_r ?_
   | refine inB_x ?_
   | refine inB_y rfl ?_
   | (exfalso; omega)
  exact ⟨by simp, endD (r := .v _) hl0 rfl (by simp) (by simp) rfl (by rw [low]; trivial) ⟨rfl, rfl⟩⟩
theorem rcompare_d (a b : Cmd) (ha : a.Ok) (hb : b.Ok) (h : List Ob) : Does Tryz.prog G 40 h [.agg (cmdX a), .agg (cmdX b)] (fun h' r => h' = h ∧ r = .v (.int .i64 (cmpC a b))) := by
 refine does_any G hG (by rw [lowL, lowL, lowL]; exact ⟨low_agg _ _, low_agg _ _, trivial⟩) (by rw [low]; trivial) ?_ h
 refine does_of_aw Tryz.func40 rfl (Nat.le_of_ble_eq_true rfl) hG fun hl0 _ => ?_
 simp only [Tryz.ntmps40]
 repeat' first
  | (refine aq1 rfl rfl fun K HK => ?_; simp only [go_sem]; refine bst_by (n := 1) (h := []) byT_38 strT_9 ?_; refine HK _ _ rfl ?_; clear HK K)
  | refine aw_seq' ?_
  | refine aw_region' ?_
  | refine aw_block ?_
  | refine ao_nil ?_
  | (refine ao1 rfl rfl fun K HK => ?_; (try refine aOp_pick rfl ?_); simp only [go_sem, ↓reduceIte, Nat.reduceEqDiff, Nat.reduceAdd, Nat.reduceLeDiff, Nat.reduceBEq, Nat.reduceMul, Int.reduceEq, Int.reduceLT, Int.reduceLE, decide_true, decide_false, Bool.not_true, Bool.not_false, cmdX_eq]; (first | refine splitB (fun hq => ?_) (fun hq => ?_) | refine splitN (fun hq => ?_) (fun hq => ?_) | (refine slc_sl (by simp only [go_sem]) rfl rfl (by first | omega | simp) (by first | omega | simp) (by simp only [go_sem]; omega) ?_) | (refine ⟨by omega, by omega, ?_⟩; first | refine row_at (by assumption) ?_ | (intro row hrow; obtain ⟨x, hx, rfl⟩ := row_inv hrow; clear hrow) | (intro row hrow)) | (refine ⟨by omega, ?_⟩; refine row_at (by assumption) ?_) | skip) <;> (refine HK _ _ ?_; clear HK K))
  | (refine aq1 rfl rfl fun K HK => ?_; (try refine aOp_pick rfl ?_); simp only [go_sem, ↓reduceIte, Nat.reduceEqDiff, Nat.reduceAdd, Nat.reduceLeDiff, Nat.reduceBEq, Nat.reduceMul, Int.reduceEq, Int.reduceLT, Int.reduceLE, decide_true, decide_false, Bool.not_true, Bool.not_false, cmdX_eq]; (first | refine splitB (fun hq => ?_) (fun hq => ?_) | refine splitN (fun hq => ?_) (fun hq => ?_) | (refine slc_sl (by simp only [go_sem]) rfl rfl (by first | omega | simp) (by first | omega | simp) (by simp only [go_sem]; omega) ?_) | (refine ⟨by omega, by omega, ?_⟩; first | refine row_at (by assumption) ?_ | (intro row hrow; obtain ⟨x, hx, rfl⟩ := row_inv hrow; clear hrow) | (intro row hrow)) | (refine ⟨by omega, ?_⟩; refine row_at (by assumption) ?_) | skip) <;> (refine HK _ _ rfl ?_; clear HK K))
  | refine aq0 rfl rfl ?_
  | refine aq_nil ?_
  | (refine aw_draw mixd (by kernel_rfl) ?_)
  | refine ao_appB rfl rfl rfl rfl (by first | assumption | (simp only [go_sem, ↓reduceIte, Nat.reduceEqDiff, Nat.reduceAdd, Nat.reduceLeDiff, Nat.reduceBEq, Nat.reduceMul, Int.reduceEq, Int.reduceLT, Int.reduceLE, decide_true, decide_false, Bool.not_true, Bool.not_false, cmdX_eq]; rfl) | (simp only [go_sem, ↓reduceIte, Nat.reduceEqDiff, Nat.reduceAdd, Nat.reduceLeDiff, Nat.reduceBEq, Nat.reduceMul, Int.reduceEq, Int.reduceLT, Int.reduceLE, decide_true, decide_false, Bool.not_true, Bool.not_false, cmdX_eq]; done)) (by simp) (by simp only [go_sem]; rfl) (by first | assumption | (simp only [go_sem, ↓reduceIte, Nat.reduceEqDiff, Nat.reduceAdd, Nat.reduceLeDiff, Nat.reduceBEq, Nat.reduceMul, Int.reduceEq, Int.reduceLT, Int.reduceLE, decide_true, decide_false, Bool.not_true, Bool.not_false, cmdX_eq]; rfl) | (simp only [go_sem, ↓reduceIte, Nat.reduceEqDiff, Nat.reduceAdd, Nat.reduceLeDiff, Nat.reduceBEq, Nat.reduceMul, Int.reduceEq, Int.reduceLT, Int.reduceLE, decide_true, decide_false, Bool.not_true, Bool.not_false, cmdX_eq]; done)) (by simp) (by first | assumption | exact rowsOk_nil _ | exact rowsOk_by _ | (rw [byD_cut]; exact rowsOk_by _) | (simp [rowsOk, D.one, Value.oneCell']; done)) (by first | omega | (simp; done) | (simp; omega) | (simp [byD]; omega)) ?_
  | refine ao_appNB rfl rfl rfl rfl (by simp only [go_sem]; rfl) (by first | assumption | (simp only [go_sem, ↓reduceIte, Nat.reduceEqDiff, Nat.reduceAdd, Nat.reduceLeDiff, Nat.reduceBEq, Nat.reduceMul, Int.reduceEq, Int.reduceLT, Int.reduceLE, decide_true, decide_false, Bool.not_true, Bool.not_false, cmdX_eq]; rfl) | (simp only [go_sem, ↓reduceIte, Nat.reduceEqDiff, Nat.reduceAdd, Nat.reduceLeDiff, Nat.reduceBEq, Nat.reduceMul, Int.reduceEq, Int.reduceLT, Int.reduceLE, decide_true, decide_false, Bool.not_true, Bool.not_false, cmdX_eq]; done)) (by simp) (by first | assumption | exact rowsOk_nil _ | exact rowsOk_by _ | (rw [byD_cut]; exact rowsOk_by _) | (simp [rowsOk, D.one, Value.oneCell']; done)) (by first | omega | (simp; done) | (simp; omega) | (simp [byD]; omega)) ?_
  | refine ao_appR rfl rfl rfl (by first | assumption | (simp only [go_sem, ↓reduceIte, Nat.reduceEqDiff, Nat.reduceAdd, Nat.reduceLeDiff, Nat.reduceBEq, Nat.reduceMul, Int.reduceEq, Int.reduceLT, Int.reduceLE, decide_true, decide_false, Bool.not_true, Bool.not_false, cmdX_eq]; rfl) | (simp only [go_sem, ↓reduceIte, Nat.reduceEqDiff, Nat.reduceAdd, Nat.reduceLeDiff, Nat.reduceBEq, Nat.reduceMul, Int.reduceEq, Int.reduceLT, Int.reduceLE, decide_true, decide_false, Bool.not_true, Bool.not_false, cmdX_eq]; done)) (by simp) (by simp only [go_sem]; rfl) rfl (by first | assumption | exact rowsOk_nil _ | exact rowsOk_by _ | (rw [byD_cut]; exact rowsOk_by _) | (simp [rowsOk, D.one, Value.oneCell']; done)) (by first | omega | (simp; done) | (simp; omega) | (simp [byD]; omega)) ?_
  | refine ao_appNR rfl rfl rfl (by simp only [go_sem]; rfl) rfl (by first | assumption | exact rowsOk_nil _ | exact rowsOk_by _ | (rw [byD_cut]; exact rowsOk_by _) | (simp [rowsOk, D.one, Value.oneCell']; done)) (by first | omega | (simp; done) | (simp; omega) | (simp [byD]; omega)) ?_
  | refine ao0 rfl rfl ?_
  | refine aq2 rfl rfl rfl ent_71 (sign_d G hG _ _) ?_
  | (refine ao2 rfl rfl rfl ent_71 (sign_d G hG _ _) ?_; rintro _ _ ⟨rfl, rfl⟩)
  | refine aq2 rfl rfl rfl ent_72 (rencode_d G hG a ha _) ?_
  | (refine ao2 rfl rfl rfl ent_72 (rencode_d G hG a ha _) ?_; rintro _ _ ⟨rfl, rfl⟩)
  | refine aq2 rfl rfl rfl ent_72 (rencode_d G hG b hb _) ?_
  | (refine ao2 rfl rfl rfl ent_72 (rencode_d G hG b hb _) ?_; rintro _ _ ⟨rfl, rfl⟩)
  | (refine ao1' rfl fun K HK => ?_; simp only [go_sem, ↓reduceIte, Nat.reduceEqDiff, Nat.reduceAdd, Nat.reduceLeDiff, Nat.reduceBEq, Nat.reduceMul, Int.reduceEq, Int.reduceLT, Int.reduceLE, decide_true, decide_false, Bool.not_true, Bool.not_false, cmdX_eq]; refine HK _ _ ?_; clear HK K)
  | refine ao0' rfl ?_
  | refine aw_if1 rfl ?_
  | refine aw_if0 rfl ?_
  | refine aw_skip ?_
  | refine aw_exit ?_
  | refine aw_ret ?_
  | refine thenS_n ?_
  | refine thenS_x ?_
  | refine thenS_r ?_
  | refine inB_n ?_
  | refine inB_r ?_
  | refine inB_x ?_
  | refine inB_y rfl ?_
  | (exfalso; omega)
 all_goals refine ⟨.inr rfl, endD (r := .v _) hl0 rfl (by simp) (by simp) rfl (by rw [low]; trivial) ⟨rfl, ?_⟩⟩
 all_goals first
 | (rename_i h1 h2; rw [cmpC_s (by assumption) (by assumption)]; simp [*]; done)
 | (rw [cmpC_c (by assumption)]; simp [*]; done)
 | (rename_i h1 h2
    have e : encC a = encC b := by simpa using hq
    rw [cmpC_e (by assumption) (by assumption), e, cb_self])
 | (have e : ¬ encC a = encC b := fun e => hq (by rw [e])
    rw [cmpC_e (by assumption) (by assumption), cb_ne _ _ e]
    simp only [ba_toList]
    try rfl)
end
section
theorem bl_eq : ∀ (x y : List UInt8), Op.bytesLess x y = decide (x < y)
 | [], [] => by simp [Op.bytesLess]
 | _ :: _, [] => by simp [Op.bytesLess]
 | [], _ :: _ => by simp [Op.bytesLess]
 | a :: x, b :: y => by
  rw [Op.bytesLess, bl_eq x y]
  by_cases h : a < b <;> by_cases h2 : a = b <;> simp [List.cons_lt_cons_iff, h, h2]
theorem cb_eq (l m : List UInt8) : Lib.compareBytes l m = if l < m then -1 else if l = m then 0 else 1 := by
 by_cases h : l = m
 · subst h
   rw [cb_self, if_neg (List.lt_irrefl l), if_pos rfl]
 · rw [cb_ne _ _ h, bl_eq]
   by_cases h2 : l < m <;> simp [h, h2]
def LtC (a b : Cmd) : Prop := a.client < b.client ∨ (a.client = b.client ∧ (a.seq < b.seq ∨ (a.seq = b.seq ∧ encC a < encC b)))
def EqC (a b : Cmd) : Prop := a.client = b.client ∧ a.seq = b.seq ∧ encC a = encC b
theorem cmpC_cases (a b : Cmd) : (LtC a b ∧ cmpC a b = -1) ∨ (EqC a b ∧ cmpC a b = 0) ∨ (LtC b a ∧ cmpC a b = 1) := by
 by_cases h0 : a.client = b.client
 · by_cases h1 : a.seq = b.seq
   · rw [cmpC_e h0 h1, cb_eq]
     by_cases h2 : encC a < encC b
     · exact .inl ⟨.inr ⟨h0, .inr ⟨h1, h2⟩⟩, if_pos h2⟩
     · by_cases h3 : encC a = encC b
       · exact .inr (.inl ⟨⟨h0, h1, h3⟩, by rw [if_neg h2, if_pos h3]⟩)
       · refine .inr (.inr ⟨.inr ⟨h0.symm, .inr ⟨h1.symm, ?_⟩⟩, by rw [if_neg h2, if_neg h3]⟩)
         by_cases h : encC b < encC a
         · exact h
         · exact absurd (List.le_antisymm (List.not_lt.1 h) (List.not_lt.1 h2)) h3
   · rw [cmpC_s h0 h1]
     by_cases h2 : a.seq < b.seq
     · exact .inl ⟨.inr ⟨h0, .inl h2⟩, if_pos h2⟩
     · exact .inr (.inr ⟨.inr ⟨h0.symm, .inl (by omega)⟩, if_neg h2⟩)
 · rw [cmpC_c h0]
   by_cases h2 : a.client < b.client
   · exact .inl ⟨.inl h2, if_pos h2⟩
   · exact .inr (.inr ⟨.inl (by omega), if_neg h2⟩)
theorem LtC.irrefl (a : Cmd) : ¬ LtC a a := fun h => by
 rcases h with h | ⟨_, h | ⟨_, h⟩⟩
 · omega
 · omega
 · exact List.lt_irrefl _ h
theorem LtC.trans {a b c : Cmd} (h : LtC a b) (k : LtC b c) : LtC a c := by
 rcases h with h | ⟨h0, h | ⟨h1, h⟩⟩ <;> rcases k with k | ⟨k0, k | ⟨k1, k⟩⟩
 · exact .inl (by omega)
 · exact .inl (by omega)
 · exact .inl (by omega)
 · exact .inl (by omega)
 · exact .inr ⟨by omega, .inl (by omega)⟩
 · exact .inr ⟨by omega, .inl (by omega)⟩
 · exact .inl (by omega)
 · exact .inr ⟨by omega, .inl (by omega)⟩
 · exact .inr ⟨by omega, .inr ⟨by omega, List.lt_trans h k⟩⟩
theorem EqC.left {a b c : Cmd} (h : EqC a b) (k : LtC b c) : LtC a c := by
 obtain ⟨h1, h2, h3⟩ := h
 unfold LtC at k ⊢
 rw [h1, h2, h3]; exact k
theorem EqC.right {a b c : Cmd} (h : EqC b c) (k : LtC a b) : LtC a c := by
 obtain ⟨h1, h2, h3⟩ := h
 unfold LtC at k ⊢
 rw [← h1, ← h2, ← h3]; exact k
theorem cmpC_lt {a b : Cmd} : cmpC a b < 0 ↔ LtC a b := by
 rcases cmpC_cases a b with ⟨h, e⟩ | ⟨h, e⟩ | ⟨h, e⟩
 · rw [e]; exact ⟨fun _ => h, fun _ => by decide⟩
 · rw [e]; exact ⟨fun h => absurd h (by decide), fun k => absurd (EqC.right ⟨h.1.symm, h.2.1.symm, h.2.2.symm⟩ k) (LtC.irrefl a)⟩
 · rw [e]; exact ⟨fun h => absurd h (by decide), fun k => absurd (h.trans k) (LtC.irrefl b)⟩
theorem cmpC_zero {a b : Cmd} : cmpC a b = 0 ↔ EqC a b := by
 rcases cmpC_cases a b with ⟨h, e⟩ | ⟨h, e⟩ | ⟨h, e⟩
 · rw [e]; exact ⟨fun h => absurd h (by decide), fun k => absurd (EqC.right ⟨k.1.symm, k.2.1.symm, k.2.2.symm⟩ h) (LtC.irrefl a)⟩
 · rw [e]; exact ⟨fun _ => h, fun _ => rfl⟩
 · rw [e]; exact ⟨fun h => absurd h (by decide), fun k => absurd (EqC.right k h) (LtC.irrefl b)⟩
end
section
section
variable {P : Program} {G : Nat → D} {n : Nat} {e : Nat → D} {h : List Ob} {ops : Array Oper} {rest : List Oper} {Q : S → Prop} {t : Nat} {ty : TypeId} {pos : String} {aft : Array Edge} {gd : Option (Nat × Bool)}
theorem ao_from {u E k i m a : Nat} {x y : Operand} {xs : List (List D)} (hw : wantedD ops gd e = some true) (ht : decide (t < n) = true) (hx : ev G e x = .buf i m) (hy : ev G e y = .v (.int .i64 a)) (hi : h[i]? = some (.buf E k xs)) (hm : xs.length = m) (he : (elT P u).bind (szT P) = some k) (ha : a ≤ m)
 (q : ao P G ops rest Q ⟨n, upd e t (.win i m a m), h⟩) : ao P G ops (⟨some t, .slice u x (some y) none none, ty, pos, aft, gd⟩ :: rest) Q ⟨n, e, h⟩ := by
 have hN : nF P G e h (.slice u x (some y) none none) = some (h, .win i m a m) := by
  show keepF h (sliF P h u (ev G e x) (some (ev G e y)) none) = _
  rw [hx, hy]
  simp [sliF, bndD, hi, hm, he, keepF, ha]
 refine ao_tri hw (nF_sound hN) ?_
 unfold putE
 simp only [if_pos (of_decide_eq_true ht)]
 exact q
theorem ao_upto {u E k i m b : Nat} {x y : Operand} {xs : List (List D)} (hw : wantedD ops gd e = some true) (ht : decide (t < n) = true) (hx : ev G e x = .buf i m) (hy : ev G e y = .v (.int .i64 b)) (hi : h[i]? = some (.buf E k xs)) (hm : xs.length = m) (he : (elT P u).bind (szT P) = some k) (hb : b ≤ m)
 (q : ao P G ops rest Q ⟨n, upd e t (.win i m 0 b), h⟩) : ao P G ops (⟨some t, .slice u x none (some y) none, ty, pos, aft, gd⟩ :: rest) Q ⟨n, e, h⟩ := by
 have hN : nF P G e h (.slice u x none (some y) none) = some (h, .win i m 0 b) := by
  show keepF h (sliF P h u (ev G e x) none (some (ev G e y))) = _
  rw [hx, hy]
  simp [sliF, bndD, hi, hm, he, keepF, hb]
 refine ao_tri hw (nF_sound hN) ?_
 unfold putE
 simp only [if_pos (of_decide_eq_true ht)]
 exact q
theorem ao_lenW {u i m a b : Nat} {x : Operand} (hw : wantedD ops gd e = some true) (ht : decide (t < n) = true) (hx : ev G e x = .win i m a b) (hu : slT P u = true)
 (q : ao P G ops rest Q ⟨n, upd e t (.v (.int .i64 (b - a : Nat))), h⟩) : ao P G ops (⟨some t, .call ⟨.builtin .len, #[x], #[u]⟩, ty, pos, aft, gd⟩ :: rest) Q ⟨n, e, h⟩ := by
 have hN : nF P G e h (.call ⟨.builtin .len, #[x], #[u]⟩) = some (h, .v (.int .i64 (b - a : Nat))) := by
  show keepF h (lenN P u (ev G e x)) = _
  rw [hx]
  simp [lenN, hu, keepF]
 refine ao_tri hw (nF_sound hN) ?_
 unfold putE
 simp only [if_pos (of_decide_eq_true ht)]
 exact q
end
end
section
set_option maxRecDepth 100000
set_option maxHeartbeats 1000000
attribute [local irreducible] on aOp
attribute [local simp] byD_len
theorem endBk {res : Array ResultVar} {K : List Ob → D → Prop} {e k n n' : Nat} {rows rows' : List (List D)} {T : List Ob} {s : S} (h1 : resD Tryz.prog s res.toList = some [.buf 0 n']) (h2 : s.h = .buf e k rows' :: T) (h3 : n' = n) (h4 : rows' = rows) (hl : lowR 1 rows) (hK : K [.buf e k rows] (.buf 0 n)) : EndD Tryz.prog res ([] : List Ob).length K s := by
 subst h3 h4
 have e1 : s.h.take 1 = [.buf e k rows'] := by rw [h2]; rfl
 refine ⟨[.buf 0 n'], 1, h1, Nat.zero_le _, by rw [h2]; exact Nat.le_add_left 1 T.length, ?_, ?_, ?_⟩
 · rw [e1]
   intro x hx
   rw [List.mem_singleton.1 hx]
   exact hl
 · simp [outD, cvD, cv1, low]
 · rw [e1]; simpa [outD, cvD, cv1] using hK
variable (G : Nat → D) (hG : ∀ g, low 0 (G g))
include hG
theorem cloneB0 (l : List UInt8) (hl : l.length ≤ 10000000) :
 Does Tryz.prog G 73 [] [.sl 1 (byD l)] (fun h' r => h' = [.buf 5 1 (byD l)] ∧ r = .buf 0 l.length) := by
 refine Does.nilbuf (K := fun h' r => (h' = [.buf 5 1 (byD l)] ∧ r = .buf 0 l.length) ∨ (l = [] ∧ h' = [] ∧ r = .v (.slice none 0 0))) 5 1 ?_ ?_
 rotate_left
 · rintro h' r (h | ⟨rfl, rfl, rfl⟩)
   · exact .inl h
   · exact .inr ⟨rfl, rfl, rfl⟩
 refine does_of_aw Tryz.func73 rfl (Nat.le_of_ble_eq_true rfl) hG fun hl0 _ => ?_
 simp only [Tryz.ntmps73]
 repeat' first
  | (refine ao_ex rfl (tri_nil (k := 1) (xs := byD l) (by kernel_rfl)) ?_; rintro _ _ ⟨rfl, ⟨rfl, hnil⟩ | rfl⟩)
  | refine aw_seq' ?_
  | refine aw_region' ?_
  | refine aw_block ?_
  | refine ao_nil ?_
  | (refine ao1 rfl rfl fun K HK => ?_; (try refine aOp_pick rfl ?_); simp only [go_sem, ↓reduceIte, Nat.reduceEqDiff, Nat.reduceAdd, Nat.reduceLeDiff, Nat.reduceBEq, Nat.reduceMul, Int.reduceEq, Int.reduceLT, Int.reduceLE, decide_true, decide_false, Bool.not_true, Bool.not_false]; (first | refine splitB (fun hq => ?_) (fun hq => ?_) | refine splitN (fun hq => ?_) (fun hq => ?_) | (refine slc_sl (by simp only [go_sem]) rfl rfl (by first | omega | simp) (by first | omega | simp) (by simp only [go_sem]; omega) ?_) | (refine ⟨by omega, by omega, ?_⟩; first | refine row_at (by assumption) ?_ | (intro row hrow; obtain ⟨x, hx, rfl⟩ := row_inv hrow; clear hrow) | (intro row hrow)) | (refine ⟨by omega, ?_⟩; refine row_at (by assumption) ?_) | skip) <;> (refine HK _ _ ?_; clear HK K))
  | (refine aq1 rfl rfl fun K HK => ?_; (try refine aOp_pick rfl ?_); simp only [go_sem, ↓reduceIte, Nat.reduceEqDiff, Nat.reduceAdd, Nat.reduceLeDiff, Nat.reduceBEq, Nat.reduceMul, Int.reduceEq, Int.reduceLT, Int.reduceLE, decide_true, decide_false, Bool.not_true, Bool.not_false]; (first | refine splitB (fun hq => ?_) (fun hq => ?_) | refine splitN (fun hq => ?_) (fun hq => ?_) | (refine slc_sl (by simp only [go_sem]) rfl rfl (by first | omega | simp) (by first | omega | simp) (by simp only [go_sem]; omega) ?_) | (refine ⟨by omega, by omega, ?_⟩; first | refine row_at (by assumption) ?_ | (intro row hrow; obtain ⟨x, hx, rfl⟩ := row_inv hrow; clear hrow) | (intro row hrow)) | (refine ⟨by omega, ?_⟩; refine row_at (by assumption) ?_) | skip) <;> (refine HK _ _ rfl ?_; clear HK K))
  | refine aq0 rfl rfl ?_
  | refine aq_nil ?_
  | (refine aw_draw mixd (by kernel_rfl) ?_)
  | refine ao_appB rfl rfl rfl rfl (by first | assumption | (simp only [go_sem, ↓reduceIte, Nat.reduceEqDiff, Nat.reduceAdd, Nat.reduceLeDiff, Nat.reduceBEq, Nat.reduceMul, Int.reduceEq, Int.reduceLT, Int.reduceLE, decide_true, decide_false, Bool.not_true, Bool.not_false]; rfl) | (simp only [go_sem, ↓reduceIte, Nat.reduceEqDiff, Nat.reduceAdd, Nat.reduceLeDiff, Nat.reduceBEq, Nat.reduceMul, Int.reduceEq, Int.reduceLT, Int.reduceLE, decide_true, decide_false, Bool.not_true, Bool.not_false]; done)) (by simp) (by simp only [go_sem]; rfl) (by first | assumption | (simp only [go_sem, ↓reduceIte, Nat.reduceEqDiff, Nat.reduceAdd, Nat.reduceLeDiff, Nat.reduceBEq, Nat.reduceMul, Int.reduceEq, Int.reduceLT, Int.reduceLE, decide_true, decide_false, Bool.not_true, Bool.not_false]; rfl) | (simp only [go_sem, ↓reduceIte, Nat.reduceEqDiff, Nat.reduceAdd, Nat.reduceLeDiff, Nat.reduceBEq, Nat.reduceMul, Int.reduceEq, Int.reduceLT, Int.reduceLE, decide_true, decide_false, Bool.not_true, Bool.not_false]; done)) (by simp) (by first | assumption | exact rowsOk_nil _ | exact rowsOk_by _ | (rw [byD_cut]; exact rowsOk_by _) | (simp [rowsOk, D.one, Value.oneCell']; done)) (by first | omega | (simp; done) | (simp; omega) | (simp [byD]; omega)) ?_
  | refine ao_appNB rfl rfl rfl rfl (by simp only [go_sem]; rfl) (by first | assumption | (simp only [go_sem, ↓reduceIte, Nat.reduceEqDiff, Nat.reduceAdd, Nat.reduceLeDiff, Nat.reduceBEq, Nat.reduceMul, Int.reduceEq, Int.reduceLT, Int.reduceLE, decide_true, decide_false, Bool.not_true, Bool.not_false]; rfl) | (simp only [go_sem, ↓reduceIte, Nat.reduceEqDiff, Nat.reduceAdd, Nat.reduceLeDiff, Nat.reduceBEq, Nat.reduceMul, Int.reduceEq, Int.reduceLT, Int.reduceLE, decide_true, decide_false, Bool.not_true, Bool.not_false]; done)) (by simp) (by first | assumption | exact rowsOk_nil _ | exact rowsOk_by _ | (rw [byD_cut]; exact rowsOk_by _) | (simp [rowsOk, D.one, Value.oneCell']; done)) (by first | omega | (simp; done) | (simp; omega) | (simp [byD]; omega)) ?_
  | refine ao_appR rfl rfl rfl (by first | assumption | (simp only [go_sem, ↓reduceIte, Nat.reduceEqDiff, Nat.reduceAdd, Nat.reduceLeDiff, Nat.reduceBEq, Nat.reduceMul, Int.reduceEq, Int.reduceLT, Int.reduceLE, decide_true, decide_false, Bool.not_true, Bool.not_false]; rfl) | (simp only [go_sem, ↓reduceIte, Nat.reduceEqDiff, Nat.reduceAdd, Nat.reduceLeDiff, Nat.reduceBEq, Nat.reduceMul, Int.reduceEq, Int.reduceLT, Int.reduceLE, decide_true, decide_false, Bool.not_true, Bool.not_false]; done)) (by simp) (by simp only [go_sem]; rfl) rfl (by first | assumption | exact rowsOk_nil _ | exact rowsOk_by _ | (rw [byD_cut]; exact rowsOk_by _) | (simp [rowsOk, D.one, Value.oneCell']; done)) (by first | omega | (simp; done) | (simp; omega) | (simp [byD]; omega)) ?_
  | refine ao_appNR rfl rfl rfl (by simp only [go_sem]; rfl) rfl (by first | assumption | exact rowsOk_nil _ | exact rowsOk_by _ | (rw [byD_cut]; exact rowsOk_by _) | (simp [rowsOk, D.one, Value.oneCell']; done)) (by first | omega | (simp; done) | (simp; omega) | (simp [byD]; omega)) ?_
  | refine ao0 rfl rfl ?_
  | (refine ao1' rfl fun K HK => ?_; simp only [go_sem, ↓reduceIte, Nat.reduceEqDiff, Nat.reduceAdd, Nat.reduceLeDiff, Nat.reduceBEq, Nat.reduceMul, Int.reduceEq, Int.reduceLT, Int.reduceLE, decide_true, decide_false, Bool.not_true, Bool.not_false]; refine HK _ _ ?_; clear HK K)
  | refine ao0' rfl ?_
  | refine aw_if1 rfl ?_
  | refine aw_if0 rfl ?_
  | refine aw_skip ?_
  | refine aw_exit ?_
  | refine aw_ret ?_
  | refine thenS_n ?_
  | refine thenS_x ?_
  | refine thenS_r ?_
  | refine inB_n ?_
  | refine inB_r ?_
  | refine inB_x ?_
  | refine inB_y rfl ?_
  | (exfalso; omega)
 · exact ⟨.inr rfl, endD (r := .v _) hl0 rfl (by simp) (by simp) rfl (by rw [low]; trivial) (.inr ⟨by simpa [byD] using hnil, rfl, rfl⟩)⟩
 · exact ⟨.inr rfl, endB (l := l) rfl (T := []) rfl (by simp) rfl (.inl ⟨rfl, rfl⟩)⟩
theorem cloneB (l : List UInt8) (hl : l.length ≤ 10000000) (h : List Ob) :
 Does Tryz.prog G 73 h [.sl 1 (byD l)] (fun h' r => h' = h ∧ r = .sl 1 (byD l)) := does_gave hG (by rw [lowL, lowL]; exact ⟨low_by _ _, trivial⟩) rfl (cloneB0 G hG l hl) h
omit hG in
theorem rowsOk_wr (l : List (ByteArray × List UInt8)) : rowsOk 2 (l.map wrX) := fun row hr => by
 obtain ⟨x, _, rfl⟩ := List.mem_map.1 hr
 refine ⟨rfl, fun d hd => ?_⟩
 rw [wrX] at hd
 simp at hd
 rcases hd with rfl | rfl <;> rfl
theorem cloneW0 (l : List (ByteArray × List UInt8)) (hl : l.length ≤ 10000) :
 Does Tryz.prog G 74 [] [.sl 2 (l.map wrX)] (fun h' r => h' = [.buf 67 2 (l.map wrX)] ∧ r = .buf 0 l.length) := by
 refine Does.nilbuf (K := fun h' r => (h' = [.buf 67 2 (l.map wrX)] ∧ r = .buf 0 l.length) ∨ (l = [] ∧ h' = [] ∧ r = .v (.slice none 0 0))) 67 2 ?_ ?_
 rotate_left
 · rintro h' r (h | ⟨rfl, rfl, rfl⟩)
   · exact .inl h
   · exact .inr ⟨rfl, rfl, rfl⟩
 have hro := rowsOk_wr l
 refine does_of_aw Tryz.func74 rfl (Nat.le_of_ble_eq_true rfl) hG fun hl0 _ => ?_
 simp only [Tryz.ntmps74]
 repeat' first
  | (refine ao_ex rfl (tri_nil (k := 2) (xs := l.map wrX) (by kernel_rfl)) ?_; rintro _ _ ⟨rfl, ⟨rfl, hnil⟩ | rfl⟩)
  | refine aw_seq' ?_
  | refine aw_region' ?_
  | refine aw_block ?_
  | refine ao_nil ?_
  | (refine ao1 rfl rfl fun K HK => ?_; (try refine aOp_pick rfl ?_); simp only [go_sem, ↓reduceIte, Nat.reduceEqDiff, Nat.reduceAdd, Nat.reduceLeDiff, Nat.reduceBEq, Nat.reduceMul, Int.reduceEq, Int.reduceLT, Int.reduceLE, decide_true, decide_false, Bool.not_true, Bool.not_false]; (first | refine splitB (fun hq => ?_) (fun hq => ?_) | refine splitN (fun hq => ?_) (fun hq => ?_) | (refine slc_sl (by simp only [go_sem]) rfl rfl (by first | omega | simp) (by first | omega | simp) (by simp only [go_sem]; omega) ?_) | (refine ⟨by omega, by omega, ?_⟩; first | refine row_at (by assumption) ?_ | (intro row hrow; obtain ⟨x, hx, rfl⟩ := row_inv hrow; clear hrow) | (intro row hrow)) | (refine ⟨by omega, ?_⟩; refine row_at (by assumption) ?_) | skip) <;> (refine HK _ _ ?_; clear HK K))
  | (refine aq1 rfl rfl fun K HK => ?_; (try refine aOp_pick rfl ?_); simp only [go_sem, ↓reduceIte, Nat.reduceEqDiff, Nat.reduceAdd, Nat.reduceLeDiff, Nat.reduceBEq, Nat.reduceMul, Int.reduceEq, Int.reduceLT, Int.reduceLE, decide_true, decide_false, Bool.not_true, Bool.not_false]; (first | refine splitB (fun hq => ?_) (fun hq => ?_) | refine splitN (fun hq => ?_) (fun hq => ?_) | (refine slc_sl (by simp only [go_sem]) rfl rfl (by first | omega | simp) (by first | omega | simp) (by simp only [go_sem]; omega) ?_) | (refine ⟨by omega, by omega, ?_⟩; first | refine row_at (by assumption) ?_ | (intro row hrow; obtain ⟨x, hx, rfl⟩ := row_inv hrow; clear hrow) | (intro row hrow)) | (refine ⟨by omega, ?_⟩; refine row_at (by assumption) ?_) | skip) <;> (refine HK _ _ rfl ?_; clear HK K))
  | refine aq0 rfl rfl ?_
  | refine aq_nil ?_
  | (refine aw_draw mixd (by kernel_rfl) ?_)
  | refine ao_appB rfl rfl rfl rfl (by first | assumption | (simp only [go_sem, ↓reduceIte, Nat.reduceEqDiff, Nat.reduceAdd, Nat.reduceLeDiff, Nat.reduceBEq, Nat.reduceMul, Int.reduceEq, Int.reduceLT, Int.reduceLE, decide_true, decide_false, Bool.not_true, Bool.not_false]; rfl) | (simp only [go_sem, ↓reduceIte, Nat.reduceEqDiff, Nat.reduceAdd, Nat.reduceLeDiff, Nat.reduceBEq, Nat.reduceMul, Int.reduceEq, Int.reduceLT, Int.reduceLE, decide_true, decide_false, Bool.not_true, Bool.not_false]; done)) (by simp) (by simp only [go_sem]; rfl) (by first | assumption | (simp only [go_sem, ↓reduceIte, Nat.reduceEqDiff, Nat.reduceAdd, Nat.reduceLeDiff, Nat.reduceBEq, Nat.reduceMul, Int.reduceEq, Int.reduceLT, Int.reduceLE, decide_true, decide_false, Bool.not_true, Bool.not_false]; rfl) | (simp only [go_sem, ↓reduceIte, Nat.reduceEqDiff, Nat.reduceAdd, Nat.reduceLeDiff, Nat.reduceBEq, Nat.reduceMul, Int.reduceEq, Int.reduceLT, Int.reduceLE, decide_true, decide_false, Bool.not_true, Bool.not_false]; done)) (by simp) (by first | assumption | exact rowsOk_nil _ | exact rowsOk_by _ | (rw [byD_cut]; exact rowsOk_by _) | (simp [rowsOk, D.one, Value.oneCell']; done)) (by first | omega | (simp; done) | (simp; omega) | (simp [byD]; omega)) ?_
  | refine ao_appNB rfl rfl rfl rfl (by simp only [go_sem]; rfl) (by first | assumption | (simp only [go_sem, ↓reduceIte, Nat.reduceEqDiff, Nat.reduceAdd, Nat.reduceLeDiff, Nat.reduceBEq, Nat.reduceMul, Int.reduceEq, Int.reduceLT, Int.reduceLE, decide_true, decide_false, Bool.not_true, Bool.not_false]; rfl) | (simp only [go_sem, ↓reduceIte, Nat.reduceEqDiff, Nat.reduceAdd, Nat.reduceLeDiff, Nat.reduceBEq, Nat.reduceMul, Int.reduceEq, Int.reduceLT, Int.reduceLE, decide_true, decide_false, Bool.not_true, Bool.not_false]; done)) (by simp) (by first | assumption | exact rowsOk_nil _ | exact rowsOk_by _ | (rw [byD_cut]; exact rowsOk_by _) | (simp [rowsOk, D.one, Value.oneCell']; done)) (by first | omega | (simp; done) | (simp; omega) | (simp [byD]; omega)) ?_
  | refine ao_appR rfl rfl rfl (by first | assumption | (simp only [go_sem, ↓reduceIte, Nat.reduceEqDiff, Nat.reduceAdd, Nat.reduceLeDiff, Nat.reduceBEq, Nat.reduceMul, Int.reduceEq, Int.reduceLT, Int.reduceLE, decide_true, decide_false, Bool.not_true, Bool.not_false]; rfl) | (simp only [go_sem, ↓reduceIte, Nat.reduceEqDiff, Nat.reduceAdd, Nat.reduceLeDiff, Nat.reduceBEq, Nat.reduceMul, Int.reduceEq, Int.reduceLT, Int.reduceLE, decide_true, decide_false, Bool.not_true, Bool.not_false]; done)) (by simp) (by simp only [go_sem]; rfl) rfl (by first | assumption | exact rowsOk_nil _ | exact rowsOk_by _ | (rw [byD_cut]; exact rowsOk_by _) | (simp [rowsOk, D.one, Value.oneCell']; done)) (by first | omega | (simp; done) | (simp; omega) | (simp [byD]; omega)) ?_
  | refine ao_appNR rfl rfl rfl (by simp only [go_sem]; rfl) rfl (by first | assumption | exact rowsOk_nil _ | exact rowsOk_by _ | (rw [byD_cut]; exact rowsOk_by _) | (simp [rowsOk, D.one, Value.oneCell']; done)) (by first | omega | (simp; done) | (simp; omega) | (simp [byD]; omega)) ?_
  | refine ao0 rfl rfl ?_
  | (refine ao1' rfl fun K HK => ?_; simp only [go_sem, ↓reduceIte, Nat.reduceEqDiff, Nat.reduceAdd, Nat.reduceLeDiff, Nat.reduceBEq, Nat.reduceMul, Int.reduceEq, Int.reduceLT, Int.reduceLE, decide_true, decide_false, Bool.not_true, Bool.not_false]; refine HK _ _ ?_; clear HK K)
  | refine ao0' rfl ?_
  | refine aw_if1 rfl ?_
  | refine aw_if0 rfl ?_
  | refine aw_skip ?_
  | refine aw_exit ?_
  | refine aw_ret ?_
  | refine thenS_n ?_
  | refine thenS_x ?_
  | refine thenS_r ?_
  | refine inB_n ?_
  | refine inB_r ?_
  | refine inB_x ?_
  | refine inB_y rfl ?_
  | (exfalso; omega)
 · exact ⟨.inr rfl, endD (r := .v _) hl0 rfl (by simp) (by simp) rfl (by rw [low]; trivial) (.inr ⟨by simpa using hnil, rfl, rfl⟩)⟩
 · have hl1 := low_wr 1 l
   rw [low] at hl1
   exact ⟨.inr rfl, endBk (n := l.length) (rows := l.map wrX) rfl (T := []) rfl (by simp) (by simp) hl1 (.inl ⟨rfl, rfl⟩)⟩
end
end Go.Proofs.YtidpdgdakghfnaaGreat
