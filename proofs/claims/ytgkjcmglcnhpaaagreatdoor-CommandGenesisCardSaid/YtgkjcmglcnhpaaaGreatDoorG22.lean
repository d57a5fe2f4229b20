/-
  What the statements of the chapter share, part 22: CM3, CM4.
-/
import Derived.Test.YtgkjcmglcnhpaaaGreatDoorG19
import Derived.Test.YtgkjcmglcnhpaaaGreatDoorG20
import Derived.Test.YtgkjcmglcnhpaaaGreatDoorG21
set_option linter.unusedVariables false
set_option linter.unusedSimpArgs false
set_option maxRecDepth 100000
set_option maxHeartbeats 8000000
namespace Go.Proofs.YtgkjcmglcnhpaaaGreatDoor
open Go.RowKit
section
set_option maxRecDepth 100000
set_option maxHeartbeats 4000000
attribute [local irreducible] on aOp
attribute [local go_sem] decide_true decide_false Bool.not_true Bool.not_false
attribute [local simp] byD_len
def cmdS : ByteArray := ⟨#[99, 111, 109, 109, 97, 110, 100]⟩
def readS : ByteArray := ⟨#[114, 101, 97, 100]⟩
def bodyZ (c : Cmd) : List UInt8 := textE cmdS ++ writeC c
def readBodyZ (client number : Int) : List UInt8 := textE readS ++ (intE client ++ intE number)
theorem cmdS_len : (textE cmdS).length = 8 := by unfold textE; rw [uintE_lt (show cmdS.size < 128 by decide)]; rfl
theorem readS_len : (textE readS).length = 5 := by unfold textE; rw [uintE_lt (show readS.size < 128 by decide)]; rfl
theorem bodyZ_len (c : Cmd) (hc : c.Ok) : (bodyZ c).length ≤ 60062000 := by
 have := writeC_len c hc
 unfold bodyZ; rw [List.length_append, cmdS_len]; omega
theorem bodyZ_ne (c : Cmd) : bodyZ c ≠ [] := fun h => by
 have := congrArg List.length h
 unfold bodyZ at this
 rw [List.length_append, cmdS_len] at this; simp at this
theorem readBodyZ_len {a b : Int} (ha : I64 a) (hb : I64 b) : (readBodyZ a b).length ≤ 25 := by
 have h1 := intE_len ha
 have h2 := intE_len hb
 unfold readBodyZ; simp only [List.length_append, readS_len]; omega
theorem readBodyZ_ne (a b : Int) : readBodyZ a b ≠ [] := fun h => by
 have := congrArg List.length h
 unfold readBodyZ at this
 rw [List.length_append, readS_len] at this; simp at this
variable (G : Nat → D) (hG : ∀ g, low 0 (G g))
include hG
theorem e_text0 (c : Cmd) (s : ByteArray) (hs : s.size ≤ 10000000) : Does Tryz.prog G 55 (hE c 0 []) [.ptr 1 0, .v (.string s)] (fun h' r => h' = hE c (textE s).length (byD (textE s)) ∧ r = .tup []) :=
 w_at G hG (l := []) (l2 := textE s) (by rw [lowL, lowL]; exact ⟨by rw [low]; trivial, trivial⟩) (by simp [low, lowL]) (wText_d G hG [] s hs (by simp)) (i := 1) (j := 2) rfl rfl
theorem e_write1 (l : List UInt8) (hl : l.length ≤ 1000000) (c : Cmd) (hc : c.Ok) : Does Tryz.prog G 44 (hE c l.length (byD l)) [.ptr 1 0, .agg (cmdX c)] (fun h' r => h' = hE c (l ++ writeC c).length (byD (l ++ writeC c)) ∧ r = .tup []) :=
 w_at G hG (l := l) (l2 := l ++ writeC c) (by rw [lowL, lowL]; exact ⟨low_agg _ _, trivial⟩) (by simp [low, lowL]) (write_d G hG l c hc hl) (i := 1) (j := 2) rfl rfl
theorem body_d (c : Cmd) (hc : c.Ok) (h : List Ob) : Does Tryz.prog G 21 h [.agg (cmdX c)] (fun h' r => h' = h ∧ r = .sl 1 (byD (bodyZ c))) := by
 refine does_any G hG (by rw [lowL, lowL]; exact ⟨low_agg _ _, trivial⟩) (low_by _ _) ?_ h
 have hl := bodyZ_len c hc
 refine does_of_aw Tryz.func21 rfl (Nat.le_of_ble_eq_true rfl) hG fun hl0 _ => ?_
 simp only [Tryz.ntmps21]
 repeat' first
  | (with_reducible refine gd_aw ?_; first
   | refine aw_seq' ?_
   | refine aw_region' ?_
   | refine aw_ret ?_)
  | (with_reducible refine gd_ao ?_; first
   | (refine ao_nilcell 5 1 1 [] [] rfl ?_)
   | refine ao_nil ?_
   | (refine ao1 rfl rfl fun K HK => ?_; simp only [go_sem, ↓reduceIte, Nat.reduceEqDiff, Nat.reduceAdd, Nat.reduceLeDiff, Nat.reduceBEq, Nat.reduceMul, Int.reduceEq, Int.reduceLT, Int.reduceLE, hE_0, cmdX_eq] <;> (refine HK _ _ ?_; clear HK K))
   | (refine ao2 rfl rfl rfl ent_44 (e_write1 G hG (textE cmdS) (by rw [cmdS_len]; decide) c hc) ?_; rintro _ _ ⟨rfl, rfl⟩))
  | (with_reducible refine gd_th ?_; first
   | refine thenS_n ?_)
  | ((with_reducible refine gd_ao ?_); first
   | (refine ao2 rfl rfl rfl ent_55 (e_text0 G hG c cmdS (by decide)) ?_; rintro _ _ ⟨rfl, rfl⟩)
   | (refine ao2 rfl rfl rfl ent_46 (e_data G hG c (bodyZ c) (by omega)) ?_; rintro _ _ ⟨rfl, rfl⟩))
 exact ⟨.inr rfl, endD (r := .sl 1 (byD (bodyZ c))) hl0 rfl (by simp) (by simp) rfl (low_by _ _) ⟨rfl, rfl⟩⟩
theorem readBody_d (a b : Int) (ha : I64 a) (hb : I64 b) (h : List Ob) : Does Tryz.prog G 73 h [.v (.int .i64 a), .v (.int .i64 b)] (fun h' r => h' = h ∧ r = .sl 1 (byD (readBodyZ a b))) := by
 refine does_any G hG (by simp [lowL, low]) (low_by _ _) ?_ h
 have hl := readBodyZ_len ha hb
 have h1 := intE_len ha
 have h3 := readS_len
 refine does_of_aw Tryz.func73 rfl (Nat.le_of_ble_eq_true rfl) hG fun hl0 _ => ?_
 simp only [Tryz.ntmps73]
 repeat' first
  | (with_reducible refine gd_aw ?_; first
   | refine aw_seq' ?_
   | refine aw_region' ?_
   | refine aw_ret ?_)
  | (with_reducible refine gd_ao ?_; first
   | (refine ao_nilcell 5 1 0 [] [] rfl ?_)
   | refine ao_nil ?_
   | (refine ao1 rfl rfl fun K HK => ?_; simp only [go_sem, ↓reduceIte, Nat.reduceEqDiff, Nat.reduceAdd, Nat.reduceLeDiff, Nat.reduceBEq, Nat.reduceMul, Int.reduceEq, Int.reduceLT, Int.reduceLE] <;> (refine HK _ _ ?_; clear HK K))
   | (refine ao2 rfl rfl rfl ent_79 (wInt_d G hG (textE readS) a ha (by omega)) ?_; rintro _ _ ⟨rfl, rfl⟩))
  | (with_reducible refine gd_th ?_; first
   | refine thenS_n ?_)
  | ((with_reducible refine gd_ao ?_); first
   | (refine ao2 rfl rfl rfl ent_55 (wText_d G hG [] readS (by decide) (by simp)) ?_; rintro _ _ ⟨rfl, rfl⟩)
   | (refine ao2 rfl rfl rfl ent_79 (wInt_d G hG (textE readS ++ intE a) b hb (by rw [List.length_append]; omega)) ?_; rintro _ _ ⟨rfl, rfl⟩)
   | (refine ao2 rfl rfl rfl ent_46 (wData_d G hG (textE readS ++ intE a ++ intE b) (by simp only [List.length_append]; simp only [readBodyZ, List.length_append] at hl; omega)) ?_; rintro _ _ ⟨rfl, rfl⟩))
 exact ⟨.inr rfl, endD (r := .sl 1 (byD (readBodyZ a b))) hl0 rfl (by simp) (by simp) (by unfold readBodyZ; first | rfl | (rw [← List.append_assoc]; rfl)) (low_by _ _) ⟨rfl, rfl⟩⟩
end
section
set_option maxRecDepth 100000
set_option maxHeartbeats 4000000
set_option pp.maxSteps 1000000
set_option pp.deepTerms true
attribute [local irreducible] on aOp
attribute [local simp] byD_len
theorem low_M1 (m : Nat) (master : List UInt8) (p ht : Int) : lowH m [modOb master p ht] := fun x hx => by
 simp at hx; subst hx; exact low_mod m master p ht
section
variable {P : Program} {G : Nat → D}
theorem does_at1 (hG : ∀ g, low 0 (G g)) {f : FuncId} {ob : Ob} {args : List D} {r0 : D} (hob : ∀ π, renOb π ob = ob) (lob : lowOb 1 ob) (la : lowL 1 args) (lr : low 0 r0) (q : Does P G f [ob] args (fun h' r => h' = [ob] ∧ r = r0)) {h : List Ob} {i : Nat} (hi : h[i]? = some ob) {args' : List D} (he : renL (fun _ => i) args = args') : Does P G f h args' (fun h' r => h' = h ∧ r = r0) := by
 have L : Lies (fun _ => i) [ob] h := by
  refine ⟨fun k ob' hk => ?_, fun a b ha hb _ => ?_, ?_⟩
  · rcases k with _ | k
    · cases hk; rw [hob]; exact hi
    · simp at hk
  · simp at ha hb; omega
  · intro x hx
    simp at hx; subst hx; exact lob
 have F := Does.frame hG L (args := args) la (K1 := fun h' r => h' = [ob] ∧ r = r0) (by
  rintro _ _ ⟨rfl, _⟩
  refine ⟨fun a b ha hb _ => ?_, fun k h1 h2 => ?_⟩
  · simp at ha hb; omega
  · have h1 : 1 ≤ k := h1
    have h2 : k < 1 := h2
    omega) q
 rw [he] at F
 refine F.mono ?_
 rintro _ _ ⟨_, _, ⟨rfl, rfl⟩, rfl, rfl⟩
 refine ⟨?_, ren_low0 _ _ lr⟩
 simp only [List.map_cons, List.map_nil, plc, hob]
 apply List.ext_getElem?
 intro k
 by_cases hk : i = k
 · subst hk
   rw [List.getElem?_set_self (List.getElem?_eq_some_iff.1 hi).1, hi]
 · rw [List.getElem?_set_ne hk]
end
theorem ren_mod (π : Nat → Nat) (master : List UInt8) (p ht : Int) : renOb π (modOb master p ht) = modOb master p ht := by
 unfold modOb
 simp only [renOb, renL, ren, renR_by]
variable (G : Nat → D) (hG : ∀ g, low 0 (G g)) (hK : G 1 = .rp (shaK.map zD))
include hG
theorem new0 (master : List UInt8) (p : Int) (hm : master.length ≤ 1000000) : Does Tryz.prog G 24 [] [.sl 1 (byD master), .v (.int .i64 p)] (fun h' r => h' = [.dead, modOb master p 0] ∧ r = .ptr 1 0) := by
 refine Does.gaveIn (K := fun h' r => h' = [.buf 5 1 (byD master), .cells [.buf 0 master.length, .v (.int .i64 p), .v (.int .i64 0)]] ∧ r = .ptr 1 0) ?_ ?_
 rotate_left
 · rintro _ _ ⟨rfl, rfl⟩
   exact ⟨1, 0, _, by decide, rfl, by simp [cvD, cv1, modOb, byD_len], rfl⟩
 refine does_of_aw Tryz.func24 rfl (Nat.le_of_ble_eq_true rfl) hG fun hl0 _ => ?_
 simp only [Tryz.ntmps24]
 repeat' first
  | (refine ao_tri1 rfl rfl (tri_cpBuf (E := 5) rfl rfl (by simp only [go_sem, Option.bind_some]) rfl (by simp) byD_len (rowsOk_by _)) ?_)
  | (refine ao_make (m := master.length) (el := 5) (k := 1) (by' := 1) (zs := [.v (.int .u8 0)]) rfl rfl rfl rfl (by simp only [go_sem]) (by kernel_rfl) rfl (by omega) hm ?_)
  | refine aw_seq' ?_
  | refine aw_region' ?_
  | refine aw_block ?_
  | refine ao_nil ?_
  | (refine ao1 rfl rfl fun K HK => ?_; (try refine aOp_pick rfl ?_); simp only [go_sem, ↓reduceIte, Nat.reduceEqDiff, Nat.reduceAdd, Nat.reduceLeDiff, Nat.reduceBEq, Nat.reduceMul, Int.reduceEq, Int.reduceLT, Int.reduceLE, decide_true, decide_false, Bool.not_true, Bool.not_false]; (first | refine splitB (fun hq => ?_) (fun hq => ?_) | refine splitN (fun hq => ?_) (fun hq => ?_) | (refine slc_sl (by simp only [go_sem]) rfl rfl (by first | omega | simp) (by first | omega | simp) (by simp only [go_sem]; omega) ?_) | (refine ⟨by omega, by omega, ?_⟩; first | refine row_at (by assumption) ?_ | (intro row hrow; obtain ⟨x, hx, rfl⟩ := row_inv hrow; clear hrow) | (intro row hrow)) | (refine ⟨by omega, ?_⟩; refine row_at (by assumption) ?_) | skip) <;> (refine HK _ _ ?_; clear HK K))
  | (refine aq1 rfl rfl fun K HK => ?_; (try refine aOp_pick rfl ?_); simp only [go_sem, ↓reduceIte, Nat.reduceEqDiff, Nat.reduceAdd, Nat.reduceLeDiff, Nat.reduceBEq, Nat.reduceMul, Int.reduceEq, Int.reduceLT, Int.reduceLE, decide_true, decide_false, Bool.not_true, Bool.not_false]; (first | refine splitB (fun hq => ?_) (fun hq => ?_) | refine splitN (fun hq => ?_) (fun hq => ?_) | (refine slc_sl (by simp only [go_sem]) rfl rfl (by first | omega | simp) (by first | omega | simp) (by simp only [go_sem]; omega) ?_) | (refine ⟨by omega, by omega, ?_⟩; first | refine row_at (by assumption) ?_ | (intro row hrow; obtain ⟨x, hx, rfl⟩ := row_inv hrow; clear hrow) | (intro row hrow)) | (refine ⟨by omega, ?_⟩; refine row_at (by assumption) ?_) | skip) <;> (refine HK _ _ rfl ?_; clear HK K))
  | refine aq0 rfl rfl ?_
  | refine aq_nil ?_
  | (refine aw_draw mixd (by kernel_rfl) ?_)
  | refine ao_appB rfl rfl rfl rfl (by first | assumption | (simp only [go_sem, ↓reduceIte, Nat.reduceEqDiff, Nat.reduceAdd, Nat.reduceLeDiff, Nat.reduceBEq, Nat.reduceMul, Int.reduceEq, Int.reduceLT, Int.reduceLE, decide_true, decide_false, Bool.not_true, Bool.not_false]; rfl) | (simp only [go_sem, ↓reduceIte, Nat.reduceEqDiff, Nat.reduceAdd, Nat.reduceLeDiff, Nat.reduceBEq, Nat.reduceMul, Int.reduceEq, Int.reduceLT, Int.reduceLE, decide_true, decide_false, Bool.not_true, Bool.not_false]; done)) (by simp) (by simp only [go_sem]; rfl) (by first | assumption | (simp only [go_sem, ↓reduceIte, Nat.reduceEqDiff, Nat.reduceAdd, Nat.reduceLeDiff, Nat.reduceBEq, Nat.reduceMul, Int.reduceEq, Int.reduceLT, Int.reduceLE, decide_true, decide_false, Bool.not_true, Bool.not_false]; rfl) | (simp only [go_sem, ↓reduceIte, Nat.reduceEqDiff, Nat.reduceAdd, Nat.reduceLeDiff, Nat.reduceBEq, Nat.reduceMul, Int.reduceEq, Int.reduceLT, Int.reduceLE, decide_true, decide_false, Bool.not_true, Bool.not_false]; done)) (by simp) (by first | assumption | exact rowsOk_nil _ | exact rowsOk_by _ | (rw [byD_cut]; exact rowsOk_by _) | (simp [rowsOk, D.one, Value.oneCell']; done)) (by first | omega | (simp; done) | (simp; omega) | (simp [byD]; omega)) ?_
  | refine ao_appNB rfl rfl rfl rfl (by simp only [go_sem]; rfl) (by first | assumption | (simp only [go_sem, ↓reduceIte, Nat.reduceEqDiff, Nat.reduceAdd, Nat.reduceLeDiff, Nat.reduceBEq, Nat.reduceMul, Int.reduceEq, Int.reduceLT, Int.reduceLE, decide_true, decide_false, Bool.not_true, Bool.not_false]; rfl) | (simp only [go_sem, ↓reduceIte, Nat.reduceEqDiff, Nat.reduceAdd, Nat.reduceLeDiff, Nat.reduceBEq, Nat.reduceMul, Int.reduceEq, Int.reduceLT, Int.reduceLE, decide_true, decide_false, Bool.not_true, Bool.not_false]; done)) (by simp) (by first | assumption | exact rowsOk_nil _ | exact rowsOk_by _ | (rw [byD_cut]; exact rowsOk_by _) | (simp [rowsOk, D.one, Value.oneCell']; done)) (by first | omega | (simp; done) | (simp; omega) | (simp [byD]; omega)) ?_
  | refine ao_appR rfl rfl rfl (by first | assumption | (simp only [go_sem, ↓reduceIte, Nat.reduceEqDiff, Nat.reduceAdd, Nat.reduceLeDiff, Nat.reduceBEq, Nat.reduceMul, Int.reduceEq, Int.reduceLT, Int.reduceLE, decide_true, decide_false, Bool.not_true, Bool.not_false]; rfl) | (simp only [go_sem, ↓reduceIte, Nat.reduceEqDiff, Nat.reduceAdd, Nat.reduceLeDiff, Nat.reduceBEq, Nat.reduceMul, Int.reduceEq, Int.reduceLT, Int.reduceLE, decide_true, decide_false, Bool.not_true, Bool.not_false]; done)) (by simp) (by simp only [go_sem]; rfl) rfl (by first | assumption | exact rowsOk_nil _ | exact rowsOk_by _ | (rw [byD_cut]; exact rowsOk_by _) | (simp [rowsOk, D.one, Value.oneCell']; done)) (by first | omega | (simp; done) | (simp; omega) | (simp [byD]; omega)) ?_
  | refine ao_appNR rfl rfl rfl (by simp only [go_sem]; rfl) rfl (by first | assumption | exact rowsOk_nil _ | exact rowsOk_by _ | (rw [byD_cut]; exact rowsOk_by _) | (simp [rowsOk, D.one, Value.oneCell']; done)) (by first | omega | (simp; done) | (simp; omega) | (simp [byD]; omega)) ?_
  | refine ao0 rfl rfl ?_
  | (refine ao1' rfl fun K HK => ?_; simp only [go_sem, ↓reduceIte, Nat.reduceEqDiff, Nat.reduceAdd, Nat.reduceLeDiff, Nat.reduceBEq, Nat.reduceMul, Int.reduceEq, Int.reduceLT, Int.reduceLE, decide_true, decide_false, Bool.not_true, Bool.not_false]; refine HK _ _ ?_; clear HK K)
  | refine ao0' rfl ?_
  | refine aw_if1 rfl ?_
  | refine aw_if0 rfl ?_
  | refine aw_skip ?_
  | refine aw_exit ?_
  | refine aw_ret ?_
  | refine thenS_n ?_
  | refine thenS_x ?_
  | refine thenS_r ?_
  | refine inB_n ?_
  | refine inB_r ?_
  | refine inB_x ?_
  | refine inB_y rfl ?_
  | (exfalso; omega)
 exact ⟨.inr rfl, endX [.ptr 1 0] [.buf 5 1 (byD master), .cells [.buf 0 master.length, .v (.int .i64 p), .v (.int .i64 0)]] [] (.ptr 1 0) rfl rfl (Nat.zero_le _) (fun x hx => by
  simp at hx
  rcases hx with rfl | rfl
  · exact low_by 2 master
  · simp [lowOb, lowL, low]) (by simp [low]) rfl ⟨rfl, rfl⟩⟩
include hK
theorem cSign0 (master : List UInt8) (p ht : Int) (hp : I64 p) (hm : master.length ≤ 1000000) (hh : ht ≤ 0) (c : Cmd) (hc : c.Ok) : Does Tryz.prog G 32 [modOb master p ht] [.ptr 0 0, .agg (cmdX c)] (fun h' r => h' = [modOb master p ht] ∧ r = .tup [.agg (cmdX { c with tag := signZ master p 0 (bodyZ c) }), .v (.int .i64 0)]) := by
 have hl := bodyZ_len c hc
 refine does_of_aw Tryz.func32 rfl (Nat.le_of_ble_eq_true rfl) hG fun hl0 _ => ?_
 simp only [Tryz.ntmps32]
 repeat' first
  | refine aw_seq' ?_
  | refine aw_region' ?_
  | refine aw_block ?_
  | refine ao_nil ?_
  | (refine ao1 rfl rfl fun K HK => ?_; (try refine aOp_pick rfl ?_); simp only [go_sem, ↓reduceIte, Nat.reduceEqDiff, Nat.reduceAdd, Nat.reduceLeDiff, Nat.reduceBEq, Nat.reduceMul, Int.reduceEq, Int.reduceLT, Int.reduceLE, decide_true, decide_false, Bool.not_true, Bool.not_false, cmdX_eq]; (first | refine splitB (fun hq => ?_) (fun hq => ?_) | refine splitN (fun hq => ?_) (fun hq => ?_) | (refine slc_sl (by simp only [go_sem]) rfl rfl (by first | omega | simp) (by first | omega | simp) (by simp only [go_sem]; omega) ?_) | (refine ⟨by omega, by omega, ?_⟩; first | refine row_at (by assumption) ?_ | (intro row hrow; obtain ⟨x, hx, rfl⟩ := row_inv hrow; clear hrow) | (intro row hrow)) | (refine ⟨by omega, ?_⟩; refine row_at (by assumption) ?_) | skip) <;> (refine HK _ _ ?_; clear HK K))
  | (refine aq1 rfl rfl fun K HK => ?_; (try refine aOp_pick rfl ?_); simp only [go_sem, ↓reduceIte, Nat.reduceEqDiff, Nat.reduceAdd, Nat.reduceLeDiff, Nat.reduceBEq, Nat.reduceMul, Int.reduceEq, Int.reduceLT, Int.reduceLE, decide_true, decide_false, Bool.not_true, Bool.not_false, cmdX_eq]; (first | refine splitB (fun hq => ?_) (fun hq => ?_) | refine splitN (fun hq => ?_) (fun hq => ?_) | (refine slc_sl (by simp only [go_sem]) rfl rfl (by first | omega | simp) (by first | omega | simp) (by simp only [go_sem]; omega) ?_) | (refine ⟨by omega, by omega, ?_⟩; first | refine row_at (by assumption) ?_ | (intro row hrow; obtain ⟨x, hx, rfl⟩ := row_inv hrow; clear hrow) | (intro row hrow)) | (refine ⟨by omega, ?_⟩; refine row_at (by assumption) ?_) | skip) <;> (refine HK _ _ rfl ?_; clear HK K))
  | refine aq0 rfl rfl ?_
  | refine aq_nil ?_
  | (refine aw_draw mixd (by kernel_rfl) ?_)
  | refine ao_appB rfl rfl rfl rfl (by first | assumption | (simp only [go_sem, ↓reduceIte, Nat.reduceEqDiff, Nat.reduceAdd, Nat.reduceLeDiff, Nat.reduceBEq, Nat.reduceMul, Int.reduceEq, Int.reduceLT, Int.reduceLE, decide_true, decide_false, Bool.not_true, Bool.not_false, cmdX_eq]; rfl) | (simp only [go_sem, ↓reduceIte, Nat.reduceEqDiff, Nat.reduceAdd, Nat.reduceLeDiff, Nat.reduceBEq, Nat.reduceMul, Int.reduceEq, Int.reduceLT, Int.reduceLE, decide_true, decide_false, Bool.not_true, Bool.not_false, cmdX_eq]; done)) (by simp) (by simp only [go_sem]; rfl) (by first | assumption | (simp only [go_sem, ↓reduceIte, Nat.reduceEqDiff, Nat.reduceAdd, Nat.reduceLeDiff, Nat.reduceBEq, Nat.reduceMul, Int.reduceEq, Int.reduceLT, Int.reduceLE, decide_true, decide_false, Bool.not_true, Bool.not_false, cmdX_eq]; rfl) | (simp only [go_sem, ↓reduceIte, Nat.reduceEqDiff, Nat.reduceAdd, Nat.reduceLeDiff, Nat.reduceBEq, Nat.reduceMul, Int.reduceEq, Int.reduceLT, Int.reduceLE, decide_true, decide_false, Bool.not_true, Bool.not_false, cmdX_eq]; done)) (by simp) (by first | assumption | exact rowsOk_nil _ | exact rowsOk_by _ | (rw [byD_cut]; exact rowsOk_by _) | (simp [rowsOk, D.one, Value.oneCell']; done)) (by first | omega | (simp; done) | (simp; omega) | (simp [byD]; omega)) ?_
  | refine ao_appNB rfl rfl rfl rfl (by simp only [go_sem]; rfl) (by first | assumption | (simp only [go_sem, ↓reduceIte, Nat.reduceEqDiff, Nat.reduceAdd, Nat.reduceLeDiff, Nat.reduceBEq, Nat.reduceMul, Int.reduceEq, Int.reduceLT, Int.reduceLE, decide_true, decide_false, Bool.not_true, Bool.not_false, cmdX_eq]; rfl) | (simp only [go_sem, ↓reduceIte, Nat.reduceEqDiff, Nat.reduceAdd, Nat.reduceLeDiff, Nat.reduceBEq, Nat.reduceMul, Int.reduceEq, Int.reduceLT, Int.reduceLE, decide_true, decide_false, Bool.not_true, Bool.not_false, cmdX_eq]; done)) (by simp) (by first | assumption | exact rowsOk_nil _ | exact rowsOk_by _ | (rw [byD_cut]; exact rowsOk_by _) | (simp [rowsOk, D.one, Value.oneCell']; done)) (by first | omega | (simp; done) | (simp; omega) | (simp [byD]; omega)) ?_
  | refine ao_appR rfl rfl rfl (by first | assumption | (simp only [go_sem, ↓reduceIte, Nat.reduceEqDiff, Nat.reduceAdd, Nat.reduceLeDiff, Nat.reduceBEq, Nat.reduceMul, Int.reduceEq, Int.reduceLT, Int.reduceLE, decide_true, decide_false, Bool.not_true, Bool.not_false, cmdX_eq]; rfl) | (simp only [go_sem, ↓reduceIte, Nat.reduceEqDiff, Nat.reduceAdd, Nat.reduceLeDiff, Nat.reduceBEq, Nat.reduceMul, Int.reduceEq, Int.reduceLT, Int.reduceLE, decide_true, decide_false, Bool.not_true, Bool.not_false, cmdX_eq]; done)) (by simp) (by simp only [go_sem]; rfl) rfl (by first | assumption | exact rowsOk_nil _ | exact rowsOk_by _ | (rw [byD_cut]; exact rowsOk_by _) | (simp [rowsOk, D.one, Value.oneCell']; done)) (by first | omega | (simp; done) | (simp; omega) | (simp [byD]; omega)) ?_
  | refine ao_appNR rfl rfl rfl (by simp only [go_sem]; rfl) rfl (by first | assumption | exact rowsOk_nil _ | exact rowsOk_by _ | (rw [byD_cut]; exact rowsOk_by _) | (simp [rowsOk, D.one, Value.oneCell']; done)) (by first | omega | (simp; done) | (simp; omega) | (simp [byD]; omega)) ?_
  | refine ao0 rfl rfl ?_
  | refine aq2 rfl rfl rfl ent_21 (body_d G hG c hc _) ?_
  | (refine ao2 rfl rfl rfl ent_21 (body_d G hG c hc _) ?_; rintro _ _ ⟨rfl, rfl⟩)
  | refine aq2 rfl rfl rfl ent_72 (mSign_d G hG hK 0 master p ht (bodyZ c) hp hm (by omega) (bodyZ_ne c) _ rfl hh) ?_
  | (refine ao2 rfl rfl rfl ent_72 (mSign_d G hG hK 0 master p ht (bodyZ c) hp hm (by omega) (bodyZ_ne c) _ rfl hh) ?_; rintro _ _ ⟨rfl, rfl⟩)
  | (refine ao1' rfl fun K HK => ?_; simp only [go_sem, ↓reduceIte, Nat.reduceEqDiff, Nat.reduceAdd, Nat.reduceLeDiff, Nat.reduceBEq, Nat.reduceMul, Int.reduceEq, Int.reduceLT, Int.reduceLE, decide_true, decide_false, Bool.not_true, Bool.not_false, cmdX_eq]; refine HK _ _ ?_; clear HK K)
  | refine ao0' rfl ?_
  | refine aw_if1 rfl ?_
  | refine aw_if0 rfl ?_
  | refine aw_skip ?_
  | refine aw_exit ?_
  | refine aw_ret ?_
  | refine thenS_n ?_
  | refine thenS_x ?_
  | refine thenS_r ?_
  | refine inB_n ?_
  | refine inB_r ?_
  | refine inB_x ?_
  | refine inB_y rfl ?_
  | (exfalso; omega)
 exact ⟨.inr rfl, endX [.agg (cmdX { c with tag := signZ master p 0 (bodyZ c) }), .v (.int .i64 0)] [modOb master p ht] [.cells (cmdX { c with tag := signZ master p 0 (bodyZ c) }), .cells (cmdX { c with tag := signZ master p 0 (bodyZ c) })] (.tup [.agg (cmdX { c with tag := signZ master p 0 (bodyZ c) }), .v (.int .i64 0)]) rfl rfl (Nat.le_refl _) (low_M1 _ _ _ _) (by rw [low, lowL, lowL, lowL]; exact ⟨low_agg _ _, by rw [low]; trivial, trivial⟩) rfl ⟨rfl, rfl⟩⟩
theorem cSignRead0 (master : List UInt8) (p ht n : Int) (hp : I64 p) (hp2 : I64 (p - 16)) (hn : I64 n) (hm : master.length ≤ 1000000) (hh : ht ≤ 0) : Does Tryz.prog G 28 [modOb master p ht] [.ptr 0 0, .v (.int .i64 n)] (fun h' r => h' = [modOb master p ht] ∧ r = .tup [.agg [.v (.int .i64 (p - 16)), .v (.int .i64 n), .sl 1 (byD (signZ master p 0 (readBodyZ (p - 16) n)))], .v (.int .i64 0)]) := by
 have hl := readBodyZ_len hp2 hn
 have wp : IntKind.i64.wrap (p - 16) = p - 16 := IntWalk.i64_in _ hp2
 refine does_of_aw Tryz.func28 rfl (Nat.le_of_ble_eq_true rfl) hG fun hl0 _ => ?_
 simp only [Tryz.ntmps28]
 repeat' first
  | refine aw_seq' ?_
  | refine aw_region' ?_
  | refine aw_block ?_
  | refine ao_nil ?_
  | (refine ao1 rfl rfl fun K HK => ?_; (try refine aOp_pick rfl ?_); simp only [go_sem, ↓reduceIte, Nat.reduceEqDiff, Nat.reduceAdd, Nat.reduceLeDiff, Nat.reduceBEq, Nat.reduceMul, Int.reduceEq, Int.reduceLT, Int.reduceLE, decide_true, decide_false, Bool.not_true, Bool.not_false, wp]; (first | refine splitB (fun hq => ?_) (fun hq => ?_) | refine splitN (fun hq => ?_) (fun hq => ?_) | (refine slc_sl (by simp only [go_sem]) rfl rfl (by first | omega | simp) (by first | omega | simp) (by simp only [go_sem]; omega) ?_) | (refine ⟨by omega, by omega, ?_⟩; first | refine row_at (by assumption) ?_ | (intro row hrow; obtain ⟨x, hx, rfl⟩ := row_inv hrow; clear hrow) | (intro row hrow)) | (refine ⟨by omega, ?_⟩; refine row_at (by assumption) ?_) | skip) <;> (refine HK _ _ ?_; clear HK K))
  | (refine aq1 rfl rfl fun K HK => ?_; (try refine aOp_pick rfl ?_); simp only [go_sem, ↓reduceIte, Nat.reduceEqDiff, Nat.reduceAdd, Nat.reduceLeDiff, Nat.reduceBEq, Nat.reduceMul, Int.reduceEq, Int.reduceLT, Int.reduceLE, decide_true, decide_false, Bool.not_true, Bool.not_false, wp]; (first | refine splitB (fun hq => ?_) (fun hq => ?_) | refine splitN (fun hq => ?_) (fun hq => ?_) | (refine slc_sl (by simp only [go_sem]) rfl rfl (by first | omega | simp) (by first | omega | simp) (by simp only [go_sem]; omega) ?_) | (refine ⟨by omega, by omega, ?_⟩; first | refine row_at (by assumption) ?_ | (intro row hrow; obtain ⟨x, hx, rfl⟩ := row_inv hrow; clear hrow) | (intro row hrow)) | (refine ⟨by omega, ?_⟩; refine row_at (by assumption) ?_) | skip) <;> (refine HK _ _ rfl ?_; clear HK K))
  | refine aq0 rfl rfl ?_
  | refine aq_nil ?_
  | (refine aw_draw mixd (by kernel_rfl) ?_)
  | refine ao_appB rfl rfl rfl rfl (by first | assumption | (simp only [go_sem, ↓reduceIte, Nat.reduceEqDiff, Nat.reduceAdd, Nat.reduceLeDiff, Nat.reduceBEq, Nat.reduceMul, Int.reduceEq, Int.reduceLT, Int.reduceLE, decide_true, decide_false, Bool.not_true, Bool.not_false, wp]; rfl) | (simp only [go_sem, ↓reduceIte, Nat.reduceEqDiff, Nat.reduceAdd, Nat.reduceLeDiff, Nat.reduceBEq, Nat.reduceMul, Int.reduceEq, Int.reduceLT, Int.reduceLE, decide_true, decide_false, Bool.not_true, Bool.not_false, wp]; done)) (by simp) (by simp only [go_sem]; rfl) (by first | assumption | (simp only [go_sem, ↓reduceIte, Nat.reduceEqDiff, Nat.reduceAdd, Nat.reduceLeDiff, Nat.reduceBEq, Nat.reduceMul, Int.reduceEq, Int.reduceLT, Int.reduceLE, decide_true, decide_false, Bool.not_true, Bool.not_false, wp]; rfl) | (simp only [go_sem, ↓reduceIte, Nat.reduceEqDiff, Nat.reduceAdd, Nat.reduceLeDiff, Nat.reduceBEq, Nat.reduceMul, Int.reduceEq, Int.reduceLT, Int.reduceLE, decide_true, decide_false, Bool.not_true, Bool.not_false, wp]; done)) (by simp) (by first | assumption | exact rowsOk_nil _ | exact rowsOk_by _ | (rw [byD_cut]; exact rowsOk_by _) | (simp [rowsOk, D.one, Value.oneCell']; done)) (by first | omega | (simp; done) | (simp; omega) | (simp [byD]; omega)) ?_
  | refine ao_appNB rfl rfl rfl rfl (by simp only [go_sem]; rfl) (by first | assumption | (simp only [go_sem, ↓reduceIte, Nat.reduceEqDiff, Nat.reduceAdd, Nat.reduceLeDiff, Nat.reduceBEq, Nat.reduceMul, Int.reduceEq, Int.reduceLT, Int.reduceLE, decide_true, decide_false, Bool.not_true, Bool.not_false, wp]; rfl) | (simp only [go_sem, ↓reduceIte, Nat.reduceEqDiff, Nat.reduceAdd, Nat.reduceLeDiff, Nat.reduceBEq, Nat.reduceMul, Int.reduceEq, Int.reduceLT, Int.reduceLE, decide_true, decide_false, Bool.not_true, Bool.not_false, wp]; done)) (by simp) (by first | assumption | exact rowsOk_nil _ | exact rowsOk_by _ | (rw [byD_cut]; exact rowsOk_by _) | (simp [rowsOk, D.one, Value.oneCell']; done)) (by first | omega | (simp; done) | (simp; omega) | (simp [byD]; omega)) ?_
  | refine ao_appR rfl rfl rfl (by first | assumption | (simp only [go_sem, ↓reduceIte, Nat.reduceEqDiff, Nat.reduceAdd, Nat.reduceLeDiff, Nat.reduceBEq, Nat.reduceMul, Int.reduceEq, Int.reduceLT, Int.reduceLE, decide_true, decide_false, Bool.not_true, Bool.not_false, wp]; rfl) | (simp only [go_sem, ↓reduceIte, Nat.reduceEqDiff, Nat.reduceAdd, Nat.reduceLeDiff, Nat.reduceBEq, Nat.reduceMul, Int.reduceEq, Int.reduceLT, Int.reduceLE, decide_true, decide_false, Bool.not_true, Bool.not_false, wp]; done)) (by simp) (by simp only [go_sem]; rfl) rfl (by first | assumption | exact rowsOk_nil _ | exact rowsOk_by _ | (rw [byD_cut]; exact rowsOk_by _) | (simp [rowsOk, D.one, Value.oneCell']; done)) (by first | omega | (simp; done) | (simp; omega) | (simp [byD]; omega)) ?_
  | refine ao_appNR rfl rfl rfl (by simp only [go_sem]; rfl) rfl (by first | assumption | exact rowsOk_nil _ | exact rowsOk_by _ | (rw [byD_cut]; exact rowsOk_by _) | (simp [rowsOk, D.one, Value.oneCell']; done)) (by first | omega | (simp; done) | (simp; omega) | (simp [byD]; omega)) ?_
  | refine ao0 rfl rfl ?_
  | refine aq2 rfl rfl rfl ent_71 (mProcess_d G hG 0 master p ht _ rfl) ?_
  | (refine ao2 rfl rfl rfl ent_71 (mProcess_d G hG 0 master p ht _ rfl) ?_; rintro _ _ ⟨rfl, rfl⟩)
  | refine aq2 rfl rfl rfl ent_73 (readBody_d G hG (p - 16) n hp2 hn _) ?_
  | (refine ao2 rfl rfl rfl ent_73 (readBody_d G hG (p - 16) n hp2 hn _) ?_; rintro _ _ ⟨rfl, rfl⟩)
  | refine aq2 rfl rfl rfl ent_72 (mSign_d G hG hK 0 master p ht (readBodyZ (p - 16) n) hp hm (by omega) (readBodyZ_ne _ _) _ rfl hh) ?_
  | (refine ao2 rfl rfl rfl ent_72 (mSign_d G hG hK 0 master p ht (readBodyZ (p - 16) n) hp hm (by omega) (readBodyZ_ne _ _) _ rfl hh) ?_; rintro _ _ ⟨rfl, rfl⟩)
  | (refine ao1' rfl fun K HK => ?_; simp only [go_sem, ↓reduceIte, Nat.reduceEqDiff, Nat.reduceAdd, Nat.reduceLeDiff, Nat.reduceBEq, Nat.reduceMul, Int.reduceEq, Int.reduceLT, Int.reduceLE, decide_true, decide_false, Bool.not_true, Bool.not_false, wp]; refine HK _ _ ?_; clear HK K)
  | refine ao0' rfl ?_
  | refine aw_if1 rfl ?_
  | refine aw_if0 rfl ?_
  | refine aw_skip ?_
  | refine aw_exit ?_
  | refine aw_ret ?_
  | refine thenS_n ?_
  | refine thenS_x ?_
  | refine thenS_r ?_
  | refine inB_n ?_
  | refine inB_r ?_
  | refine inB_x ?_
  | refine inB_y rfl ?_
  | (exfalso; omega)
 exact ⟨.inr rfl, endX [.agg [.v (.int .i64 (p - 16)), .v (.int .i64 n), .sl 1 (byD (signZ master p 0 (readBodyZ (p - 16) n)))], .v (.int .i64 0)] [modOb master p ht] [_] (.tup [.agg [.v (.int .i64 (p - 16)), .v (.int .i64 n), .sl 1 (byD (signZ master p 0 (readBodyZ (p - 16) n)))], .v (.int .i64 0)]) rfl rfl (Nat.le_refl _) (low_M1 _ _ _ _) (by simp only [low, lowL]; exact ⟨⟨trivial, trivial, by have := low_by 1 (signZ master p 0 (readBodyZ (p - 16) n)); rwa [low] at this, trivial⟩, trivial, trivial⟩) rfl ⟨rfl, rfl⟩⟩
end
end Go.Proofs.YtgkjcmglcnhpaaaGreatDoor
