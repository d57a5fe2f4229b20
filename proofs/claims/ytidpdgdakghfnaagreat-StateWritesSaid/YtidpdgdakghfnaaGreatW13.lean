/-
  What the statements of the chapter share, part 13: WR1, WR2, WR3, RB0, CL0, CL2, OF0, RB1.
-/
import Derived.Test.YtidpdgdakghfnaaGreatW09
import Derived.Test.YtidpdgdakghfnaaGreatW11
import Derived.Test.YtidpdgdakghfnaaGreatW12
import Derived.Laws.BitsAllLaws
import Derived.Lib.Zigzag
set_option linter.unusedVariables false
set_option linter.unusedSimpArgs false
set_option maxRecDepth 100000
set_option maxHeartbeats 8000000
namespace Go.Proofs.YtidpdgdakghfnaaGreat
open Go.RowKit
section
set_option maxRecDepth 100000
set_option maxHeartbeats 1000000
attribute [local irreducible] on aOp
attribute [local go_sem] decide_true decide_false Bool.not_true Bool.not_false
attribute [local simp] byD_len
variable (G : Nat → D) (hG : ∀ g, low 0 (G g))
def wG (n : Nat) (rows : List (List D)) (T : List Ob) : List Ob := .cells [.buf 1 n] :: .buf 5 1 rows :: T
def wH (l : List UInt8) : List Ob := wG l.length (byD l) []
theorem wH_eq (l : List UInt8) : wH l = wG l.length (byD l) [] := rfl
section
variable {n m : Nat} {rows r2 : List (List D)} {T l : List Ob}
theorem wG_0 : (wG n rows T)[0]? = some (.cells [.buf 1 n]) := rfl
theorem wG_1 : (wG n rows T)[1]? = some (.buf 5 1 rows) := rfl
theorem wG_s0 : (wG n rows T).set 0 (.cells [.buf 1 m]) = wG m rows T := rfl
theorem wG_s1 : (wG n rows T).set 1 (.buf 5 1 r2) = wG n r2 T := rfl
theorem wG_a0 : (wG n rows T ++ l)[0]? = some (.cells [.buf 1 n]) := rfl
theorem wG_a1 : (wG n rows T ++ l)[1]? = some (.buf 5 1 rows) := rfl
theorem wG_b0 : (wG n rows T ++ l).set 0 (.cells [.buf 1 m]) = wG m rows (T ++ l) := rfl
theorem wG_b1 : (wG n rows T ++ l).set 1 (.buf 5 1 r2) = wG n r2 (T ++ l) := rfl
end
theorem wG_eq {a b : Nat} {x y : List (List D)} (T : List Ob) (h : a = b) (k : x = y) : wG a x T = wG b y T := by rw [h, k]
theorem wG_low' (l l2 : List UInt8) : lowH (wH l).length (wH l2) := by
 intro x hx
 unfold wH wG at hx
 have : (wH l).length = 2 := rfl
 rw [this]
 simp at hx
 rcases hx with rfl | rfl
 · simp [lowOb, lowL, low]
 · exact low_by 2 l2
theorem endW {res : Array ResultVar} {K : List Ob → D → Prop} {l l2 : List UInt8} {n : Nat} {rows : List (List D)} {T : List Ob} {s : S} (h1 : resD Tryz.prog s res.toList = some []) (h2 : s.h = wG n rows T) (h3 : n = l2.length) (h4 : rows = byD l2) (hK : K (wH l2) (.tup [])) : EndD Tryz.prog res (wH l).length K s := by
 subst h3 h4
 have e : s.h.take (wH l).length = wH l2 := by rw [h2]; rfl
 refine ⟨[], _, h1, Nat.le_refl _, by rw [h2]; exact Nat.le_add_left 2 T.length, by rw [e]; exact wG_low' l l2, ?_, ?_⟩
 · simp [outD, cvD, low, lowL]
 · rw [e]; simpa [outD, cvD] using hK
theorem or_byte : ∀ m : Fin 256, IntKind.u8.wrap ((BitVec.ofInt 8 (m.val : Int) ||| BitVec.ofInt 8 128).toNat : Int) = ((m.val % 128 + 128 : Nat) : Int) := by decide +kernel
theorem u8_wrap (m : Nat) : IntKind.u8.wrap (m : Int) = ((m % 256 : Nat) : Int) := by simp [IntKind.wrap, IntKind.bits, IntKind.signed]
theorem byte_lo (m : Nat) (h : m < 256) : ((UInt8.ofNat m).toNat : Int) = (m : Int) := by simp; omega
theorem byte_hi (m : Nat) : IntKind.u8.wrap ((BitVec.ofInt 8 (IntKind.u8.wrap (m : Int)) ||| BitVec.ofInt 8 128).toNat : Int) = ((UInt8.ofNat (m % 128 + 128)).toNat : Int) := by
 have h := or_byte ⟨m % 256, Nat.mod_lt _ (by omega)⟩
 rw [u8_wrap m, byte_lo _ (by omega)]
 refine h.trans ?_
 show ((m % 256 % 128 + 128 : Nat) : Int) = _
 omega
theorem byD_one (l : List UInt8) (b : UInt8) {z : Int} (h : z = (b.toNat : Int)) : byD l ++ [[.v (.int .u8 z)]] = byD (l ++ [b]) := by subst h; simp [byD]
theorem fdiv128 (m : Nat) : (m : Int).fdiv (2 ^ min (Int.toNat 7) 64) = ((m / 128 : Nat) : Int) := by
 rw [show (2 : Int) ^ min (Int.toNat 7) 64 = 128 by decide, Int.fdiv_eq_ediv_of_nonneg _ (by omega)]; omega
include hG
theorem wUint_d (l : List UInt8) (n : Nat) (hn : n < 18446744073709551616) (hl : l.length ≤ 100000000) :
 Does Tryz.prog G 190 (wH l) [.ptr 0 0, .v (.int .u64 n)] (fun h' r => h' = wH (l ++ uintE n) ∧ r = .tup []) := by
 refine does_of_aw Tryz.func190 rfl (Nat.le_of_ble_eq_true rfl) hG fun hl0 _ => ?_
 simp only [Tryz.ntmps190]
 repeat' first
  | refine aw_seq' ?_
  | refine aw_block ?_
 refine aw_for (fun m e h' => ∃ (k : Nat) (cur : List UInt8) (T : List Ob), m = k ∧ k < 18446744073709551616 ∧ cur ++ uintE k = l ++ uintE n ∧ h' = wG cur.length (byD cur) T ∧ e 0 = .ptr 0 0 ∧ e 1 = .v (.int .u64 k)) n ⟨n, l, [], rfl, hn, rfl, rfl, rfl, rfl⟩ ?_
 rintro m e h' ⟨k, cur, T, rfl, hk, hE, rfl, e0, e1⟩
 have hc : cur.length ≤ 100000010 := by
  have h1 := congrArg List.length hE
  rw [List.length_append, List.length_append] at h1
  have := (uintE_len10 n hn).1
  omega
 repeat' first
  | refine aw_seq' ?_
  | refine aw_region' ?_
  | refine aw_block ?_
  | refine ao_nil ?_
  | (refine ao1 rfl rfl fun K HK => ?_; simp only [go_sem, ↓reduceIte, Nat.reduceEqDiff, Nat.reduceAdd, Nat.reduceLeDiff, Nat.reduceBEq, Nat.reduceMul, Int.reduceEq, Int.reduceLT, Int.reduceLE, e0, e1, wG_0, wG_1, wG_s0, wG_s1, wG_a0, wG_a1, wG_b0, wG_b1]; (first | refine splitB (fun hq => ?_) (fun hq => ?_) | skip) <;> (refine HK _ _ ?_; clear HK K))
  | refine ao_appB rfl rfl rfl rfl (by (simp only [go_sem, ↓reduceIte, Nat.reduceEqDiff, Nat.reduceAdd, Nat.reduceLeDiff, Nat.reduceBEq, Nat.reduceMul, Int.reduceEq, Int.reduceLT, Int.reduceLE, e0, e1, wG_0, wG_1, wG_s0, wG_s1, wG_a0, wG_a1, wG_b0, wG_b1]; rfl)) (by simp) (by simp only [go_sem]; rfl) (by (simp only [go_sem, ↓reduceIte, Nat.reduceEqDiff, Nat.reduceAdd, Nat.reduceLeDiff, Nat.reduceBEq, Nat.reduceMul, Int.reduceEq, Int.reduceLT, Int.reduceLE, e0, e1, wG_0, wG_1, wG_s0, wG_s1, wG_a0, wG_a1, wG_b0, wG_b1]; rfl)) (by simp) (by (simp [rowsOk, D.one, Value.oneCell']; done)) (by (simp; omega)) ?_
  | (refine ao1' rfl fun K HK => ?_; simp only [go_sem, ↓reduceIte, Nat.reduceEqDiff, Nat.reduceAdd, Nat.reduceLeDiff, Nat.reduceBEq, Nat.reduceMul, Int.reduceEq, Int.reduceLT, Int.reduceLE, e0, e1, wG_0, wG_1, wG_s0, wG_s1, wG_a0, wG_a1, wG_b0, wG_b1]; refine HK _ _ ?_; clear HK K)
  | refine aw_if1 rfl ?_
  | refine aw_if0 rfl ?_
  | refine aw_skip ?_
  | refine aw_exit ?_
  | refine thenS_n ?_
 · have e4 := fun T' => wG_eq T' (show cur.length + 1 = (cur ++ [UInt8.ofNat (m % 128 + 128)]).length by simp) (byD_one cur _ (byte_hi m))
   refine ⟨rfl, m / 128, by omega, m / 128, cur ++ [UInt8.ofNat (m % 128 + 128)], _, rfl, by omega, ?_, e4 _, ?_, ?_⟩
   · rw [List.append_assoc, ← hE, uintE_ge (n := m) (by omega)]; rfl
   · simp [upd, e0]
   · simp only [upd, fdiv128]; rfl
 · refine ⟨.inl rfl, endW (l2 := l ++ uintE n) rfl rfl ?_ ?_ ⟨rfl, rfl⟩⟩
   · rw [← hE, uintE_lt (by omega)]; simp
   · rw [← hE, uintE_lt (by omega), byD_one _ (UInt8.ofNat m)]
     rw [u8_wrap, byte_lo _ (by omega)]; omega
omit hG
theorem zz_pos (n : Int) (h0 : 0 ≤ n) (h2 : n ≤ 9223372036854775807) : bits .xor .u64 (n * 2) (n / 9223372036854775808) = ((zz n : Nat) : Int) := by
 have e : n / 9223372036854775808 = 0 := by omega
 rw [e, u64_xor (n * 2) 0 (by omega) (by omega) (by omega) (by omega)]
 unfold zz
 rw [if_pos h0]
 simp
 omega
theorem xor_ones (b : Nat) (hb : b < 2 ^ 64) : b ^^^ (2 ^ 64 - 1) = 2 ^ 64 - 1 - b := by rw [Nat.xor_comm]; exact Lib.xor_ones64 b hb
theorem zz_neg (n : Int) (h1 : -9223372036854775808 ≤ n) (h0 : ¬ 0 ≤ n) : bits .xor .u64 (IntKind.u64.wrap (IntKind.u64.wrap n * 2)) (IntKind.u64.wrap (n / 9223372036854775808)) = ((zz n : Nat) : Int) := by
 have e0 : IntKind.u64.wrap n = n + 18446744073709551616 := by rw [IntKind.wrap_u64]; omega
 have e1 : IntKind.u64.wrap (IntKind.u64.wrap n * 2) = 2 * n + 18446744073709551616 := by rw [e0, IntKind.wrap_u64]; omega
 have e2 : IntKind.u64.wrap (n / 9223372036854775808) = 18446744073709551615 := by
  have : n / 9223372036854775808 = -1 := by omega
  rw [this, IntKind.wrap_u64]; rfl
 rw [e1, e2, u64_xor _ _ (by omega) (by omega) (by omega) (by omega)]
 have e3 : (18446744073709551615 : Int).toNat = 2 ^ 64 - 1 := rfl
 rw [e3, xor_ones _ (by omega)]
 unfold zz
 rw [if_neg h0]
 omega
theorem zzE {n : Int} (hn : I64 n) : IntKind.u64.wrap ((BitVec.ofInt 64 (IntKind.u64.wrap (IntKind.u64.wrap n * 2 ^ min (Int.toNat 1) 64)) ^^^ BitVec.ofInt 64 (IntKind.u64.wrap (n.fdiv (2 ^ min (Int.toNat 63) 64)))).toNat : Int) = ((zz n : Nat) : Int) := by
 obtain ⟨h1, h2⟩ := hn
 have e1 : (2 : Int) ^ min (Int.toNat 1) 64 = 2 := by decide
 have e2 : n.fdiv (2 ^ min (Int.toNat 63) 64) = n / 9223372036854775808 := by
  rw [show (2 : Int) ^ min (Int.toNat 63) 64 = 9223372036854775808 by decide, Int.fdiv_eq_ediv_of_nonneg _ (by omega)]
 rw [e1, e2]
 by_cases h0 : 0 ≤ n
 · have w1 : IntKind.u64.wrap n = n := by rw [IntKind.wrap_u64]; omega
   have w2 : IntKind.u64.wrap (n * 2) = n * 2 := by rw [IntKind.wrap_u64]; omega
   have w3 : IntKind.u64.wrap (n / 9223372036854775808) = n / 9223372036854775808 := by rw [IntKind.wrap_u64]; omega
   rw [w1, w2, w3]
   exact zz_pos n h0 h2
 · exact zz_neg n h1 h0
theorem lenU {a : Nat} (h : a ≤ 100000000) : IntKind.u64.wrap (a : Int) = (a : Int) := by rw [IntKind.wrap_u64]; omega
include hG
theorem wUint_z {l : List UInt8} {n : Nat} {Z : Int} (hz : Z = (n : Int)) (hn : n < 18446744073709551616) (hl : l.length ≤ 100000000) :
 Does Tryz.prog G 190 (wH l) [.ptr 0 0, .v (.int .u64 Z)] (fun h' r => h' = wH (l ++ uintE n) ∧ r = .tup []) := hz ▸ wUint_d G hG l n hn hl
theorem wInt_d (l : List UInt8) (n : Int) (hn : I64 n) (hl : l.length ≤ 100000000) :
 Does Tryz.prog G 189 (wH l) [.ptr 0 0, .v (.int .i64 n)] (fun h' r => h' = wH (l ++ intE n) ∧ r = .tup []) := by
 refine does_of_aw Tryz.func189 rfl (Nat.le_of_ble_eq_true rfl) hG fun hl0 _ => ?_
 simp only [Tryz.ntmps189]
 repeat' first
  | refine aw_region' ?_
  | refine ao_nil ?_
  | (refine ao1 rfl rfl fun K HK => ?_; simp only [go_sem, ↓reduceIte, Nat.reduceEqDiff, Nat.reduceAdd, Nat.reduceLeDiff, Nat.reduceBEq, Nat.reduceMul, Int.reduceEq, Int.reduceLT, Int.reduceLE] <;> (refine HK _ _ ?_; clear HK K))
  | (refine ao2 rfl rfl rfl ent_190 (wUint_z G hG (zzE hn) (zz_lt n hn.1 hn.2) hl) ?_; rintro _ _ ⟨rfl, rfl⟩)
 exact ⟨.inl rfl, endW (l2 := l ++ intE n) rfl rfl rfl rfl ⟨rfl, rfl⟩⟩
theorem wText_d (l : List UInt8) (s : ByteArray) (hs : s.size ≤ 10000000) (hl : l.length ≤ 80000000) :
 Does Tryz.prog G 191 (wH l) [.ptr 0 0, .v (.string s)] (fun h' r => h' = wH (l ++ textE s) ∧ r = .tup []) := by
 have hu := (uintE_len10 s.size (by omega)).1
 refine does_of_aw Tryz.func191 rfl (Nat.le_of_ble_eq_true rfl) hG fun hl0 _ => ?_
 simp only [Tryz.ntmps191]
 repeat' first
  | refine aw_seq' ?_
  | refine aw_region' ?_
  | refine ao_nil ?_
  | (refine ao1 rfl rfl fun K HK => ?_; simp only [go_sem, ↓reduceIte, Nat.reduceEqDiff, Nat.reduceAdd, Nat.reduceLeDiff, Nat.reduceBEq, Nat.reduceMul, Int.reduceEq, Int.reduceLT, Int.reduceLE, wH_eq, wG_0, wG_1, wG_s0, wG_s1, wG_a0, wG_a1, wG_b0, wG_b1, lenU (a := s.size) (by omega)] <;> (refine HK _ _ ?_; clear HK K))
  | refine ao_appR rfl rfl rfl (by (simp only [go_sem, ↓reduceIte, Nat.reduceEqDiff, Nat.reduceAdd, Nat.reduceLeDiff, Nat.reduceBEq, Nat.reduceMul, Int.reduceEq, Int.reduceLT, Int.reduceLE, wH_eq, wG_0, wG_1, wG_s0, wG_s1, wG_a0, wG_a1, wG_b0, wG_b1, lenU (a := s.size) (by omega)]; rfl)) (by simp) (by simp only [go_sem]; rfl) rfl (by exact rowsOk_by _) (by (simp; omega)) ?_
  | (refine ao2 rfl rfl rfl ent_190 (wUint_d G hG l _ (by omega) (by omega)) ?_; rintro _ _ ⟨rfl, rfl⟩)
  | (refine ao1' rfl fun K HK => ?_; simp only [go_sem, ↓reduceIte, Nat.reduceEqDiff, Nat.reduceAdd, Nat.reduceLeDiff, Nat.reduceBEq, Nat.reduceMul, Int.reduceEq, Int.reduceLT, Int.reduceLE, wH_eq, wG_0, wG_1, wG_s0, wG_s1, wG_a0, wG_a1, wG_b0, wG_b1, lenU (a := s.size) (by omega)]; refine HK _ _ ?_; clear HK K)
 exact ⟨.inl rfl, endW (l2 := l ++ textE s) rfl rfl (by simp [textE]; try omega) (by rw [byD_app, List.append_assoc]; rfl) ⟨rfl, rfl⟩⟩
theorem wBytes_d (l b : List UInt8) (hs : b.length ≤ 10000000) (hl : l.length ≤ 80000000) :
 Does Tryz.prog G 135 (wH l) [.ptr 0 0, .sl 1 (byD b)] (fun h' r => h' = wH (l ++ bytesE b) ∧ r = .tup []) := by
 have hu := (uintE_len10 b.length (by omega)).1
 refine does_of_aw Tryz.func135 rfl (Nat.le_of_ble_eq_true rfl) hG fun hl0 _ => ?_
 simp only [Tryz.ntmps135]
 repeat' first
  | refine aw_seq' ?_
  | refine aw_region' ?_
  | refine ao_nil ?_
  | (refine ao1 rfl rfl fun K HK => ?_; simp only [go_sem, ↓reduceIte, Nat.reduceEqDiff, Nat.reduceAdd, Nat.reduceLeDiff, Nat.reduceBEq, Nat.reduceMul, Int.reduceEq, Int.reduceLT, Int.reduceLE, wH_eq, wG_0, wG_1, wG_s0, wG_s1, wG_a0, wG_a1, wG_b0, wG_b1, byD_len, lenU (a := b.length) (by omega)] <;> (refine HK _ _ ?_; clear HK K))
  | refine ao_appR rfl rfl rfl (by (simp only [go_sem, ↓reduceIte, Nat.reduceEqDiff, Nat.reduceAdd, Nat.reduceLeDiff, Nat.reduceBEq, Nat.reduceMul, Int.reduceEq, Int.reduceLT, Int.reduceLE, wH_eq, wG_0, wG_1, wG_s0, wG_s1, wG_a0, wG_a1, wG_b0, wG_b1, byD_len, lenU (a := b.length) (by omega)]; rfl)) (by simp) (by simp only [go_sem]; rfl) rfl (by exact rowsOk_by _) (by (simp; omega)) ?_
  | (refine ao2 rfl rfl rfl ent_190 (wUint_d G hG l _ (by omega) (by omega)) ?_; rintro _ _ ⟨rfl, rfl⟩)
  | (refine ao1' rfl fun K HK => ?_; simp only [go_sem, ↓reduceIte, Nat.reduceEqDiff, Nat.reduceAdd, Nat.reduceLeDiff, Nat.reduceBEq, Nat.reduceMul, Int.reduceEq, Int.reduceLT, Int.reduceLE, wH_eq, wG_0, wG_1, wG_s0, wG_s1, wG_a0, wG_a1, wG_b0, wG_b1, byD_len, lenU (a := b.length) (by omega)]; refine HK _ _ ?_; clear HK K)
 exact ⟨.inl rfl, endW (l2 := l ++ bytesE b) rfl rfl (by simp [bytesE]; try omega) (by rw [byD_app, List.append_assoc]; rfl) ⟨rfl, rfl⟩⟩
theorem wData_d (l : List UInt8) (hl : l.length ≤ 100000000) :
 Does Tryz.prog G 136 (wH l) [.ptr 0 0] (fun h' r => h' = wH l ∧ r = .sl 1 (byD l)) := by
 refine does_of_aw Tryz.func136 rfl (Nat.le_of_ble_eq_true rfl) hG fun hl0 _ => ?_
 simp only [Tryz.ntmps136]
 repeat' first
  | refine aw_seq' ?_
  | refine aw_region' ?_
  | refine ao_nil ?_
  | (refine ao1 rfl rfl fun K HK => ?_; simp only [go_sem, ↓reduceIte, Nat.reduceEqDiff, Nat.reduceAdd, Nat.reduceLeDiff, Nat.reduceBEq, Nat.reduceMul, Int.reduceEq, Int.reduceLT, Int.reduceLE, wH_eq, wG_0, wG_1, wG_s0, wG_s1, wG_a0, wG_a1, wG_b0, wG_b1] <;> (refine HK _ _ ?_; clear HK K))
  | refine ao_appB rfl rfl rfl rfl (by (simp only [go_sem, ↓reduceIte, Nat.reduceEqDiff, Nat.reduceAdd, Nat.reduceLeDiff, Nat.reduceBEq, Nat.reduceMul, Int.reduceEq, Int.reduceLT, Int.reduceLE, wH_eq, wG_0, wG_1, wG_s0, wG_s1, wG_a0, wG_a1, wG_b0, wG_b1]; rfl)) (by simp) (by simp only [go_sem]; rfl) (by (simp only [go_sem, ↓reduceIte, Nat.reduceEqDiff, Nat.reduceAdd, Nat.reduceLeDiff, Nat.reduceBEq, Nat.reduceMul, Int.reduceEq, Int.reduceLT, Int.reduceLE, wH_eq, wG_0, wG_1, wG_s0, wG_s1, wG_a0, wG_a1, wG_b0, wG_b1]; rfl)) (by simp) (by exact rowsOk_by _) (by (simp; omega)) ?_
  | refine aw_ret ?_
 have e : ((wG l.length (byD l) [] ++ [Ob.buf 5 1 (byD l)]).take (wH l).length) = wH l := rfl
 refine ⟨.inr rfl, [.buf 2 l.length], 2, rfl, Nat.le_refl _, by simp [wG], ?_, ?_, ?_⟩
 · show lowH 2 ((wG l.length (byD l) [] ++ [Ob.buf 5 1 (byD l)]).take (wH l).length)
   rw [e]; exact hl0
 · simp [outD, cvD, cv1, wG, low_by]
 · refine ⟨e, ?_⟩
   simp [outD, cvD, cv1, wG]
end
section
set_option maxRecDepth 100000
set_option maxHeartbeats 1000000
attribute [local irreducible] on aOp
attribute [local go_sem] decide_true decide_false Bool.not_true Bool.not_false
attribute [local simp] byD_len
theorem renR_by (π : Nat → Nat) (l : List UInt8) : renR π (byD l) = byD l := by
 have := ren_low0 π (.sl 1 (byD l)) (low_by 0 l)
 rw [ren] at this
 exact (D.sl.inj this).2
variable (G : Nat → D) (hG : ∀ g, low 0 (G g))
include hG
theorem w_at {l l2 : List UInt8} {f : FuncId} {xs : List D} {r0 : D} (lx : lowL 0 xs) (lr : low 0 r0) (q : Does Tryz.prog G f (wH l) (.ptr 0 0 :: xs) (fun h' r => h' = wH l2 ∧ r = r0)) {h : List Ob} {i j : Nat} (hi : h[i]? = some (.cells [.buf j l.length])) (hj : h[j]? = some (.buf 5 1 (byD l))) :
 Does Tryz.prog G f h (.ptr i 0 :: xs) (fun h' r => h' = (h.set i (.cells [.buf j l2.length])).set j (.buf 5 1 (byD l2)) ∧ r = r0) := by
 have hij : i ≠ j := fun e => by subst e; rw [hi] at hj; cases hj
 have L : Lies (fun k => if k = 0 then i else j) (wH l) h := by
  refine ⟨fun k ob hk => ?_, fun a b ha hb hab => ?_, wG_low' l l⟩
  · rcases k with _ | _ | k
    · cases hk; simp only [renOb, renL, ren]; simpa using hi
    · cases hk; simp only [renOb, renR_by]; simpa using hj
    · cases hk
  · have ha : a < 2 := ha
    have hb : b < 2 := hb
    have hab : (if a = 0 then i else j) = (if b = 0 then i else j) := hab
    split at hab <;> split at hab <;> omega
 have F := Does.frame hG L (args := .ptr 0 0 :: xs) (by rw [lowL, low]; exact ⟨Nat.zero_lt_succ _, lowL_mono (Nat.zero_le _) _ lx⟩) (K1 := fun h' r => h' = wH l2 ∧ r = r0) (by
  rintro _ _ ⟨rfl, _⟩
  refine ⟨fun a b ha hb hab => ?_, fun k h1 h2 => ?_⟩
  · have ha : a < 2 := ha
    have hb : b < 2 := hb
    have hab : (if a = 0 then i else j) = (if b = 0 then i else j) := hab
    split at hab <;> split at hab <;> omega
  · have h1 : 2 ≤ k := h1
    have h2 : k < 2 := h2
    omega) q
 rw [renL, ren, renL_low0 _ _ lx] at F
 refine F.mono ?_
 rintro _ _ ⟨_, _, ⟨rfl, rfl⟩, rfl, rfl⟩
 refine ⟨?_, ren_low0 _ _ lr⟩
 simp only [wH, wG, List.map_cons, List.map_nil, plc, renOb, renL, ren, renR_by]
 rfl
theorem w_tail {l l2 : List UInt8} {f : FuncId} {xs : List D} {r0 : D} (lx : lowL 0 xs) (lr : low 0 r0) (q : Does Tryz.prog G f (wH l) (.ptr 0 0 :: xs) (fun h' r => h' = wH l2 ∧ r = r0)) {n : Nat} {T : List Ob} (hn : n = l.length) :
 Does Tryz.prog G f (wG n (byD l) T) (.ptr 0 0 :: xs) (fun h' r => h' = wG l2.length (byD l2) T ∧ r = r0) := by
 subst hn
 exact w_at G hG lx lr q (i := 0) (j := 1) rfl rfl
omit hG
structure Cmd where
 client : Int
 seq : Int
 kind : Int
 writes : List (ByteArray × List UInt8)
 replica : Int
 tag : List UInt8
def wrX (x : ByteArray × List UInt8) : List D := [.v (.string x.1), .sl 1 (byD x.2)]
def cmdX (c : Cmd) : List D := [.v (.int .i64 c.client), .v (.int .i64 c.seq), .v (.int .i64 c.kind), .sl 2 (c.writes.map wrX), .v (.int .i64 c.replica), .sl 1 (byD c.tag)]
theorem wrX_eq (x : ByteArray × List UInt8) : wrX x = [.v (.string x.1), .sl 1 (byD x.2)] := rfl
theorem cmdX_eq (c : Cmd) : cmdX c = [.v (.int .i64 c.client), .v (.int .i64 c.seq), .v (.int .i64 c.kind), .sl 2 (c.writes.map wrX), .v (.int .i64 c.replica), .sl 1 (byD c.tag)] := rfl
structure Cmd.Ok (c : Cmd) : Prop where
 client : I64 c.client
 seq : I64 c.seq
 kind : I64 c.kind
 replica : I64 c.replica
 many : c.writes.length ≤ 1000
 each : ∀ x ∈ c.writes, x.1.size ≤ 10000 ∧ x.2.length ≤ 10000
 tag : c.tag.length ≤ 10000
def writesE (l : List (ByteArray × List UInt8)) : List UInt8 := l.flatMap fun x => textE x.1 ++ bytesE x.2
def writeC (c : Cmd) : List UInt8 := intE c.client ++ intE c.seq ++ intE c.kind ++ uintE c.writes.length ++ writesE c.writes ++ intE c.replica
def encC (c : Cmd) : List UInt8 := writeC c ++ bytesE c.tag
theorem intE_len {n : Int} (h : I64 n) : (intE n).length ≤ 10 := (uintE_len10 _ (zz_lt n h.1 h.2)).1
theorem writesE_len : ∀ l : List (ByteArray × List UInt8), (∀ x ∈ l, x.1.size ≤ 10000 ∧ x.2.length ≤ 10000) → (writesE l).length ≤ 20020 * l.length
 | [], _ => by simp [writesE]
 | x :: t, h => by
  have h1 := h x (by simp)
  have h2 := writesE_len t fun y hy => h y (by simp [hy])
  have h3 := (uintE_len10 x.1.size (by omega)).1
  have h4 := (uintE_len10 x.2.length (by omega)).1
  have e : writesE (x :: t) = (textE x.1 ++ bytesE x.2) ++ writesE t := by simp [writesE]
  have e2 : x.1.data.toList.length = x.1.size := rfl
  rw [e]
  simp only [List.length_append, textE, bytesE, List.length_cons, e2]
  omega
theorem writesE_take {l : List (ByteArray × List UInt8)} {k : Nat} {x : ByteArray × List UInt8} (h : l[k]? = some x) : writesE (l.take (k + 1)) = writesE (l.take k) ++ textE x.1 ++ bytesE x.2 := by
 rw [List.take_add_one, h]
 simp [writesE]
def wB (n : Nat) (rows : List (List D)) (b : Ob) (T : List Ob) : List Ob := wG n rows (b :: T)
section
variable {n m : Nat} {rows r2 : List (List D)} {T : List Ob} {b x y : Ob}
theorem wB_2 : (wB n rows b T)[2]? = some b := rfl
theorem wB_app : wB n rows b T ++ [x] = wB n rows b (T ++ [x]) := rfl
theorem wB_len : (wB n rows b T).length = T.length + 3 := rfl
theorem wB_last : (wB n rows b (T ++ [x]))[T.length + 3]? = some x := by simp [wB, wG]
theorem wB_lset : (wB n rows b (T ++ [x])).set (T.length + 3) y = wB n rows b (T ++ [y]) := by simp [wB, wG]
theorem wH_box {l : List UInt8} : wH l ++ [x] = wB l.length (byD l) x [] := rfl
theorem wH_len {l : List UInt8} : (wH l).length = 2 := rfl
end
include hG
theorem w_b {l l2 : List UInt8} {f : FuncId} {xs : List D} {r0 : D} (lx : lowL 0 xs) (lr : low 0 r0) (q : Does Tryz.prog G f (wH l) (.ptr 0 0 :: xs) (fun h' r => h' = wH l2 ∧ r = r0)) {n : Nat} {b : Ob} {T : List Ob} (hn : n = l.length) :
 Does Tryz.prog G f (wB n (byD l) b T) (.ptr 0 0 :: xs) (fun h' r => h' = wB l2.length (byD l2) b T ∧ r = r0) := w_tail G hG lx lr q hn
theorem bInt (l : List UInt8) {n : Int} (hn : I64 n) (hl : l.length ≤ 100000000) {b : Ob} {T : List Ob} {n0 : Nat} (e0 : n0 = l.length) : Does Tryz.prog G 189 (wB n0 (byD l) b T) [.ptr 0 0, .v (.int .i64 n)] (fun h' r => h' = wB (l ++ intE n).length (byD (l ++ intE n)) b T ∧ r = .tup []) :=
 w_b G hG (by simp [lowL, low]) (by simp [low, lowL]) (wInt_d G hG l n hn hl) e0
theorem bUint (l : List UInt8) {n : Nat} (hn : n < 18446744073709551616) (hl : l.length ≤ 100000000) {b : Ob} {T : List Ob} {n0 : Nat} (e0 : n0 = l.length) : Does Tryz.prog G 190 (wB n0 (byD l) b T) [.ptr 0 0, .v (.int .u64 n)] (fun h' r => h' = wB (l ++ uintE n).length (byD (l ++ uintE n)) b T ∧ r = .tup []) :=
 w_b G hG (by simp [lowL, low]) (by simp [low, lowL]) (wUint_d G hG l n hn hl) e0
theorem bText (l : List UInt8) {s : ByteArray} (hs : s.size ≤ 10000000) (hl : l.length ≤ 80000000) {b : Ob} {T : List Ob} {n0 : Nat} (e0 : n0 = l.length) : Does Tryz.prog G 191 (wB n0 (byD l) b T) [.ptr 0 0, .v (.string s)] (fun h' r => h' = wB (l ++ textE s).length (byD (l ++ textE s)) b T ∧ r = .tup []) :=
 w_b G hG (by simp [lowL, low]) (by simp [low, lowL]) (wText_d G hG l s hs hl) e0
theorem bBytes (l : List UInt8) {x : List UInt8} (hs : x.length ≤ 10000000) (hl : l.length ≤ 80000000) {b : Ob} {T : List Ob} {n0 : Nat} (e0 : n0 = l.length) : Does Tryz.prog G 135 (wB n0 (byD l) b T) [.ptr 0 0, .sl 1 (byD x)] (fun h' r => h' = wB (l ++ bytesE x).length (byD (l ++ bytesE x)) b T ∧ r = .tup []) :=
 w_b G hG (by rw [lowL, lowL]; exact ⟨low_by _ _, trivial⟩) (by simp [low, lowL]) (wBytes_d G hG l x hs hl) e0
theorem write_d (l : List UInt8) (c : Cmd) (hc : c.Ok) (hl : l.length ≤ 1000000) :
 Does Tryz.prog G 134 (wH l) [.ptr 0 0, .agg (cmdX c)] (fun h' r => h' = wH (l ++ writeC c) ∧ r = .tup []) := by
 have h1 := intE_len hc.client
 have h2 := intE_len hc.seq
 have h3 := intE_len hc.kind
 have h4 := (uintE_len10 c.writes.length (by have := hc.many; omega)).1
 have hm := hc.many
 refine does_of_aw Tryz.func134 rfl (Nat.le_of_ble_eq_true rfl) hG fun hl0 _ => ?_
 simp only [Tryz.ntmps134]
 repeat' first
  | refine aw_seq' ?_
  | refine aw_region' ?_
  | refine aw_block ?_
  | refine ao_nil ?_
  | (refine ao1 rfl rfl fun K HK => ?_; simp only [go_sem, ↓reduceIte, Nat.reduceEqDiff, Nat.reduceAdd, Nat.reduceLeDiff, Nat.reduceBEq, Nat.reduceMul, Int.reduceEq, Int.reduceLT, Int.reduceLE, cmdX_eq, wH_box, wH_len, wB_2, lenU (a := c.writes.length) (by omega)] <;> (refine HK _ _ ?_; clear HK K))
  | (refine ao2 rfl rfl rfl ent_189 (bInt G hG _ hc.client (by first | omega | (simp only [List.length_append]; omega)) (by simp; try omega)) ?_; rintro _ _ ⟨rfl, rfl⟩)
  | (refine ao2 rfl rfl rfl ent_189 (bInt G hG _ hc.seq (by first | omega | (simp only [List.length_append]; omega)) (by simp; try omega)) ?_; rintro _ _ ⟨rfl, rfl⟩)
  | (refine ao2 rfl rfl rfl ent_189 (bInt G hG _ hc.kind (by first | omega | (simp only [List.length_append]; omega)) (by simp; try omega)) ?_; rintro _ _ ⟨rfl, rfl⟩)
  | (refine ao2 rfl rfl rfl ent_190 (bUint G hG _ (n := c.writes.length) (by omega) (by first | omega | (simp only [List.length_append]; omega)) (by simp; try omega)) ?_; rintro _ _ ⟨rfl, rfl⟩)
 have hb := writesE_len c.writes hc.each
 generalize hP : l ++ (intE c.client ++ (intE c.seq ++ (intE c.kind ++ uintE c.writes.length))) = P
 have hPl : P.length ≤ 1000040 := by rw [← hP]; simp only [List.length_append]; omega
 have hPn : l.length + ((intE c.client).length + ((intE c.seq).length + ((intE c.kind).length + (uintE c.writes.length).length))) = P.length := by rw [← hP]; simp only [List.length_append]
 rw [hPn]
 refine aw_for (fun m e h' => ∃ (k n0 : Nat) (cur : List UInt8) (T : List Ob), k ≤ c.writes.length ∧ m = c.writes.length - k ∧ n0 = cur.length ∧ cur = P ++ writesE (c.writes.take k) ∧ h' = wB n0 (byD cur) (.cells (cmdX c)) T ∧ e 0 = .ptr 0 0 ∧ e 3 = .ptr 2 0 ∧ e 25 = .sl 2 (c.writes.map wrX) ∧ e 26 = .v (.int .i64 c.writes.length) ∧ e 27 = .v (.int .i64 k)) c.writes.length ⟨0, _, P, [], Nat.zero_le _, rfl, rfl, by simp [writesE], rfl, rfl, rfl, rfl, rfl, rfl⟩ ?_
 rintro m e h' ⟨k, n0, cur, T, hk, rfl, hn0, hcur, rfl, e0, e3, e25, e26, e27⟩
 have hcl : cur.length ≤ 30000000 := by
  have h5 := writesE_len (c.writes.take k) fun x hx => hc.each x (List.mem_of_mem_take hx)
  rw [hcur, List.length_append]
  have := List.length_take_le k c.writes
  omega
 by_cases hlt : k < c.writes.length
 · have hx : c.writes[k]? = some c.writes[k] := List.getElem?_eq_getElem hlt
   have hxm := hc.each _ (List.getElem_mem hlt)
   generalize c.writes[k] = x at hx hxm
   have ht : (textE x.1).length ≤ 10010 := by
    have h6 := (uintE_len10 x.1.size (by omega)).1
    have e2 : x.1.data.toList.length = x.1.size := rfl
    simp only [textE, List.length_append, e2]; omega
   have wk : IntKind.i64.wrap ((k : Int) + 1) = (k : Int) + 1 := IntWalk.i64_in _ (by omega)
   repeat' first
    | refine aw_seq' ?_
    | refine aw_region' ?_
    | refine aw_block ?_
    | refine ao_nil ?_
    | (refine ao1 rfl rfl fun K HK => ?_; simp only [go_sem, ↓reduceIte, Nat.reduceEqDiff, Nat.reduceAdd, Nat.reduceLeDiff, Nat.reduceBEq, Nat.reduceMul, Int.reduceEq, Int.reduceLT, Int.reduceLE, e0, e3, e25, e26, e27, wrX_eq, wB_2, wB_app, wB_len, wB_last, wB_lset, wk, Int.toNat_natCast]; (first | refine splitB (fun hq => ?_) (fun hq => ?_) | (refine ⟨by omega, by omega, ?_⟩; refine row_at (by assumption) ?_) | skip) <;> (refine HK _ _ ?_; clear HK K))
    | (refine ao2 rfl rfl rfl ent_191 (bText G hG cur (s := x.1) (by omega) (by omega) hn0) ?_; rintro _ _ ⟨rfl, rfl⟩)
    | (refine ao2 rfl rfl rfl ent_135 (bBytes G hG (cur ++ textE x.1) (x := x.2) (by omega) (by simp only [List.length_append]; omega) (by simp)) ?_; rintro _ _ ⟨rfl, rfl⟩)
    | (refine ao1' rfl fun K HK => ?_; simp only [go_sem, ↓reduceIte, Nat.reduceEqDiff, Nat.reduceAdd, Nat.reduceLeDiff, Nat.reduceBEq, Nat.reduceMul, Int.reduceEq, Int.reduceLT, Int.reduceLE, e0, e3, e25, e26, e27, wrX_eq, wB_2, wB_app, wB_len, wB_last, wB_lset, wk, Int.toNat_natCast]; refine HK _ _ ?_; clear HK K)
    | refine aw_if1 rfl ?_
    | refine aw_if0 rfl ?_
    | refine aw_skip ?_
    | refine aw_exit ?_
    | refine thenS_n ?_
    | (exfalso; omega)
   have hcur' : cur ++ (textE x.1 ++ bytesE x.2) = P ++ writesE (c.writes.take (k + 1)) := by rw [writesE_take hx, hcur]; simp
   exact ⟨rfl, c.writes.length - (k + 1), by omega, k + 1, _, cur ++ (textE x.1 ++ bytesE x.2), _, hlt, rfl, (by simp), hcur', rfl, e0, e3, e25, e26, rfl⟩
 · skip
   repeat' first
    | refine aw_seq' ?_
    | refine aw_region' ?_
    | refine aw_block ?_
    | refine ao_nil ?_
    | (refine ao1 rfl rfl fun K HK => ?_; simp only [go_sem, ↓reduceIte, Nat.reduceEqDiff, Nat.reduceAdd, Nat.reduceLeDiff, Nat.reduceBEq, Nat.reduceMul, Int.reduceEq, Int.reduceLT, Int.reduceLE, e0, e3, e25, e26, e27, cmdX_eq, wB_2]; (first | refine splitB (fun hq => ?_) (fun hq => ?_) | (refine ⟨by omega, by omega, ?_⟩; intro row hrow; obtain ⟨x, hx, rfl⟩ := row_inv hrow; clear hrow) | skip) <;> (refine HK _ _ ?_; clear HK K))
    | (refine ao2 rfl rfl rfl ent_189 (bInt G hG cur hc.replica (by omega) hn0) ?_; rintro _ _ ⟨rfl, rfl⟩)
    | refine aw_if1 rfl ?_
    | refine aw_if0 rfl ?_
    | refine aw_skip ?_
    | refine aw_exit ?_
    | (exfalso; omega)
   have hcur' : cur ++ intE c.replica = l ++ writeC c := by
    rw [hcur, ← hP, List.take_of_length_le (by omega)]
    simp [writeC]
   exact ⟨.inl rfl, endW (l2 := l ++ writeC c) rfl rfl (by rw [← hcur']) (by rw [← hcur']) ⟨rfl, rfl⟩⟩
end
section
set_option maxRecDepth 100000
set_option maxHeartbeats 1000000
attribute [local irreducible] on aOp
attribute [local go_sem] decide_true decide_false Bool.not_true Bool.not_false
attribute [local simp] byD_len
variable (G : Nat → D) (hG : ∀ g, low 0 (G g))
def hE (c : Cmd) (n : Nat) (rows : List (List D)) : List Ob := [.cells (cmdX c), .cells [.buf 2 n], .buf 5 1 rows]
theorem low_wr (m : Nat) (l : List (ByteArray × List UInt8)) : low m (.sl 2 (l.map wrX)) := by
 rw [low, lowR_iff]
 intro row hr
 obtain ⟨b, _, rfl⟩ := List.mem_map.1 hr
 rw [wrX, lowL, lowL, lowL]
 exact ⟨by simp [low], low_by _ _, trivial⟩
theorem low_cmd (m : Nat) (c : Cmd) : lowL m (cmdX c) := by
 rw [cmdX]
 simp only [lowL]
 exact ⟨by simp [low], by simp [low], by simp [low], low_wr _ _, by simp [low], low_by _ _, trivial⟩
theorem hE_0 {c : Cmd} {n : Nat} {rows : List (List D)} : (hE c n rows)[0]? = some (.cells (cmdX c)) := rfl
theorem low_agg (m : Nat) (c : Cmd) : low m (.agg (cmdX c)) := by rw [low]; exact low_cmd m c
include hG
theorem does_any {P : Program} {f : FuncId} {args : List D} {r : D} (la : lowL 0 args) (lr : low 0 r) (q : Does P G f [] args (fun h' r' => h' = [] ∧ r' = r)) (h : List Ob) : Does P G f h args (fun h' r' => h' = h ∧ r' = r) := by
 have L : Lies (fun i => i) [] h := ⟨fun i ob q => by simp at q, fun i j q => by simp at q, fun ob q => by simp at q⟩
 have F := Does.frame hG L (args := args) la (K1 := fun h1 r1 => h1 = [] ∧ r1 = r) (by
  rintro _ _ ⟨rfl, _⟩
  exact ⟨fun i j hi => by simp at hi, fun j _ hj => by simp at hj⟩) q
 rw [renL_low0 _ _ la] at F
 refine F.mono ?_
 rintro _ _ ⟨_, _, ⟨rfl, rfl⟩, rfl, rfl⟩
 exact ⟨rfl, ren_low0 _ _ lr⟩
theorem e_write (c : Cmd) (hc : c.Ok) : Does Tryz.prog G 134 (hE c 0 []) [.ptr 1 0, .agg (cmdX c)] (fun h' r => h' = hE c (writeC c).length (byD (writeC c)) ∧ r = .tup []) :=
 w_at G hG (l := []) (l2 := writeC c) (by rw [lowL, lowL]; exact ⟨low_agg _ _, trivial⟩) (by simp [low, lowL]) (write_d G hG [] c hc (by simp)) (i := 1) (j := 2) rfl rfl
theorem e_bytes (c : Cmd) (l x : List UInt8) (hs : x.length ≤ 10000000) (hl : l.length ≤ 80000000) : Does Tryz.prog G 135 (hE c l.length (byD l)) [.ptr 1 0, .sl 1 (byD x)] (fun h' r => h' = hE c (l ++ bytesE x).length (byD (l ++ bytesE x)) ∧ r = .tup []) :=
 w_at G hG (by rw [lowL, lowL]; exact ⟨low_by _ _, trivial⟩) (by simp [low, lowL]) (wBytes_d G hG l x hs hl) (i := 1) (j := 2) rfl rfl
theorem e_data (c : Cmd) (l : List UInt8) (hl : l.length ≤ 100000000) : Does Tryz.prog G 136 (hE c l.length (byD l)) [.ptr 1 0] (fun h' r => h' = hE c l.length (byD l) ∧ r = .sl 1 (byD l)) :=
 w_at G hG (by rw [lowL]; trivial) (low_by _ _) (wData_d G hG l hl) (i := 1) (j := 2) rfl rfl
omit hG in
theorem writeC_len (c : Cmd) (hc : c.Ok) : (writeC c).length ≤ 20021000 := by
 have h1 := intE_len hc.client
 have h2 := intE_len hc.seq
 have h3 := intE_len hc.kind
 have h5 := intE_len hc.replica
 have h4 := (uintE_len10 c.writes.length (by have := hc.many; omega)).1
 have h6 := writesE_len c.writes hc.each
 have hm := hc.many
 simp only [writeC, List.length_append]
 omega
omit hG in
theorem encC_len (c : Cmd) (hc : c.Ok) : (encC c).length ≤ 20032000 := by
 have h1 := writeC_len c hc
 have h2 := hc.tag
 have h4 := (uintE_len10 c.tag.length (by omega)).1
 simp only [encC, bytesE, List.length_append]
 omega
theorem encode_d (c : Cmd) (hc : c.Ok) (h : List Ob) : Does Tryz.prog G 80 h [.agg (cmdX c)] (fun h' r => h' = h ∧ r = .sl 1 (byD (encC c))) := by
 refine does_any G hG (by rw [lowL, lowL]; exact ⟨low_agg _ _, trivial⟩) (low_by _ _) ?_ h
 have hw := writeC_len c hc
 have ht := hc.tag
 refine does_of_aw Tryz.func80 rfl (Nat.le_of_ble_eq_true rfl) hG fun hl0 _ => ?_
 simp only [Tryz.ntmps80]
 repeat' first
  | (refine ao_nilcell 5 1 1 [] [] rfl ?_)
  | refine aw_seq' ?_
  | refine aw_region' ?_
  | refine ao_nil ?_
  | (refine ao1 rfl rfl fun K HK => ?_; simp only [go_sem, ↓reduceIte, Nat.reduceEqDiff, Nat.reduceAdd, Nat.reduceLeDiff, Nat.reduceBEq, Nat.reduceMul, Int.reduceEq, Int.reduceLT, Int.reduceLE, hE_0, cmdX_eq] <;> (refine HK _ _ ?_; clear HK K))
  | (refine ao2 rfl rfl rfl ent_134 (e_write G hG c hc) ?_; rintro _ _ ⟨rfl, rfl⟩)
  | (refine ao2 rfl rfl rfl ent_135 (e_bytes G hG c _ _ (by omega) (by omega)) ?_; rintro _ _ ⟨rfl, rfl⟩)
  | (refine ao2 rfl rfl rfl ent_136 (e_data G hG c (encC c) (by have := encC_len c hc; omega)) ?_; rintro _ _ ⟨rfl, rfl⟩)
  | refine aw_ret ?_
 exact ⟨.inr rfl, endD (r := .sl 1 (byD (encC c))) hl0 rfl (by simp) (by simp) (by simp [outD, cvD, cv1, upd]) (low_by _ _) ⟨rfl, rfl⟩⟩
end
section
variable {P : Program} {G : Nat → D} {h : List Ob} {f : FuncId} {args : List D}
theorem Does.drop {K K' : List Ob → D → Prop} (hG : ∀ g, low 0 (G g)) (q : Does P G f h args K) (k : ∀ h' r, K h' r → ∃ m, h.length ≤ m ∧ m ≤ h'.length ∧ lowH m (h'.take m) ∧ low m (cvD (fun i => decide (m ≤ i)) h' r) ∧ K' (h'.take m) (cvD (fun i => decide (m ≤ i)) h' r)) : Does P G f h args K' := fun w hd p vs o ha => by
 refine (q w hd p vs o ha).mono ?_
 rintro e w' ⟨v, hd', h', r, p', rfl, hK, ok, hr, ev⟩
 obtain ⟨m, h2, h3, h4, h5, h6⟩ := k _ _ hK
 obtain ⟨p2, o2, ev2, cv⟩ := ok.give fun i => decide (m ≤ i)
 have htk : (killH (fun i => decide (m ≤ i)) h').take m = h'.take m := by
  apply List.ext_getElem?
  intro i
  rw [List.getElem?_take, List.getElem?_take]
  split
  · rename_i hi
    unfold killH
    rw [List.getElem?_mapIdx]
    cases h'[i]? with
    | none => rfl
    | some ob => simp [show ¬ m ≤ i by omega]
  · rfl
 have hlk : (killH (fun i => decide (m ≤ i)) h').length = h'.length := by simp [killH]
 have o3 := o2.take (m := m) (by rw [htk]; exact h4) fun g => low_mono (Nat.zero_le _) _ (hG g)
 have ev3 := (ev.trans ev2).take o h2 (by rw [hlk]; exact h3)
 have q3 := rd_take (m := m) (by rw [hlk, ok.len]) _ _ h5 (cv _ _ hr)
 rw [htk] at o3 ev3 q3
 exact ⟨v, _, _, _, p2, rfl, h6, o3, q3, ev3⟩
theorem does_gave (hG : ∀ g, low 0 (G g)) {e n : Nat} {l : List UInt8} (la : lowL 0 args) (hn : n = l.length) (q : Does P G f [] args (fun h' r => h' = [.buf e 1 (byD l)] ∧ r = .buf 0 n)) (h : List Ob) : Does P G f h args (fun h' r => h' = h ∧ r = .sl 1 (byD l)) := by
 subst hn
 refine does_any G hG la (low_by _ _) (q.drop hG ?_) h
 rintro _ _ ⟨rfl, rfl⟩
 refine ⟨0, Nat.le_refl _, Nat.zero_le _, fun x hx => by simp at hx, ?_, ?_⟩
 · simp [cvD, cv1, byD_len, low_by]
 · simp [cvD, cv1, byD_len]
end
section
variable {P : Program} {G : Nat → D} {n : Nat} {e : Nat → D} {h : List Ob} {ops : Array Oper} {rest : List Oper} {Q : S → Prop}
theorem tri_soundE {B : Base} {a : Act} {w : World} {o : Oper} {K : Act → World → Prop} {KD : List Ob → D → Prop} {R : Exit → Act → World → Prop} (q : OpTri P G o ((opds o.op).map (ev G e)) h KD) (r : Sit G B ⟨n, e, h⟩ a w) (k : ∀ h' d, KD h' d → ∀ a' w', Sit G B ⟨n, putE n e o.dst d, h'⟩ a' w' → K a' w') : o.wp P a w K R := by
 obtain ⟨hd, p, r⟩ := r
 refine Oper.wp_mono ?_ (q a w hd p R r.defers r.ok (rdL_map r _))
 rintro a' w' ⟨v, rfl, hd', h'', d', p', hk, o', q', ev'⟩
 have := r.put o' ev' q' o.dst
 rw [put_putE] at this
 exact k _ _ hk _ _ ⟨hd', p', this⟩
theorem ao_ex {o : Oper} {KD : List Ob → D → Prop} (hw : wantedD ops o.guard e = some true) (q : OpTri P G o ((opds o.op).map (ev G e)) h KD) (k : ∀ h' d, KD h' d → ao P G ops rest Q ⟨n, putE n e o.dst d, h'⟩) : ao P G ops (o :: rest) Q ⟨n, e, h⟩ := by
 rintro B a w r R hR
 obtain ⟨hd, p, r'⟩ := id r
 unfold wpList
 rw [if_pos (wantedD_sound (o := o) r' hw)]
 exact .inl (tri_soundE q r fun h' d hk a' w' r2 => k h' d hk B a' w' r2 R hR)
theorem tri_nil {dst : Option Nat} {t yt ty : TypeId} {x y : Operand} {pos : String} {aft : Array Edge} {gd : Option (Nat × Bool)} {k : Nat} {xs : List (List D)} (ht : slT P t = true) :
 OpTri P G ⟨dst, .binOp .eql t x y yt, ty, pos, aft, gd⟩ [.sl k xs, .v (.slice none 0 0)] h (fun h' d => h' = h ∧ ((d = .v (.bool true) ∧ xs = []) ∨ d = .v (.bool false))) := fun a w hd p R hdf ok ha => by
 have ho : opds (.binOp .eql t x y yt) = [x, y] := by simp [opds, Op.operands]
 rw [ho, List.map_cons, List.map_cons, List.map_nil, rdL] at ha
 obtain ⟨u, t1, e1, h1, ha⟩ := ha
 rw [rdL] at ha
 obtain ⟨u2, t2, e2, h2, ha⟩ := ha
 rw [rd] at h1
 rw [rd] at h2
 obtain ⟨ad, cap, hu, hc, _, hr⟩ := h1
 subst h2
 cases e1
 injection e2 with e2 e3
 obtain ⟨el, hun⟩ := slT_spec ht
 have en : ∀ w, (Op.equal t (.slice ad xs.length cap) (.slice none 0 0)).run P w = .ok (ad.isNone) w := fun w => by
  unfold Op.equal Op.maxDepth Op.equalIn
  cases ad <;> simp [Go.underlying, hun]
 have hrun : (execOp a.eval ⟨dst, .binOp .eql t x y yt, ty, pos, aft, gd⟩).run P w = .ok (.value (.bool ad.isNone)) w := by
  simp [execOp, hu, e2, eqGuard, binOp, en]
 unfold Oper.wp
 rw [hrun]
 refine ⟨_, rfl, .same ok ⟨rfl, ?_⟩ (d := .v (.bool ad.isNone)) (by rw [rd])⟩
 cases ad with
 | none =>
  refine .inl ⟨rfl, ?_⟩
  have := hc.1 rfl
  exact List.eq_nil_of_length_eq_zero (by omega)
 | some a => exact .inr rfl
theorem Does.nilbuf {f : FuncId} {args : List D} {K K' : List Ob → D → Prop} (E k : Nat) (q : Does P G f h args K) (c : ∀ h' r, K h' r → K' h' r ∨ (r = .v (.slice none 0 0) ∧ K' (h' ++ [.buf E k []]) (.buf h'.length 0))) : Does P G f h args K' := fun w hd p vs o ha => by
 refine (q w hd p vs o ha).mono ?_
 rintro e w' ⟨v, hd', h', r, p', rfl, hK, ok, hr, ev⟩
 rcases c _ _ hK with hk | ⟨rfl, hk⟩
 · exact ⟨v, hd', h', r, p', rfl, hk, ok, hr, ev⟩
 · obtain ⟨o2, ev2⟩ := Ok.grow (ob := .buf E k []) (u := .slice none 0 0) (w' := w') ok rfl rfl rfl (Nat.le_refl _) (fun _ _ => rfl) (fun b hb => by cases hb) (fun c s => ⟨[], World.ownsRow_nil _ _ _ _, by simp [rdL], fun row h => by simp at h, fun g h => by cases h⟩)
   exact ⟨v, _, _, _, _, rfl, hk, o2, rd_nilbuf (E := E) (k := k) (by simp) (by rw [← ok.len]; simp) (ev2.rd ok hr), ev.trans ev2⟩
end
section
section
variable {P : Program} {G : Nat → D} {n m0 : Nat} {e : Nat → D} {h : List Ob} {ops : Array Oper} {rest : List Oper} {Q : (Nat → D) → List Ob → Prop} {done : List Eff} {t : Nat} {ty : TypeId} {pos : String} {aft : Array Edge} {gd : Option (Nat × Bool)}
theorem aS_idxB {u : TypeId} {x y : Operand} {i m E k : Nat} {κ : IntKind} {z : Int} {xs : List (List D)} (hw : wantedD ops gd e = some true) (ht : decide (t < n) = true) (hx : ev G e x = .buf i m) (hy : ev G e y = .v (.int κ z)) (hi : h[i]? = some (.buf E k xs)) (hm : xs.length = m) (he : (elT P u).bind (szT P) = some k) (h0 : 0 ≤ z) (h1 : z < (m : Int))
 (q : aeS P G n m0 ops Q (readE i (.buf E k xs) (.bp i m z.toNat 0) :: done) rest (upd e t (.bp i m z.toNat 0)) h) : aeS P G n m0 ops Q done (⟨some t, .indexAddr u x y, ty, pos, aft, gd⟩ :: rest) e h := by
 have hh : ∀ h, (readE i (.buf E k xs) (.bp i m z.toNat 0)).heap h = h := fun h => by simp [readE, Eff.heap, setAll]
 refine ⟨readE i (.buf E k xs) (.bp i m z.toNat 0), .inl ⟨hw, ⟨by simp [readE], fun _ _ _ => rfl⟩, fun h2 k2 => .inl ?_⟩, by simpa [readE, Eff.ok] using hi, ?_⟩
 · rw [hh]
   have hi2 : h2[i]? = some (.buf E k xs) := k2 (i, .buf E k xs) (by simp [readE])
   rw [aOp_iaddr, hx, hy, idxA_buf]
   exact ⟨E, k, xs, hi2, hm, he, h0, h1, rfl, rfl⟩
 · rw [hh]; unfold putE; simp only [if_pos (of_decide_eq_true ht)]; exact q
theorem aS_idxW {u : TypeId} {x y : Operand} {i m a b E k : Nat} {κ : IntKind} {z : Int} {xs : List (List D)} (hw : wantedD ops gd e = some true) (ht : decide (t < n) = true) (hx : ev G e x = .win i m a b) (hy : ev G e y = .v (.int κ z)) (hi : h[i]? = some (.buf E k xs)) (hm : xs.length = m) (he : (elT P u).bind (szT P) = some k) (h0 : 0 ≤ z) (h1 : z < ((b - a : Nat) : Int))
 (q : aeS P G n m0 ops Q (readE i (.buf E k xs) (.bp i m (a + z.toNat) 0) :: done) rest (upd e t (.bp i m (a + z.toNat) 0)) h) : aeS P G n m0 ops Q done (⟨some t, .indexAddr u x y, ty, pos, aft, gd⟩ :: rest) e h := by
 have hh : ∀ h, (readE i (.buf E k xs) (.bp i m (a + z.toNat) 0)).heap h = h := fun h => by simp [readE, Eff.heap, setAll]
 refine ⟨readE i (.buf E k xs) (.bp i m (a + z.toNat) 0), .inl ⟨hw, ⟨by simp [readE], fun _ _ _ => rfl⟩, fun h2 k2 => .inl ?_⟩, by simpa [readE, Eff.ok] using hi, ?_⟩
 · rw [hh]
   have hi2 : h2[i]? = some (.buf E k xs) := k2 (i, .buf E k xs) (by simp [readE])
   rw [aOp_iaddr, hx, hy, idxA_win]
   exact ⟨E, k, xs, hi2, hm, he, h0, h1, rfl, rfl⟩
 · rw [hh]; unfold putE; simp only [if_pos (of_decide_eq_true ht)]; exact q
theorem aS_loadB {u : TypeId} {x : Operand} {i m r j E k : Nat} {xs : List (List D)} {row : List D} {d : D} (hw : wantedD ops gd e = some true) (ht : decide (t < n) = true) (hx : ev G e x = .bp i m r j) (hi : h[i]? = some (.buf E k xs)) (hm : xs.length = m) (hr : xs[r]? = some row) (hg : getD P u row j = some d)
 (q : aeS P G n m0 ops Q (readE i (.buf E k xs) d :: done) rest (upd e t d) h) : aeS P G n m0 ops Q done (⟨some t, .load u x, ty, pos, aft, gd⟩ :: rest) e h := by
 have hh : ∀ h, (readE i (.buf E k xs) d).heap h = h := fun h => by simp [readE, Eff.heap, setAll]
 refine ⟨readE i (.buf E k xs) d, .inl ⟨hw, ⟨by simp [readE], fun _ _ _ => rfl⟩, fun h2 k2 => .inl ?_⟩, by simpa [readE, Eff.ok] using hi, ?_⟩
 · rw [hh]
   have hi2 : h2[i]? = some (.buf E k xs) := k2 (i, .buf E k xs) (by simp [readE])
   show on (loadD P h2 u (ev G e x)) _
   rw [hx]
   simp only [loadD, hi2, hr, if_pos hm, Option.bind_some, hg, on]
   exact ⟨trivial, rfl⟩
 · rw [hh]; unfold putE; simp only [if_pos (of_decide_eq_true ht)]; exact q
theorem aS_storeB {u : TypeId} {x y : Operand} {i m r j E k : Nat} {xs : List (List D)} {row es : List D} (hw : wantedD ops gd e = some true) (hx : ev G e x = .bp i m r j) (hi : h[i]? = some (.buf E k xs)) (hm : xs.length = m) (hr : xs[r]? = some row) (hy : (ev G e y).cells = some es) (hc : (es.all D.one && szT P u == some es.length) = true) (hle : j + es.length ≤ row.length)
 (q : aeS P G n m0 ops Q (writE i (.buf E k xs) (.buf E k (xs.set r (putL row j es))) (.v undef) :: done) rest e (h.set i (.buf E k (xs.set r (putL row j es))))) : aeS P G n m0 ops Q done (⟨none, .store u x y, ty, pos, aft, gd⟩ :: rest) e h := by
 have hh : ∀ h, (writE i (.buf E k xs) (.buf E k (xs.set r (putL row j es))) (.v undef)).heap h = h.set i (.buf E k (xs.set r (putL row j es))) := fun h => by simp [writE, Eff.heap, setAll]
 refine ⟨writE i (.buf E k xs) (.buf E k (xs.set r (putL row j es))) (.v undef), .inl ⟨hw, ⟨by simp [writE], fun _ _ _ => rfl⟩, fun h2 k2 => .inl ?_⟩, by simpa [writE, Eff.ok] using hi, by rw [hh]; exact q⟩
 have hi2 : h2[i]? = some (.buf E k xs) := k2 (i, .buf E k xs) (by simp [writE])
 rw [hh]
 show on (storeD P h2 u (ev G e x) (ev G e y)) _
 rw [hx]
 simp only [storeD, hy, hc, if_true, hi2, if_pos hm, hr, if_pos hle, on]
 exact ⟨trivial, rfl⟩
theorem aS_storeS {u : TypeId} {x y : Operand} {i m r j E k : Nat} {xs : List (List D)} {row es : List D} (hw : wantedD ops gd e = some true) (hx : ev G e x = .bp i m r j) (hi : h[i]? = some (.buf E k xs)) (hm : xs.length = m) (hr : xs[r]? = some row) (hy : (ev G e y).cells = some es) (hc : (es.all D.one && szT P u == some es.length) = true) (hle : j + es.length ≤ row.length) (hs : xs.set r (putL row j es) = xs)
 (q : aeS P G n m0 ops Q (readE i (.buf E k xs) (.v undef) :: done) rest e h) : aeS P G n m0 ops Q done (⟨none, .store u x y, ty, pos, aft, gd⟩ :: rest) e h := by
 have hh : ∀ h, (readE i (.buf E k xs) (.v undef)).heap h = h := fun h => by simp [readE, Eff.heap, setAll]
 refine ⟨readE i (.buf E k xs) (.v undef), .inl ⟨hw, ⟨by simp [readE], fun _ _ _ => rfl⟩, fun h2 k2 => .inl ?_⟩, by simpa [readE, Eff.ok] using hi, by rw [hh]; exact q⟩
 have hi2 : h2[i]? = some (.buf E k xs) := k2 (i, .buf E k xs) (by simp [readE])
 rw [hh]
 show on (storeD P h2 u (ev G e x) (ev G e y)) _
 rw [hx]
 simp only [storeD, hy, hc, if_true, hi2, if_pos hm, hr, if_pos hle, on, hs]
 exact ⟨set_same hi2, rfl⟩
end
theorem does_newR {P : Program} {G : Nat → D} {f : FuncId} {args : List D} (hG : ∀ g, low 0 (G g)) {e k n : Nat} {rows : List (List D)} (lr : low 0 (.sl k rows)) (la : lowL 0 args) (q : Does P G f [] args (fun h' r => h' = [.buf e k rows] ∧ r = .buf 0 n)) (h : List Ob) : Does P G f h args (fun h' r => h' = h ++ [.buf e k rows] ∧ r = .buf h.length n) := by
 refine Does.holes 1 ?_
 have L : Lies (fun _ => h.length) [] (h ++ holes 1) := ⟨fun i ob q => by simp at q, fun i j q => by simp at q, fun ob q => by simp at q⟩
 have F := Does.frame hG L (args := args) la (K1 := fun h' r => h' = [.buf e k rows] ∧ r = .buf 0 n) (by
  rintro _ _ ⟨rfl, _⟩
  refine ⟨fun i j hi hj _ => by simp at hi hj; omega, fun j _ hj => ?_⟩
  simp [holes]) q
 rw [renL_low0 _ _ la] at F
 refine F.mono ?_
 rintro _ _ ⟨_, _, ⟨rfl, rfl⟩, rfl, rfl⟩
 have e1 : renR (fun _ => h.length) rows = rows := by
  have := ren_low0 (fun _ => h.length) _ lr
  rw [ren] at this
  exact (D.sl.inj this).2
 simp [plc, renOb, ren, holes, e1]
end
section
section
variable {P : Program} {G : Nat → D} {n : Nat} {e : Nat → D} {h : List Ob} {ops : Array Oper} {rest : List Oper} {Q : S → Prop} {t : Nat} {ty : TypeId} {pos : String} {aft : Array Edge} {gd : Option (Nat × Bool)}
theorem ao_make {u el k by' : Nat} {x y : Operand} {m : Nat} {zs : List D} (hw : wantedD ops gd e = some true) (ht : decide (t < n) = true) (hx : ev G e x = .v (.int .i64 m)) (hy : ev G e y = .v (.int .i64 m)) (ha : apT P u = some (el, k, by')) (hz : zeroD P el = some zs) (hk : zs.length = k) (hb : (by' : Int) * m ≤ 281474976710656) (hm : m ≤ 1000000)
 (q : ao P G ops rest Q ⟨n, upd e t (.buf h.length m), h ++ [.buf el k (List.replicate m zs)]⟩) : ao P G ops (⟨some t, .makeSlice u x y, ty, pos, aft, gd⟩ :: rest) Q ⟨n, e, h⟩ := by
 have hN : nF P G e h (.makeSlice u x y) = some (h ++ [.buf el k (List.replicate m zs)], .buf h.length m) := by
  show makF P h u (ev G e x) (ev G e y) = _
  rw [hx, hy]
  have c1 : decide ((0 : Int) ≤ (m : Int)) = true := decide_eq_true (by omega)
  have c2 : decide ((m : Int) ≤ (m : Int)) = true := decide_eq_true (by omega)
  have c3 : decide ((by' : Int) * (m : Int) ≤ 281474976710656) = true := decide_eq_true hb
  have c4 : decide ((m : Int) ≤ 281474976710656) = true := decide_eq_true (by omega)
  have c5 : decide (zs.length = k) = true := decide_eq_true hk
  simp only [makF, ha, hz, c1, c2, c3, c4, c5, Bool.and_self, cond_true, Int.toNat_natCast]
 refine ao_tri hw (nF_sound hN) ?_
 unfold putE
 simp only [if_pos (of_decide_eq_true ht)]
 exact q
theorem storeD_bp {u E k i m r j : Nat} {xs : List (List D)} {row es : List D} {y : D} (hi : h[i]? = some (.buf E k xs)) (hm : xs.length = m) (hr : xs[r]? = some row) (hy : y.cells = some es) (hc : (es.all D.one && szT P u == some es.length) = true) (hle : j + es.length ≤ row.length) : storeD P h u (.bp i m r j) y = some (h.set i (.buf E k (xs.set r (putL row j es)))) := by
 simp only [storeD, hy, hc, if_true, hi, if_pos hm, hr, if_pos hle]
theorem ao_callK {x : Operand} {args : Array Operand} {tys : Array TypeId} {f : FuncId} {cap : List D} {K : List Ob → D → Prop} (hw : wantedD ops gd e = some true) (ht : decide (t < n) = true) (hx : ev G e x = .fn f cap) (he : entB P f = true) (hc : Does P G f h (args.toList.map (ev G e) ++ cap) K)
 (q : ∀ h' r, K h' r → ao P G ops rest Q ⟨n, upd e t r, h'⟩) : ao P G ops (⟨some t, .call ⟨.value x, args, tys⟩, ty, pos, aft, gd⟩ :: rest) Q ⟨n, e, h⟩ := by
 have ho : opds (.call ⟨.value x, args, tys⟩) = x :: args.toList := by simp [opds, Op.operands, Call.operands]
 refine ao_ex (KD := K) hw ?_ fun h' d hk => ?_
 · show OpTri P G _ ((opds (.call ⟨.value x, args, tys⟩)).map (ev G e)) h K
   rw [ho, List.map_cons, hx]
   exact tri_of_call he hc
 · unfold putE
   simp only [if_pos (of_decide_eq_true ht)]
   exact q h' d hk
end
end
section
set_option maxRecDepth 100000
set_option maxHeartbeats 1000000
attribute [local irreducible] on aOp
attribute [local go_sem] decide_true decide_false Bool.not_true Bool.not_false
attribute [local simp] byD_len
def rG (rows : List (List D)) (T : List Ob) : List Ob := .buf 5 1 rows :: T
section
variable {rows r2 : List (List D)} {T l : List Ob}
theorem rG_0 : (rG rows T)[0]? = some (.buf 5 1 rows) := rfl
theorem rG_s0 : (rG rows T).set 0 (.buf 5 1 r2) = rG r2 T := rfl
theorem rG_a0 : (rG rows T ++ l)[0]? = some (.buf 5 1 rows) := rfl
theorem rG_b0 : (rG rows T ++ l).set 0 (.buf 5 1 r2) = rG r2 (T ++ l) := rfl
end
theorem endB {res : Array ResultVar} {K : List Ob → D → Prop} {l : List UInt8} {n : Nat} {rows : List (List D)} {T : List Ob} {s : S} (h1 : resD Tryz.prog s res.toList = some [.buf 0 n]) (h2 : s.h = rG rows T) (h3 : n = l.length) (h4 : rows = byD l) (hK : K [.buf 5 1 (byD l)] (.buf 0 l.length)) : EndD Tryz.prog res ([] : List Ob).length K s := by
 subst h3 h4
 have e : s.h.take 1 = [.buf 5 1 (byD l)] := by rw [h2]; rfl
 refine ⟨[.buf 0 l.length], 1, h1, Nat.zero_le _, by rw [h2]; exact Nat.le_add_left 1 T.length, ?_, ?_, ?_⟩
 · rw [e]
   intro x hx
   rw [List.mem_singleton.1 hx]
   exact low_by 1 l
 · simp [outD, cvD, cv1, low]
 · rw [e]; simpa [outD, cvD, cv1] using hK
theorem rem_byte (m : Nat) : IntKind.u8.wrap (IntKind.u8.wrap ((m : Int).tmod 128) + 128) = ((UInt8.ofNat (m % 128 + 128)).toNat : Int) := by
 have e : (m : Int).tmod 128 = ((m % 128 : Nat) : Int) := by rw [Int.tmod_eq_emod_of_nonneg (by omega)]; omega
 rw [e, u8_wrap, byte_lo _ (by omega)]
 have : ((m % 128 % 256 : Nat) : Int) + 128 = ((m % 128 % 256 + 128 : Nat) : Int) := by omega
 rw [this, u8_wrap]; omega
theorem quo128 {m : Nat} (h : m < 18446744073709551616) : IntKind.u64.wrap ((m : Int).tdiv 128) = ((m / 128 : Nat) : Int) := by
 have e : (m : Int).tdiv 128 = ((m / 128 : Nat) : Int) := by rw [Int.tdiv_eq_ediv_of_nonneg (by omega)]; omega
 rw [e, IntKind.wrap_u64]; omega
variable (G : Nat → D) (hG : ∀ g, low 0 (G g))
include hG
theorem rUint0 (l : List UInt8) (n : Nat) (hn : n < 18446744073709551616) (hl : l.length ≤ 100000000) :
 Does Tryz.prog G 180 [] [.sl 1 (byD l), .v (.int .u64 n)] (fun h' r => h' = [.buf 5 1 (byD (l ++ uintE n))] ∧ r = .buf 0 (l ++ uintE n).length) := by
 refine does_of_aw Tryz.func180 rfl (Nat.le_of_ble_eq_true rfl) hG fun hl0 _ => ?_
 simp only [Tryz.ntmps180]
 repeat' first
  | refine aw_seq' ?_
  | refine aw_region' ?_
  | refine aw_block ?_
  | refine ao_nil ?_
  | (refine ao1 rfl rfl fun K HK => ?_; simp only [go_sem, ↓reduceIte, Nat.reduceEqDiff, Nat.reduceAdd, Nat.reduceLeDiff, Nat.reduceBEq, Nat.reduceMul, Int.reduceEq, Int.reduceLT, Int.reduceLE, rG_0, rG_s0, rG_a0, rG_b0] <;> (refine HK _ _ ?_; clear HK K))
  | refine ao_appR rfl rfl rfl (by (simp only [go_sem, ↓reduceIte, Nat.reduceEqDiff, Nat.reduceAdd, Nat.reduceLeDiff, Nat.reduceBEq, Nat.reduceMul, Int.reduceEq, Int.reduceLT, Int.reduceLE, rG_0, rG_s0, rG_a0, rG_b0]; rfl)) (by simp) (by simp only [go_sem]; rfl) rfl (by exact rowsOk_by _) (by (simp; omega)) ?_
 refine aw_for (fun m e h' => ∃ (k n0 : Nat) (cur : List UInt8) (T : List Ob), m = k ∧ k < 18446744073709551616 ∧ n0 = cur.length ∧ cur ++ uintE k = l ++ uintE n ∧ h' = rG (byD cur) T ∧ e 1 = .v (.int .u64 k) ∧ e 5 = .buf 0 n0) n ⟨n, _, l, [], rfl, hn, (by simp), rfl, rfl, rfl, rfl⟩ ?_
 rintro m e h' ⟨k, n0, cur, T, rfl, hk, hn0, hE, rfl, e1, e5⟩
 have hc : cur.length ≤ 100000010 := by
  have h1 := congrArg List.length hE
  rw [List.length_append, List.length_append] at h1
  have := (uintE_len10 n hn).1
  omega
 subst hn0
 repeat' first
  | refine aw_seq' ?_
  | refine aw_region' ?_
  | refine aw_block ?_
  | refine ao_nil ?_
  | (refine ao1 rfl rfl fun K HK => ?_; simp only [go_sem, ↓reduceIte, Nat.reduceEqDiff, Nat.reduceAdd, Nat.reduceLeDiff, Nat.reduceBEq, Nat.reduceMul, Int.reduceEq, Int.reduceLT, Int.reduceLE, e1, e5, rG_0, rG_s0, rG_a0, rG_b0, Int.reduceBEq]; (first | refine splitB (fun hq => ?_) (fun hq => ?_) | skip) <;> (refine HK _ _ ?_; clear HK K))
  | refine ao_appB rfl rfl rfl rfl (by (simp only [go_sem, ↓reduceIte, Nat.reduceEqDiff, Nat.reduceAdd, Nat.reduceLeDiff, Nat.reduceBEq, Nat.reduceMul, Int.reduceEq, Int.reduceLT, Int.reduceLE, e1, e5, rG_0, rG_s0, rG_a0, rG_b0, Int.reduceBEq]; rfl)) (by simp) (by simp only [go_sem]; rfl) (by (simp only [go_sem, ↓reduceIte, Nat.reduceEqDiff, Nat.reduceAdd, Nat.reduceLeDiff, Nat.reduceBEq, Nat.reduceMul, Int.reduceEq, Int.reduceLT, Int.reduceLE, e1, e5, rG_0, rG_s0, rG_a0, rG_b0, Int.reduceBEq]; rfl)) (by simp) (by (simp [rowsOk, D.one, Value.oneCell']; done)) (by (simp; omega)) ?_
  | refine aw_if1 rfl ?_
  | refine aw_if0 rfl ?_
  | refine aw_skip ?_
  | refine aw_exit ?_
  | refine aw_ret ?_
  | refine thenS_n ?_
  | refine inB_n ?_
 · have hc' : byD cur ++ [[.v (.int .u8 (IntKind.u8.wrap (IntKind.u8.wrap ((m : Int).tmod 128) + 128)))]] = byD (cur ++ [UInt8.ofNat (m % 128 + 128)]) := byD_one _ _ (rem_byte m)
   refine ⟨rfl, m / 128, by omega, m / 128, _, cur ++ [UInt8.ofNat (m % 128 + 128)], _, rfl, by omega, ?_, ?_, congrArg (fun r => rG r _) hc', ?_, rfl⟩
   · simp
   · rw [List.append_assoc, ← hE, uintE_ge (n := m) (by omega)]; rfl
   · simp only [upd, quo128 hk]; rfl
 · refine ⟨.inr rfl, endB (l := l ++ uintE n) (n := cur.length + 1) rfl rfl ?_ ?_ ⟨rfl, rfl⟩⟩
   · rw [← hE, uintE_lt (by omega)]; simp
   · rw [← hE, uintE_lt (by omega), byD_one _ (UInt8.ofNat m)]
     rw [u8_wrap, byte_lo _ (by omega)]; omega
theorem rUint_z {l : List UInt8} {n : Nat} {Z : Int} (hz : Z = (n : Int)) (hn : n < 18446744073709551616) (hl : l.length ≤ 100000000) :
 Does Tryz.prog G 180 [] [.sl 1 (byD l), .v (.int .u64 Z)] (fun h' r => h' = [.buf 5 1 (byD (l ++ uintE n))] ∧ r = .buf 0 (l ++ uintE n).length) := hz ▸ rUint0 G hG l n hn hl
omit hG in
theorem zz_p {n : Int} (hn : I64 n) (h0 : 0 ≤ n) : IntKind.u64.wrap (2 * IntKind.u64.wrap n) = ((zz n : Nat) : Int) := by
 obtain ⟨h1, h2⟩ := hn
 unfold zz
 rw [if_pos h0, IntKind.wrap_u64, IntKind.wrap_u64]; omega
omit hG in
theorem zz_n {n : Int} (hn : I64 n) (h0 : ¬ 0 ≤ n) : IntKind.u64.wrap (IntKind.u64.wrap (2 * IntKind.u64.wrap (IntKind.i64.wrap (0 - IntKind.i64.wrap (n + 1)))) + 1) = ((zz n : Nat) : Int) := by
 obtain ⟨h1, h2⟩ := hn
 have e1 : IntKind.i64.wrap (n + 1) = n + 1 := IntWalk.i64_in _ (by omega)
 have e2 : IntKind.i64.wrap (0 - (n + 1)) = 0 - (n + 1) := IntWalk.i64_in _ (by omega)
 unfold zz
 rw [e1, e2, if_neg h0, IntKind.wrap_u64, IntKind.wrap_u64, IntKind.wrap_u64]; omega
theorem rInt0 (l : List UInt8) (n : Int) (hn : I64 n) (hl : l.length ≤ 100000000) :
 Does Tryz.prog G 181 [] [.sl 1 (byD l), .v (.int .i64 n)] (fun h' r => h' = [.buf 5 1 (byD (l ++ intE n))] ∧ r = .buf 0 (l ++ intE n).length) := by
 have hz := zz_lt n hn.1 hn.2
 refine does_of_aw Tryz.func181 rfl (Nat.le_of_ble_eq_true rfl) hG fun hl0 _ => ?_
 simp only [Tryz.ntmps181]
 by_cases h0 : 0 ≤ n
 · skip
   repeat' first
    | refine aw_seq' ?_
    | refine aw_region' ?_
    | refine ao_nil ?_
    | (refine ao1 rfl rfl fun K HK => ?_; simp only [go_sem, ↓reduceIte, Nat.reduceEqDiff, Nat.reduceAdd, Nat.reduceLeDiff, Nat.reduceBEq, Nat.reduceMul, Int.reduceEq, Int.reduceLT, Int.reduceLE, h0] <;> (refine HK _ _ ?_; clear HK K))
    | (refine ao2 rfl rfl rfl ent_180 (rUint_z G hG (zz_p hn h0) hz hl) ?_; rintro _ _ ⟨rfl, rfl⟩)
    | refine aw_if1 rfl ?_
    | refine aw_ret ?_
    | refine thenS_r ?_
   exact ⟨.inr rfl, endB (l := l ++ intE n) rfl (T := []) rfl (by simp [intE]) rfl ⟨rfl, rfl⟩⟩
 · skip
   repeat' first
    | refine aw_seq' ?_
    | refine aw_region' ?_
    | refine ao_nil ?_
    | (refine ao1 rfl rfl fun K HK => ?_; simp only [go_sem, ↓reduceIte, Nat.reduceEqDiff, Nat.reduceAdd, Nat.reduceLeDiff, Nat.reduceBEq, Nat.reduceMul, Int.reduceEq, Int.reduceLT, Int.reduceLE, h0] <;> (refine HK _ _ ?_; clear HK K))
    | (refine ao2 rfl rfl rfl ent_180 (rUint_z G hG (zz_n hn h0) hz hl) ?_; rintro _ _ ⟨rfl, rfl⟩)
    | refine aw_if0 rfl ?_
    | refine aw_skip ?_
    | refine aw_ret ?_
   exact ⟨.inr rfl, endB (l := l ++ intE n) rfl (T := []) rfl (by simp [intE]) rfl ⟨rfl, rfl⟩⟩
theorem rText0 (l : List UInt8) (s : ByteArray) (hs : s.size ≤ 10000000) (hl : l.length ≤ 80000000) :
 Does Tryz.prog G 182 [] [.sl 1 (byD l), .v (.string s)] (fun h' r => h' = [.buf 5 1 (byD (l ++ textE s))] ∧ r = .buf 0 (l ++ textE s).length) := by
 have hu := (uintE_len10 s.size (by omega)).1
 refine does_of_aw Tryz.func182 rfl (Nat.le_of_ble_eq_true rfl) hG fun hl0 _ => ?_
 simp only [Tryz.ntmps182]
 repeat' first
  | refine aw_seq' ?_
  | refine aw_region' ?_
  | refine ao_nil ?_
  | (refine ao1 rfl rfl fun K HK => ?_; simp only [go_sem, ↓reduceIte, Nat.reduceEqDiff, Nat.reduceAdd, Nat.reduceLeDiff, Nat.reduceBEq, Nat.reduceMul, Int.reduceEq, Int.reduceLT, Int.reduceLE, lenU (a := s.size) (by omega)] <;> (refine HK _ _ ?_; clear HK K))
  | refine ao_appR rfl rfl rfl (by (simp only [go_sem, ↓reduceIte, Nat.reduceEqDiff, Nat.reduceAdd, Nat.reduceLeDiff, Nat.reduceBEq, Nat.reduceMul, Int.reduceEq, Int.reduceLT, Int.reduceLE, lenU (a := s.size) (by omega)]; rfl)) (by simp) (by simp only [go_sem]; rfl) rfl (by exact rowsOk_by _) (by (simp; omega)) ?_
  | (refine ao2 rfl rfl rfl ent_180 (rUint0 G hG l _ (by omega) (by omega)) ?_; rintro _ _ ⟨rfl, rfl⟩)
  | refine aw_ret ?_
 exact ⟨.inr rfl, endB (l := l ++ textE s) rfl (T := []) rfl (by simp [textE]; try omega) (by rw [byD_app, List.append_assoc]; rfl) ⟨rfl, rfl⟩⟩
theorem rBytes0 (l b : List UInt8) (hs : b.length ≤ 10000000) (hl : l.length ≤ 80000000) :
 Does Tryz.prog G 120 [] [.sl 1 (byD l), .sl 1 (byD b)] (fun h' r => h' = [.buf 5 1 (byD (l ++ bytesE b))] ∧ r = .buf 0 (l ++ bytesE b).length) := by
 have hu := (uintE_len10 b.length (by omega)).1
 refine does_of_aw Tryz.func120 rfl (Nat.le_of_ble_eq_true rfl) hG fun hl0 _ => ?_
 simp only [Tryz.ntmps120]
 repeat' first
  | refine aw_seq' ?_
  | refine aw_region' ?_
  | refine ao_nil ?_
  | (refine ao1 rfl rfl fun K HK => ?_; simp only [go_sem, ↓reduceIte, Nat.reduceEqDiff, Nat.reduceAdd, Nat.reduceLeDiff, Nat.reduceBEq, Nat.reduceMul, Int.reduceEq, Int.reduceLT, Int.reduceLE, byD_len, lenU (a := b.length) (by omega)] <;> (refine HK _ _ ?_; clear HK K))
  | refine ao_appR rfl rfl rfl (by (simp only [go_sem, ↓reduceIte, Nat.reduceEqDiff, Nat.reduceAdd, Nat.reduceLeDiff, Nat.reduceBEq, Nat.reduceMul, Int.reduceEq, Int.reduceLT, Int.reduceLE, byD_len, lenU (a := b.length) (by omega)]; rfl)) (by simp) (by simp only [go_sem]; rfl) rfl (by exact rowsOk_by _) (by (simp; omega)) ?_
  | (refine ao2 rfl rfl rfl ent_180 (rUint0 G hG l _ (by omega) (by omega)) ?_; rintro _ _ ⟨rfl, rfl⟩)
  | refine aw_ret ?_
 exact ⟨.inr rfl, endB (l := l ++ bytesE b) rfl (T := []) rfl (by simp [bytesE]; try omega) (by rw [byD_app, List.append_assoc]; rfl) ⟨rfl, rfl⟩⟩
end
end Go.Proofs.YtidpdgdakghfnaaGreat
