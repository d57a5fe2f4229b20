/-
  What the statements of the chapter share, part 13: WR1, WR2, WR3, PCmd, RR0, RT0, RT1, RI0.
-/
import Derived.Test.YtgkjcmglcnhpaaaGreatDoorO12
import Derived.Laws.BitsAllLaws
import Derived.Lib.Zigzag
set_option linter.unusedVariables false
set_option linter.unusedSimpArgs false
set_option maxRecDepth 100000
set_option maxHeartbeats 8000000
namespace Go.Proofs.YtgkjcmglcnhpaaaGreatDoor
open Go.RowKit
section
set_option maxRecDepth 100000
set_option maxHeartbeats 1000000
attribute [local irreducible] on aOp
attribute [local go_sem] decide_true decide_false Bool.not_true Bool.not_false
attribute [local simp] byD_len
variable (G : Nat → D) (hG : ∀ g, low 0 (G g))
def wG (n : Nat) (rows : List (List D)) (T : List Ob) : List Ob := .cells [.buf 1 n] :: .buf 5 1 rows :: T
def wH (l : List UInt8) : List Ob := wG l.length (byD l) []
theorem wH_eq (l : List UInt8) : wH l = wG l.length (byD l) [] := rfl
section
variable {n m : Nat} {rows r2 : List (List D)} {T l : List Ob}
theorem wG_0 : (wG n rows T)[0]? = some (.cells [.buf 1 n]) := rfl
theorem wG_1 : (wG n rows T)[1]? = some (.buf 5 1 rows) := rfl
theorem wG_s0 : (wG n rows T).set 0 (.cells [.buf 1 m]) = wG m rows T := rfl
theorem wG_s1 : (wG n rows T).set 1 (.buf 5 1 r2) = wG n r2 T := rfl
theorem wG_a0 : (wG n rows T ++ l)[0]? = some (.cells [.buf 1 n]) := rfl
theorem wG_a1 : (wG n rows T ++ l)[1]? = some (.buf 5 1 rows) := rfl
theorem wG_b0 : (wG n rows T ++ l).set 0 (.cells [.buf 1 m]) = wG m rows (T ++ l) := rfl
theorem wG_b1 : (wG n rows T ++ l).set 1 (.buf 5 1 r2) = wG n r2 (T ++ l) := rfl
end
theorem wG_eq {a b : Nat} {x y : List (List D)} (T : List Ob) (h : a = b) (k : x = y) : wG a x T = wG b y T := by rw [h, k]
theorem wG_low' (l l2 : List UInt8) : lowH (wH l).length (wH l2) := by
 intro x hx
 unfold wH wG at hx
 have : (wH l).length = 2 := rfl
 rw [this]
 simp at hx
 rcases hx with rfl | rfl
 · simp [lowOb, lowL, low]
 · exact low_by 2 l2
theorem endW {res : Array ResultVar} {K : List Ob → D → Prop} {l l2 : List UInt8} {n : Nat} {rows : List (List D)} {T : List Ob} {s : S} (h1 : resD Tryz.prog s res.toList = some []) (h2 : s.h = wG n rows T) (h3 : n = l2.length) (h4 : rows = byD l2) (hK : K (wH l2) (.tup [])) : EndD Tryz.prog res (wH l).length K s := by
 subst h3 h4
 have e : s.h.take (wH l).length = wH l2 := by rw [h2]; rfl
 refine ⟨[], _, h1, Nat.le_refl _, by rw [h2]; exact Nat.le_add_left 2 T.length, by rw [e]; exact wG_low' l l2, ?_, ?_⟩
 · simp [outD, cvD, low, lowL]
 · rw [e]; simpa [outD, cvD] using hK
theorem or_byte : ∀ m : Fin 256, IntKind.u8.wrap ((BitVec.ofInt 8 (m.val : Int) ||| BitVec.ofInt 8 128).toNat : Int) = ((m.val % 128 + 128 : Nat) : Int) := by decide +kernel
theorem u8_wrap (m : Nat) : IntKind.u8.wrap (m : Int) = ((m % 256 : Nat) : Int) := by simp [IntKind.wrap, IntKind.bits, IntKind.signed]
theorem byte_lo (m : Nat) (h : m < 256) : ((UInt8.ofNat m).toNat : Int) = (m : Int) := by simp; omega
theorem byte_hi (m : Nat) : IntKind.u8.wrap ((BitVec.ofInt 8 (IntKind.u8.wrap (m : Int)) ||| BitVec.ofInt 8 128).toNat : Int) = ((UInt8.ofNat (m % 128 + 128)).toNat : Int) := by
 have h := or_byte ⟨m % 256, Nat.mod_lt _ (by omega)⟩
 rw [u8_wrap m, byte_lo _ (by omega)]
 refine h.trans ?_
 show ((m % 256 % 128 + 128 : Nat) : Int) = _
 omega
theorem byD_one (l : List UInt8) (b : UInt8) {z : Int} (h : z = (b.toNat : Int)) : byD l ++ [[.v (.int .u8 z)]] = byD (l ++ [b]) := by subst h; simp [byD]
theorem fdiv128 (m : Nat) : (m : Int).fdiv (2 ^ min (Int.toNat 7) 64) = ((m / 128 : Nat) : Int) := by
 rw [show (2 : Int) ^ min (Int.toNat 7) 64 = 128 by decide, Int.fdiv_eq_ediv_of_nonneg _ (by omega)]; omega
include hG
theorem wUint_d (l : List UInt8) (n : Nat) (hn : n < 18446744073709551616) (hl : l.length ≤ 100000000) :
 Does Tryz.prog G 80 (wH l) [.ptr 0 0, .v (.int .u64 n)] (fun h' r => h' = wH (l ++ uintE n) ∧ r = .tup []) := by
 refine does_of_aw Tryz.func80 rfl (Nat.le_of_ble_eq_true rfl) hG fun hl0 _ => ?_
 simp only [Tryz.ntmps80]
 repeat' first
  | refine aw_seq' ?_
  | refine aw_block ?_
 refine aw_for (fun m e h' => ∃ (k : Nat) (cur : List UInt8) (T : List Ob), m = k ∧ k < 18446744073709551616 ∧ cur ++ uintE k = l ++ uintE n ∧ h' = wG cur.length (byD cur) T ∧ e 0 = .ptr 0 0 ∧ e 1 = .v (.int .u64 k)) n ⟨n, l, [], rfl, hn, rfl, rfl, rfl, rfl⟩ ?_
 rintro m e h' ⟨k, cur, T, rfl, hk, hE, rfl, e0, e1⟩
 have hc : cur.length ≤ 100000010 := by
  have h1 := congrArg List.length hE
  rw [List.length_append, List.length_append] at h1
  have := (uintE_len10 n hn).1
  omega
 repeat' first
  | refine aw_seq' ?_
  | refine aw_region' ?_
  | refine aw_block ?_
  | refine ao_nil ?_
  | (refine ao1 rfl rfl fun K HK => ?_; simp only [go_sem, ↓reduceIte, Nat.reduceEqDiff, Nat.reduceAdd, Nat.reduceLeDiff, Nat.reduceBEq, Nat.reduceMul, Int.reduceEq, Int.reduceLT, Int.reduceLE, e0, e1, wG_0, wG_1, wG_s0, wG_s1, wG_a0, wG_a1, wG_b0, wG_b1]; (first | refine splitB (fun hq => ?_) (fun hq => ?_) | skip) <;> (refine HK _ _ ?_; clear HK K))
  | refine ao_appB rfl rfl rfl rfl (by (simp only [go_sem, ↓reduceIte, Nat.reduceEqDiff, Nat.reduceAdd, Nat.reduceLeDiff, Nat.reduceBEq, Nat.reduceMul, Int.reduceEq, Int.reduceLT, Int.reduceLE, e0, e1, wG_0, wG_1, wG_s0, wG_s1, wG_a0, wG_a1, wG_b0, wG_b1]; rfl)) (by simp) (by simp only [go_sem]; rfl) (by (simp only [go_sem, ↓reduceIte, Nat.reduceEqDiff, Nat.reduceAdd, Nat.reduceLeDiff, Nat.reduceBEq, Nat.reduceMul, Int.reduceEq, Int.reduceLT, Int.reduceLE, e0, e1, wG_0, wG_1, wG_s0, wG_s1, wG_a0, wG_a1, wG_b0, wG_b1]; rfl)) (by simp) (by (simp [rowsOk, D.one, Value.oneCell']; done)) (by (simp; omega)) ?_
  | (refine ao1' rfl fun K HK => ?_; simp only [go_sem, ↓reduceIte, Nat.reduceEqDiff, Nat.reduceAdd, Nat.reduceLeDiff, Nat.reduceBEq, Nat.reduceMul, Int.reduceEq, Int.reduceLT, Int.reduceLE, e0, e1, wG_0, wG_1, wG_s0, wG_s1, wG_a0, wG_a1, wG_b0, wG_b1]; refine HK _ _ ?_; clear HK K)
  | refine aw_if1 rfl ?_
  | refine aw_if0 rfl ?_
  | refine aw_skip ?_
  | refine aw_exit ?_
  | refine thenS_n ?_
 · have e4 := fun T' => wG_eq T' (show cur.length + 1 = (cur ++ [UInt8.ofNat (m % 128 + 128)]).length by simp) (byD_one cur _ (byte_hi m))
   refine ⟨rfl, m / 128, by omega, m / 128, cur ++ [UInt8.ofNat (m % 128 + 128)], _, rfl, by omega, ?_, e4 _, ?_, ?_⟩
   · rw [List.append_assoc, ← hE, uintE_ge (n := m) (by omega)]; rfl
   · simp [upd, e0]
   · simp only [upd, fdiv128]; rfl
 · refine ⟨.inl rfl, endW (l2 := l ++ uintE n) rfl rfl ?_ ?_ ⟨rfl, rfl⟩⟩
   · rw [← hE, uintE_lt (by omega)]; simp
   · rw [← hE, uintE_lt (by omega), byD_one _ (UInt8.ofNat m)]
     rw [u8_wrap, byte_lo _ (by omega)]; omega
omit hG
theorem zz_pos (n : Int) (h0 : 0 ≤ n) (h2 : n ≤ 9223372036854775807) : bits .xor .u64 (n * 2) (n / 9223372036854775808) = ((zz n : Nat) : Int) := by
 have e : n / 9223372036854775808 = 0 := by omega
 rw [e, u64_xor (n * 2) 0 (by omega) (by omega) (by omega) (by omega)]
 unfold zz
 rw [if_pos h0]
 simp
 omega
theorem xor_ones (b : Nat) (hb : b < 2 ^ 64) : b ^^^ (2 ^ 64 - 1) = 2 ^ 64 - 1 - b := by rw [Nat.xor_comm]; exact Lib.xor_ones64 b hb
theorem zz_neg (n : Int) (h1 : -9223372036854775808 ≤ n) (h0 : ¬ 0 ≤ n) : bits .xor .u64 (IntKind.u64.wrap (IntKind.u64.wrap n * 2)) (IntKind.u64.wrap (n / 9223372036854775808)) = ((zz n : Nat) : Int) := by
 have e0 : IntKind.u64.wrap n = n + 18446744073709551616 := by rw [IntKind.wrap_u64]; omega
 have e1 : IntKind.u64.wrap (IntKind.u64.wrap n * 2) = 2 * n + 18446744073709551616 := by rw [e0, IntKind.wrap_u64]; omega
 have e2 : IntKind.u64.wrap (n / 9223372036854775808) = 18446744073709551615 := by
  have : n / 9223372036854775808 = -1 := by omega
  rw [this, IntKind.wrap_u64]; rfl
 rw [e1, e2, u64_xor _ _ (by omega) (by omega) (by omega) (by omega)]
 have e3 : (18446744073709551615 : Int).toNat = 2 ^ 64 - 1 := rfl
 rw [e3, xor_ones _ (by omega)]
 unfold zz
 rw [if_neg h0]
 omega
theorem zzE {n : Int} (hn : I64 n) : IntKind.u64.wrap ((BitVec.ofInt 64 (IntKind.u64.wrap (IntKind.u64.wrap n * 2 ^ min (Int.toNat 1) 64)) ^^^ BitVec.ofInt 64 (IntKind.u64.wrap (n.fdiv (2 ^ min (Int.toNat 63) 64)))).toNat : Int) = ((zz n : Nat) : Int) := by
 obtain ⟨h1, h2⟩ := hn
 have e1 : (2 : Int) ^ min (Int.toNat 1) 64 = 2 := by decide
 have e2 : n.fdiv (2 ^ min (Int.toNat 63) 64) = n / 9223372036854775808 := by
  rw [show (2 : Int) ^ min (Int.toNat 63) 64 = 9223372036854775808 by decide, Int.fdiv_eq_ediv_of_nonneg _ (by omega)]
 rw [e1, e2]
 by_cases h0 : 0 ≤ n
 · have w1 : IntKind.u64.wrap n = n := by rw [IntKind.wrap_u64]; omega
   have w2 : IntKind.u64.wrap (n * 2) = n * 2 := by rw [IntKind.wrap_u64]; omega
   have w3 : IntKind.u64.wrap (n / 9223372036854775808) = n / 9223372036854775808 := by rw [IntKind.wrap_u64]; omega
   rw [w1, w2, w3]
   exact zz_pos n h0 h2
 · exact zz_neg n h1 h0
theorem lenU {a : Nat} (h : a ≤ 100000000) : IntKind.u64.wrap (a : Int) = (a : Int) := by rw [IntKind.wrap_u64]; omega
include hG
theorem wUint_z {l : List UInt8} {n : Nat} {Z : Int} (hz : Z = (n : Int)) (hn : n < 18446744073709551616) (hl : l.length ≤ 100000000) :
 Does Tryz.prog G 80 (wH l) [.ptr 0 0, .v (.int .u64 Z)] (fun h' r => h' = wH (l ++ uintE n) ∧ r = .tup []) := hz ▸ wUint_d G hG l n hn hl
theorem wInt_d (l : List UInt8) (n : Int) (hn : I64 n) (hl : l.length ≤ 100000000) :
 Does Tryz.prog G 79 (wH l) [.ptr 0 0, .v (.int .i64 n)] (fun h' r => h' = wH (l ++ intE n) ∧ r = .tup []) := by
 refine does_of_aw Tryz.func79 rfl (Nat.le_of_ble_eq_true rfl) hG fun hl0 _ => ?_
 simp only [Tryz.ntmps79]
 repeat' first
  | refine aw_region' ?_
  | refine ao_nil ?_
  | (refine ao1 rfl rfl fun K HK => ?_; simp only [go_sem, ↓reduceIte, Nat.reduceEqDiff, Nat.reduceAdd, Nat.reduceLeDiff, Nat.reduceBEq, Nat.reduceMul, Int.reduceEq, Int.reduceLT, Int.reduceLE] <;> (refine HK _ _ ?_; clear HK K))
  | (refine ao2 rfl rfl rfl ent_80 (wUint_z G hG (zzE hn) (zz_lt n hn.1 hn.2) hl) ?_; rintro _ _ ⟨rfl, rfl⟩)
 exact ⟨.inl rfl, endW (l2 := l ++ intE n) rfl rfl rfl rfl ⟨rfl, rfl⟩⟩
theorem wText_d (l : List UInt8) (s : ByteArray) (hs : s.size ≤ 10000000) (hl : l.length ≤ 80000000) :
 Does Tryz.prog G 55 (wH l) [.ptr 0 0, .v (.string s)] (fun h' r => h' = wH (l ++ textE s) ∧ r = .tup []) := by
 have hu := (uintE_len10 s.size (by omega)).1
 refine does_of_aw Tryz.func55 rfl (Nat.le_of_ble_eq_true rfl) hG fun hl0 _ => ?_
 simp only [Tryz.ntmps55]
 repeat' first
  | refine aw_seq' ?_
  | refine aw_region' ?_
  | refine ao_nil ?_
  | (refine ao1 rfl rfl fun K HK => ?_; simp only [go_sem, ↓reduceIte, Nat.reduceEqDiff, Nat.reduceAdd, Nat.reduceLeDiff, Nat.reduceBEq, Nat.reduceMul, Int.reduceEq, Int.reduceLT, Int.reduceLE, wH_eq, wG_0, wG_1, wG_s0, wG_s1, wG_a0, wG_a1, wG_b0, wG_b1, lenU (a := s.size) (by omega)] <;> (refine HK _ _ ?_; clear HK K))
  | refine ao_appR rfl rfl rfl (by (simp only [go_sem, ↓reduceIte, Nat.reduceEqDiff, Nat.reduceAdd, Nat.reduceLeDiff, Nat.reduceBEq, Nat.reduceMul, Int.reduceEq, Int.reduceLT, Int.reduceLE, wH_eq, wG_0, wG_1, wG_s0, wG_s1, wG_a0, wG_a1, wG_b0, wG_b1, lenU (a := s.size) (by omega)]; rfl)) (by simp) (by simp only [go_sem]; rfl) rfl (by exact rowsOk_by _) (by (simp; omega)) ?_
  | (refine ao2 rfl rfl rfl ent_80 (wUint_d G hG l _ (by omega) (by omega)) ?_; rintro _ _ ⟨rfl, rfl⟩)
  | (refine ao1' rfl fun K HK => ?_; simp only [go_sem, ↓reduceIte, Nat.reduceEqDiff, Nat.reduceAdd, Nat.reduceLeDiff, Nat.reduceBEq, Nat.reduceMul, Int.reduceEq, Int.reduceLT, Int.reduceLE, wH_eq, wG_0, wG_1, wG_s0, wG_s1, wG_a0, wG_a1, wG_b0, wG_b1, lenU (a := s.size) (by omega)]; refine HK _ _ ?_; clear HK K)
 exact ⟨.inl rfl, endW (l2 := l ++ textE s) rfl rfl (by simp [textE]; try omega) (by rw [byD_app, List.append_assoc]; rfl) ⟨rfl, rfl⟩⟩
theorem wBytes_d (l b : List UInt8) (hs : b.length ≤ 10000000) (hl : l.length ≤ 80000000) :
 Does Tryz.prog G 45 (wH l) [.ptr 0 0, .sl 1 (byD b)] (fun h' r => h' = wH (l ++ bytesE b) ∧ r = .tup []) := by
 have hu := (uintE_len10 b.length (by omega)).1
 refine does_of_aw Tryz.func45 rfl (Nat.le_of_ble_eq_true rfl) hG fun hl0 _ => ?_
 simp only [Tryz.ntmps45]
 repeat' first
  | refine aw_seq' ?_
  | refine aw_region' ?_
  | refine ao_nil ?_
  | (refine ao1 rfl rfl fun K HK => ?_; simp only [go_sem, ↓reduceIte, Nat.reduceEqDiff, Nat.reduceAdd, Nat.reduceLeDiff, Nat.reduceBEq, Nat.reduceMul, Int.reduceEq, Int.reduceLT, Int.reduceLE, wH_eq, wG_0, wG_1, wG_s0, wG_s1, wG_a0, wG_a1, wG_b0, wG_b1, byD_len, lenU (a := b.length) (by omega)] <;> (refine HK _ _ ?_; clear HK K))
  | refine ao_appR rfl rfl rfl (by (simp only [go_sem, ↓reduceIte, Nat.reduceEqDiff, Nat.reduceAdd, Nat.reduceLeDiff, Nat.reduceBEq, Nat.reduceMul, Int.reduceEq, Int.reduceLT, Int.reduceLE, wH_eq, wG_0, wG_1, wG_s0, wG_s1, wG_a0, wG_a1, wG_b0, wG_b1, byD_len, lenU (a := b.length) (by omega)]; rfl)) (by simp) (by simp only [go_sem]; rfl) rfl (by exact rowsOk_by _) (by (simp; omega)) ?_
  | (refine ao2 rfl rfl rfl ent_80 (wUint_d G hG l _ (by omega) (by omega)) ?_; rintro _ _ ⟨rfl, rfl⟩)
  | (refine ao1' rfl fun K HK => ?_; simp only [go_sem, ↓reduceIte, Nat.reduceEqDiff, Nat.reduceAdd, Nat.reduceLeDiff, Nat.reduceBEq, Nat.reduceMul, Int.reduceEq, Int.reduceLT, Int.reduceLE, wH_eq, wG_0, wG_1, wG_s0, wG_s1, wG_a0, wG_a1, wG_b0, wG_b1, byD_len, lenU (a := b.length) (by omega)]; refine HK _ _ ?_; clear HK K)
 exact ⟨.inl rfl, endW (l2 := l ++ bytesE b) rfl rfl (by simp [bytesE]; try omega) (by rw [byD_app, List.append_assoc]; rfl) ⟨rfl, rfl⟩⟩
theorem wData_d (l : List UInt8) (hl : l.length ≤ 100000000) :
 Does Tryz.prog G 46 (wH l) [.ptr 0 0] (fun h' r => h' = wH l ∧ r = .sl 1 (byD l)) := by
 refine does_of_aw Tryz.func46 rfl (Nat.le_of_ble_eq_true rfl) hG fun hl0 _ => ?_
 simp only [Tryz.ntmps46]
 repeat' first
  | refine aw_seq' ?_
  | refine aw_region' ?_
  | refine ao_nil ?_
  | (refine ao1 rfl rfl fun K HK => ?_; simp only [go_sem, ↓reduceIte, Nat.reduceEqDiff, Nat.reduceAdd, Nat.reduceLeDiff, Nat.reduceBEq, Nat.reduceMul, Int.reduceEq, Int.reduceLT, Int.reduceLE, wH_eq, wG_0, wG_1, wG_s0, wG_s1, wG_a0, wG_a1, wG_b0, wG_b1] <;> (refine HK _ _ ?_; clear HK K))
  | refine ao_appB rfl rfl rfl rfl (by (simp only [go_sem, ↓reduceIte, Nat.reduceEqDiff, Nat.reduceAdd, Nat.reduceLeDiff, Nat.reduceBEq, Nat.reduceMul, Int.reduceEq, Int.reduceLT, Int.reduceLE, wH_eq, wG_0, wG_1, wG_s0, wG_s1, wG_a0, wG_a1, wG_b0, wG_b1]; rfl)) (by simp) (by simp only [go_sem]; rfl) (by (simp only [go_sem, ↓reduceIte, Nat.reduceEqDiff, Nat.reduceAdd, Nat.reduceLeDiff, Nat.reduceBEq, Nat.reduceMul, Int.reduceEq, Int.reduceLT, Int.reduceLE, wH_eq, wG_0, wG_1, wG_s0, wG_s1, wG_a0, wG_a1, wG_b0, wG_b1]; rfl)) (by simp) (by exact rowsOk_by _) (by (simp; omega)) ?_
  | refine aw_ret ?_
 have e : ((wG l.length (byD l) [] ++ [Ob.buf 5 1 (byD l)]).take (wH l).length) = wH l := rfl
 refine ⟨.inr rfl, [.buf 2 l.length], 2, rfl, Nat.le_refl _, by simp [wG], ?_, ?_, ?_⟩
 · show lowH 2 ((wG l.length (byD l) [] ++ [Ob.buf 5 1 (byD l)]).take (wH l).length)
   rw [e]; exact hl0
 · simp [outD, cvD, cv1, wG, low_by]
 · refine ⟨e, ?_⟩
   simp [outD, cvD, cv1, wG]
end
section
set_option maxRecDepth 100000
set_option maxHeartbeats 1000000
attribute [local irreducible] on aOp
attribute [local go_sem] decide_true decide_false Bool.not_true Bool.not_false
attribute [local simp] byD_len
theorem renR_by (π : Nat → Nat) (l : List UInt8) : renR π (byD l) = byD l := by
 have := ren_low0 π (.sl 1 (byD l)) (low_by 0 l)
 rw [ren] at this
 exact (D.sl.inj this).2
variable (G : Nat → D) (hG : ∀ g, low 0 (G g))
include hG
theorem w_at {l l2 : List UInt8} {f : FuncId} {xs : List D} {r0 : D} (lx : lowL 0 xs) (lr : low 0 r0) (q : Does Tryz.prog G f (wH l) (.ptr 0 0 :: xs) (fun h' r => h' = wH l2 ∧ r = r0)) {h : List Ob} {i j : Nat} (hi : h[i]? = some (.cells [.buf j l.length])) (hj : h[j]? = some (.buf 5 1 (byD l))) :
 Does Tryz.prog G f h (.ptr i 0 :: xs) (fun h' r => h' = (h.set i (.cells [.buf j l2.length])).set j (.buf 5 1 (byD l2)) ∧ r = r0) := by
 have hij : i ≠ j := fun e => by subst e; rw [hi] at hj; cases hj
 have L : Lies (fun k => if k = 0 then i else j) (wH l) h := by
  refine ⟨fun k ob hk => ?_, fun a b ha hb hab => ?_, wG_low' l l⟩
  · rcases k with _ | _ | k
    · cases hk; simp only [renOb, renL, ren]; simpa using hi
    · cases hk; simp only [renOb, renR_by]; simpa using hj
    · cases hk
  · have ha : a < 2 := ha
    have hb : b < 2 := hb
    have hab : (if a = 0 then i else j) = (if b = 0 then i else j) := hab
    split at hab <;> split at hab <;> omega
 have F := Does.frame hG L (args := .ptr 0 0 :: xs) (by rw [lowL, low]; exact ⟨Nat.zero_lt_succ _, lowL_mono (Nat.zero_le _) _ lx⟩) (K1 := fun h' r => h' = wH l2 ∧ r = r0) (by
  rintro _ _ ⟨rfl, _⟩
  refine ⟨fun a b ha hb hab => ?_, fun k h1 h2 => ?_⟩
  · have ha : a < 2 := ha
    have hb : b < 2 := hb
    have hab : (if a = 0 then i else j) = (if b = 0 then i else j) := hab
    split at hab <;> split at hab <;> omega
  · have h1 : 2 ≤ k := h1
    have h2 : k < 2 := h2
    omega) q
 rw [renL, ren, renL_low0 _ _ lx] at F
 refine F.mono ?_
 rintro _ _ ⟨_, _, ⟨rfl, rfl⟩, rfl, rfl⟩
 refine ⟨?_, ren_low0 _ _ lr⟩
 simp only [wH, wG, List.map_cons, List.map_nil, plc, renOb, renL, ren, renR_by]
 rfl
theorem w_tail {l l2 : List UInt8} {f : FuncId} {xs : List D} {r0 : D} (lx : lowL 0 xs) (lr : low 0 r0) (q : Does Tryz.prog G f (wH l) (.ptr 0 0 :: xs) (fun h' r => h' = wH l2 ∧ r = r0)) {n : Nat} {T : List Ob} (hn : n = l.length) :
 Does Tryz.prog G f (wG n (byD l) T) (.ptr 0 0 :: xs) (fun h' r => h' = wG l2.length (byD l2) T ∧ r = r0) := by
 subst hn
 exact w_at G hG lx lr q (i := 0) (j := 1) rfl rfl
omit hG
structure Cmd where
 client : Int
 seq : Int
 kind : Int
 writes : List (ByteArray × List UInt8)
 replica : Int
 tag : List UInt8
def wrX (x : ByteArray × List UInt8) : List D := [.v (.string x.1), .sl 1 (byD x.2)]
def cmdX (c : Cmd) : List D := [.v (.int .i64 c.client), .v (.int .i64 c.seq), .v (.int .i64 c.kind), .sl 2 (c.writes.map wrX), .v (.int .i64 c.replica), .sl 1 (byD c.tag)]
theorem wrX_eq (x : ByteArray × List UInt8) : wrX x = [.v (.string x.1), .sl 1 (byD x.2)] := rfl
theorem cmdX_eq (c : Cmd) : cmdX c = [.v (.int .i64 c.client), .v (.int .i64 c.seq), .v (.int .i64 c.kind), .sl 2 (c.writes.map wrX), .v (.int .i64 c.replica), .sl 1 (byD c.tag)] := rfl
structure Cmd.Ok (c : Cmd) : Prop where
 client : I64 c.client
 seq : I64 c.seq
 kind : I64 c.kind
 replica : I64 c.replica
 many : c.writes.length ≤ 3000
 each : ∀ x ∈ c.writes, x.1.size ≤ 10000 ∧ x.2.length ≤ 10000
 tag : c.tag.length ≤ 10000
def writesE (l : List (ByteArray × List UInt8)) : List UInt8 := l.flatMap fun x => textE x.1 ++ bytesE x.2
def writeC (c : Cmd) : List UInt8 := intE c.client ++ intE c.seq ++ intE c.kind ++ uintE c.writes.length ++ writesE c.writes ++ intE c.replica
def encC (c : Cmd) : List UInt8 := writeC c ++ bytesE c.tag
theorem intE_len {n : Int} (h : I64 n) : (intE n).length ≤ 10 := (uintE_len10 _ (zz_lt n h.1 h.2)).1
theorem writesE_len : ∀ l : List (ByteArray × List UInt8), (∀ x ∈ l, x.1.size ≤ 10000 ∧ x.2.length ≤ 10000) → (writesE l).length ≤ 20020 * l.length
 | [], _ => by simp [writesE]
 | x :: t, h => by
  have h1 := h x (by simp)
  have h2 := writesE_len t fun y hy => h y (by simp [hy])
  have h3 := (uintE_len10 x.1.size (by omega)).1
  have h4 := (uintE_len10 x.2.length (by omega)).1
  have e : writesE (x :: t) = (textE x.1 ++ bytesE x.2) ++ writesE t := by simp [writesE]
  have e2 : x.1.data.toList.length = x.1.size := rfl
  rw [e]
  simp only [List.length_append, textE, bytesE, List.length_cons, e2]
  omega
theorem writesE_take {l : List (ByteArray × List UInt8)} {k : Nat} {x : ByteArray × List UInt8} (h : l[k]? = some x) : writesE (l.take (k + 1)) = writesE (l.take k) ++ textE x.1 ++ bytesE x.2 := by
 rw [List.take_add_one, h]
 simp [writesE]
def wB (n : Nat) (rows : List (List D)) (b : Ob) (T : List Ob) : List Ob := wG n rows (b :: T)
section
variable {n m : Nat} {rows r2 : List (List D)} {T : List Ob} {b x y : Ob}
theorem wB_2 : (wB n rows b T)[2]? = some b := rfl
theorem wB_app : wB n rows b T ++ [x] = wB n rows b (T ++ [x]) := rfl
theorem wB_len : (wB n rows b T).length = T.length + 3 := rfl
theorem wB_last : (wB n rows b (T ++ [x]))[T.length + 3]? = some x := by simp [wB, wG]
theorem wB_lset : (wB n rows b (T ++ [x])).set (T.length + 3) y = wB n rows b (T ++ [y]) := by simp [wB, wG]
theorem wH_box {l : List UInt8} : wH l ++ [x] = wB l.length (byD l) x [] := rfl
theorem wH_len {l : List UInt8} : (wH l).length = 2 := rfl
end
include hG
theorem w_b {l l2 : List UInt8} {f : FuncId} {xs : List D} {r0 : D} (lx : lowL 0 xs) (lr : low 0 r0) (q : Does Tryz.prog G f (wH l) (.ptr 0 0 :: xs) (fun h' r => h' = wH l2 ∧ r = r0)) {n : Nat} {b : Ob} {T : List Ob} (hn : n = l.length) :
 Does Tryz.prog G f (wB n (byD l) b T) (.ptr 0 0 :: xs) (fun h' r => h' = wB l2.length (byD l2) b T ∧ r = r0) := w_tail G hG lx lr q hn
theorem bInt (l : List UInt8) {n : Int} (hn : I64 n) (hl : l.length ≤ 100000000) {b : Ob} {T : List Ob} {n0 : Nat} (e0 : n0 = l.length) : Does Tryz.prog G 79 (wB n0 (byD l) b T) [.ptr 0 0, .v (.int .i64 n)] (fun h' r => h' = wB (l ++ intE n).length (byD (l ++ intE n)) b T ∧ r = .tup []) :=
 w_b G hG (by simp [lowL, low]) (by simp [low, lowL]) (wInt_d G hG l n hn hl) e0
theorem bUint (l : List UInt8) {n : Nat} (hn : n < 18446744073709551616) (hl : l.length ≤ 100000000) {b : Ob} {T : List Ob} {n0 : Nat} (e0 : n0 = l.length) : Does Tryz.prog G 80 (wB n0 (byD l) b T) [.ptr 0 0, .v (.int .u64 n)] (fun h' r => h' = wB (l ++ uintE n).length (byD (l ++ uintE n)) b T ∧ r = .tup []) :=
 w_b G hG (by simp [lowL, low]) (by simp [low, lowL]) (wUint_d G hG l n hn hl) e0
theorem bText (l : List UInt8) {s : ByteArray} (hs : s.size ≤ 10000000) (hl : l.length ≤ 80000000) {b : Ob} {T : List Ob} {n0 : Nat} (e0 : n0 = l.length) : Does Tryz.prog G 55 (wB n0 (byD l) b T) [.ptr 0 0, .v (.string s)] (fun h' r => h' = wB (l ++ textE s).length (byD (l ++ textE s)) b T ∧ r = .tup []) :=
 w_b G hG (by simp [lowL, low]) (by simp [low, lowL]) (wText_d G hG l s hs hl) e0
theorem bBytes (l : List UInt8) {x : List UInt8} (hs : x.length ≤ 10000000) (hl : l.length ≤ 80000000) {b : Ob} {T : List Ob} {n0 : Nat} (e0 : n0 = l.length) : Does Tryz.prog G 45 (wB n0 (byD l) b T) [.ptr 0 0, .sl 1 (byD x)] (fun h' r => h' = wB (l ++ bytesE x).length (byD (l ++ bytesE x)) b T ∧ r = .tup []) :=
 w_b G hG (by rw [lowL, lowL]; exact ⟨low_by _ _, trivial⟩) (by simp [low, lowL]) (wBytes_d G hG l x hs hl) e0
theorem write_d (l : List UInt8) (c : Cmd) (hc : c.Ok) (hl : l.length ≤ 1000000) :
 Does Tryz.prog G 44 (wH l) [.ptr 0 0, .agg (cmdX c)] (fun h' r => h' = wH (l ++ writeC c) ∧ r = .tup []) := by
 have h1 := intE_len hc.client
 have h2 := intE_len hc.seq
 have h3 := intE_len hc.kind
 have h4 := (uintE_len10 c.writes.length (by have := hc.many; omega)).1
 have hm := hc.many
 refine does_of_aw Tryz.func44 rfl (Nat.le_of_ble_eq_true rfl) hG fun hl0 _ => ?_
 simp only [Tryz.ntmps44]
 repeat' first
  | refine aw_seq' ?_
  | refine aw_region' ?_
  | refine aw_block ?_
  | refine ao_nil ?_
  | (refine ao1 rfl rfl fun K HK => ?_; simp only [go_sem, ↓reduceIte, Nat.reduceEqDiff, Nat.reduceAdd, Nat.reduceLeDiff, Nat.reduceBEq, Nat.reduceMul, Int.reduceEq, Int.reduceLT, Int.reduceLE, cmdX_eq, wH_box, wH_len, wB_2, lenU (a := c.writes.length) (by omega)] <;> (refine HK _ _ ?_; clear HK K))
  | (refine ao2 rfl rfl rfl ent_79 (bInt G hG _ hc.client (by first | omega | (simp only [List.length_append]; omega)) (by simp; try omega)) ?_; rintro _ _ ⟨rfl, rfl⟩)
  | (refine ao2 rfl rfl rfl ent_79 (bInt G hG _ hc.seq (by first | omega | (simp only [List.length_append]; omega)) (by simp; try omega)) ?_; rintro _ _ ⟨rfl, rfl⟩)
  | (refine ao2 rfl rfl rfl ent_79 (bInt G hG _ hc.kind (by first | omega | (simp only [List.length_append]; omega)) (by simp; try omega)) ?_; rintro _ _ ⟨rfl, rfl⟩)
  | (refine ao2 rfl rfl rfl ent_80 (bUint G hG _ (n := c.writes.length) (by omega) (by first | omega | (simp only [List.length_append]; omega)) (by simp; try omega)) ?_; rintro _ _ ⟨rfl, rfl⟩)
 have hb := writesE_len c.writes hc.each
 generalize hP : l ++ (intE c.client ++ (intE c.seq ++ (intE c.kind ++ uintE c.writes.length))) = P
 have hPl : P.length ≤ 1000040 := by rw [← hP]; simp only [List.length_append]; omega
 have hPn : l.length + ((intE c.client).length + ((intE c.seq).length + ((intE c.kind).length + (uintE c.writes.length).length))) = P.length := by rw [← hP]; simp only [List.length_append]
 rw [hPn]
 refine aw_for (fun m e h' => ∃ (k n0 : Nat) (cur : List UInt8) (T : List Ob), k ≤ c.writes.length ∧ m = c.writes.length - k ∧ n0 = cur.length ∧ cur = P ++ writesE (c.writes.take k) ∧ h' = wB n0 (byD cur) (.cells (cmdX c)) T ∧ e 0 = .ptr 0 0 ∧ e 3 = .ptr 2 0 ∧ e 25 = .sl 2 (c.writes.map wrX) ∧ e 26 = .v (.int .i64 c.writes.length) ∧ e 27 = .v (.int .i64 k)) c.writes.length ⟨0, _, P, [], Nat.zero_le _, rfl, rfl, by simp [writesE], rfl, rfl, rfl, rfl, rfl, rfl⟩ ?_
 rintro m e h' ⟨k, n0, cur, T, hk, rfl, hn0, hcur, rfl, e0, e3, e25, e26, e27⟩
 have hcl : cur.length ≤ 70000000 := by
  have h5 := writesE_len (c.writes.take k) fun x hx => hc.each x (List.mem_of_mem_take hx)
  rw [hcur, List.length_append]
  have := List.length_take_le k c.writes
  omega
 by_cases hlt : k < c.writes.length
 · have hx : c.writes[k]? = some c.writes[k] := List.getElem?_eq_getElem hlt
   have hxm := hc.each _ (List.getElem_mem hlt)
   generalize c.writes[k] = x at hx hxm
   have ht : (textE x.1).length ≤ 10010 := by
    have h6 := (uintE_len10 x.1.size (by omega)).1
    have e2 : x.1.data.toList.length = x.1.size := rfl
    simp only [textE, List.length_append, e2]; omega
   have wk : IntKind.i64.wrap ((k : Int) + 1) = (k : Int) + 1 := IntWalk.i64_in _ (by omega)
   repeat' first
    | refine aw_seq' ?_
    | refine aw_region' ?_
    | refine aw_block ?_
    | refine ao_nil ?_
    | (refine ao1 rfl rfl fun K HK => ?_; simp only [go_sem, ↓reduceIte, Nat.reduceEqDiff, Nat.reduceAdd, Nat.reduceLeDiff, Nat.reduceBEq, Nat.reduceMul, Int.reduceEq, Int.reduceLT, Int.reduceLE, e0, e3, e25, e26, e27, wrX_eq, wB_2, wB_app, wB_len, wB_last, wB_lset, wk, Int.toNat_natCast]; (first | refine splitB (fun hq => ?_) (fun hq => ?_) | (refine ⟨by omega, by omega, ?_⟩; refine row_at (by assumption) ?_) | skip) <;> (refine HK _ _ ?_; clear HK K))
    | (refine ao2 rfl rfl rfl ent_55 (bText G hG cur (s := x.1) (by omega) (by omega) hn0) ?_; rintro _ _ ⟨rfl, rfl⟩)
    | (refine ao2 rfl rfl rfl ent_45 (bBytes G hG (cur ++ textE x.1) (x := x.2) (by omega) (by simp only [List.length_append]; omega) (by simp)) ?_; rintro _ _ ⟨rfl, rfl⟩)
    | (refine ao1' rfl fun K HK => ?_; simp only [go_sem, ↓reduceIte, Nat.reduceEqDiff, Nat.reduceAdd, Nat.reduceLeDiff, Nat.reduceBEq, Nat.reduceMul, Int.reduceEq, Int.reduceLT, Int.reduceLE, e0, e3, e25, e26, e27, wrX_eq, wB_2, wB_app, wB_len, wB_last, wB_lset, wk, Int.toNat_natCast]; refine HK _ _ ?_; clear HK K)
    | refine aw_if1 rfl ?_
    | refine aw_if0 rfl ?_
    | refine aw_skip ?_
    | refine aw_exit ?_
    | refine thenS_n ?_
    | (exfalso; omega)
   have hcur' : cur ++ (textE x.1 ++ bytesE x.2) = P ++ writesE (c.writes.take (k + 1)) := by rw [writesE_take hx, hcur]; simp
   exact ⟨rfl, c.writes.length - (k + 1), by omega, k + 1, _, cur ++ (textE x.1 ++ bytesE x.2), _, hlt, rfl, (by simp), hcur', rfl, e0, e3, e25, e26, rfl⟩
 · skip
   repeat' first
    | refine aw_seq' ?_
    | refine aw_region' ?_
    | refine aw_block ?_
    | refine ao_nil ?_
    | (refine ao1 rfl rfl fun K HK => ?_; simp only [go_sem, ↓reduceIte, Nat.reduceEqDiff, Nat.reduceAdd, Nat.reduceLeDiff, Nat.reduceBEq, Nat.reduceMul, Int.reduceEq, Int.reduceLT, Int.reduceLE, e0, e3, e25, e26, e27, cmdX_eq, wB_2]; (first | refine splitB (fun hq => ?_) (fun hq => ?_) | (refine ⟨by omega, by omega, ?_⟩; intro row hrow; obtain ⟨x, hx, rfl⟩ := row_inv hrow; clear hrow) | skip) <;> (refine HK _ _ ?_; clear HK K))
    | (refine ao2 rfl rfl rfl ent_79 (bInt G hG cur hc.replica (by omega) hn0) ?_; rintro _ _ ⟨rfl, rfl⟩)
    | refine aw_if1 rfl ?_
    | refine aw_if0 rfl ?_
    | refine aw_skip ?_
    | refine aw_exit ?_
    | (exfalso; omega)
   have hcur' : cur ++ intE c.replica = l ++ writeC c := by
    rw [hcur, ← hP, List.take_of_length_le (by omega)]
    simp [writeC]
   exact ⟨.inl rfl, endW (l2 := l ++ writeC c) rfl rfl (by rw [← hcur']) (by rw [← hcur']) ⟨rfl, rfl⟩⟩
end
section
set_option maxRecDepth 100000
set_option maxHeartbeats 1000000
attribute [local irreducible] on aOp
attribute [local go_sem] decide_true decide_false Bool.not_true Bool.not_false
attribute [local simp] byD_len
variable (G : Nat → D) (hG : ∀ g, low 0 (G g))
def hE (c : Cmd) (n : Nat) (rows : List (List D)) : List Ob := [.cells (cmdX c), .cells [.buf 2 n], .buf 5 1 rows]
theorem low_wr (m : Nat) (l : List (ByteArray × List UInt8)) : low m (.sl 2 (l.map wrX)) := by
 rw [low, lowR_iff]
 intro row hr
 obtain ⟨b, _, rfl⟩ := List.mem_map.1 hr
 rw [wrX, lowL, lowL, lowL]
 exact ⟨by simp [low], low_by _ _, trivial⟩
theorem low_cmd (m : Nat) (c : Cmd) : lowL m (cmdX c) := by
 rw [cmdX]
 simp only [lowL]
 exact ⟨by simp [low], by simp [low], by simp [low], low_wr _ _, by simp [low], low_by _ _, trivial⟩
theorem hE_0 {c : Cmd} {n : Nat} {rows : List (List D)} : (hE c n rows)[0]? = some (.cells (cmdX c)) := rfl
theorem low_agg (m : Nat) (c : Cmd) : low m (.agg (cmdX c)) := by rw [low]; exact low_cmd m c
include hG
theorem does_any {P : Program} {f : FuncId} {args : List D} {r : D} (la : lowL 0 args) (lr : low 0 r) (q : Does P G f [] args (fun h' r' => h' = [] ∧ r' = r)) (h : List Ob) : Does P G f h args (fun h' r' => h' = h ∧ r' = r) := by
 have L : Lies (fun i => i) [] h := ⟨fun i ob q => by simp at q, fun i j q => by simp at q, fun ob q => by simp at q⟩
 have F := Does.frame hG L (args := args) la (K1 := fun h1 r1 => h1 = [] ∧ r1 = r) (by
  rintro _ _ ⟨rfl, _⟩
  exact ⟨fun i j hi => by simp at hi, fun j _ hj => by simp at hj⟩) q
 rw [renL_low0 _ _ la] at F
 refine F.mono ?_
 rintro _ _ ⟨_, _, ⟨rfl, rfl⟩, rfl, rfl⟩
 exact ⟨rfl, ren_low0 _ _ lr⟩
theorem e_write (c : Cmd) (hc : c.Ok) : Does Tryz.prog G 44 (hE c 0 []) [.ptr 1 0, .agg (cmdX c)] (fun h' r => h' = hE c (writeC c).length (byD (writeC c)) ∧ r = .tup []) :=
 w_at G hG (l := []) (l2 := writeC c) (by rw [lowL, lowL]; exact ⟨low_agg _ _, trivial⟩) (by simp [low, lowL]) (write_d G hG [] c hc (by simp)) (i := 1) (j := 2) rfl rfl
theorem e_bytes (c : Cmd) (l x : List UInt8) (hs : x.length ≤ 10000000) (hl : l.length ≤ 80000000) : Does Tryz.prog G 45 (hE c l.length (byD l)) [.ptr 1 0, .sl 1 (byD x)] (fun h' r => h' = hE c (l ++ bytesE x).length (byD (l ++ bytesE x)) ∧ r = .tup []) :=
 w_at G hG (by rw [lowL, lowL]; exact ⟨low_by _ _, trivial⟩) (by simp [low, lowL]) (wBytes_d G hG l x hs hl) (i := 1) (j := 2) rfl rfl
theorem e_data (c : Cmd) (l : List UInt8) (hl : l.length ≤ 100000000) : Does Tryz.prog G 46 (hE c l.length (byD l)) [.ptr 1 0] (fun h' r => h' = hE c l.length (byD l) ∧ r = .sl 1 (byD l)) :=
 w_at G hG (by rw [lowL]; trivial) (low_by _ _) (wData_d G hG l hl) (i := 1) (j := 2) rfl rfl
omit hG in
theorem writeC_len (c : Cmd) (hc : c.Ok) : (writeC c).length ≤ 60061000 := by
 have h1 := intE_len hc.client
 have h2 := intE_len hc.seq
 have h3 := intE_len hc.kind
 have h5 := intE_len hc.replica
 have h4 := (uintE_len10 c.writes.length (by have := hc.many; omega)).1
 have h6 := writesE_len c.writes hc.each
 have hm := hc.many
 simp only [writeC, List.length_append]
 omega
omit hG in
theorem encC_len (c : Cmd) (hc : c.Ok) : (encC c).length ≤ 60072000 := by
 have h1 := writeC_len c hc
 have h2 := hc.tag
 have h4 := (uintE_len10 c.tag.length (by omega)).1
 simp only [encC, bytesE, List.length_append]
 omega
theorem encode_d (c : Cmd) (hc : c.Ok) (h : List Ob) : Does Tryz.prog G 17 h [.agg (cmdX c)] (fun h' r => h' = h ∧ r = .sl 1 (byD (encC c))) := by
 refine does_any G hG (by rw [lowL, lowL]; exact ⟨low_agg _ _, trivial⟩) (low_by _ _) ?_ h
 have hw := writeC_len c hc
 have ht := hc.tag
 refine does_of_aw Tryz.func17 rfl (Nat.le_of_ble_eq_true rfl) hG fun hl0 _ => ?_
 simp only [Tryz.ntmps17]
 repeat' first
  | (refine ao_nilcell 5 1 1 [] [] rfl ?_)
  | refine aw_seq' ?_
  | refine aw_region' ?_
  | refine ao_nil ?_
  | (refine ao1 rfl rfl fun K HK => ?_; simp only [go_sem, ↓reduceIte, Nat.reduceEqDiff, Nat.reduceAdd, Nat.reduceLeDiff, Nat.reduceBEq, Nat.reduceMul, Int.reduceEq, Int.reduceLT, Int.reduceLE, hE_0, cmdX_eq] <;> (refine HK _ _ ?_; clear HK K))
  | (refine ao2 rfl rfl rfl ent_44 (e_write G hG c hc) ?_; rintro _ _ ⟨rfl, rfl⟩)
  | (refine ao2 rfl rfl rfl ent_45 (e_bytes G hG c _ _ (by omega) (by omega)) ?_; rintro _ _ ⟨rfl, rfl⟩)
  | (refine ao2 rfl rfl rfl ent_46 (e_data G hG c (encC c) (by have := encC_len c hc; omega)) ?_; rintro _ _ ⟨rfl, rfl⟩)
  | refine aw_ret ?_
 exact ⟨.inr rfl, endD (r := .sl 1 (byD (encC c))) hl0 rfl (by simp) (by simp) (by simp [outD, cvD, cv1, upd]) (low_by _ _) ⟨rfl, rfl⟩⟩
end
section
theorem tks_bytes : Tks rdBytes bytesE := ⟨fun _ h => ⟨(rdBytes_ok h).1, (rdBytes_ok h).2.1⟩, fun s h he => rdBytes_took h he⟩
theorem tks_int : Tks rdInt intE := ⟨fun _ h => ⟨(rdInt_ok h).1, (rdInt_ok h).2.1⟩, fun s h he => rdInt_took h he⟩
theorem rds_bytes (b : List UInt8) : Rds rdBytes b (bytesE b) := fun s r ho he hl hr => by
 have hlen := congrArg List.length hr
 rw [List.length_drop, List.length_append] at hlen
 unfold bytesE at hlen
 rw [List.length_append] at hlen
 exact ⟨_, rdBytes_of he ho.pos (by omega) hr, rds_go ho he hr⟩
def rdWr (s : RS) : (ByteArray × List UInt8) × RS := (((rdText s).1, (rdBytes (rdText s).2).1), (rdBytes (rdText s).2).2)
def wrE (x : ByteArray × List UInt8) : List UInt8 := textE x.1 ++ bytesE x.2
theorem tks_wr : Tks rdWr wrE := ⟨fun s h => by
  obtain ⟨h1, h2⟩ := tks_text.ok s h
  obtain ⟨h3, h4⟩ := tks_bytes.ok _ h1
  exact ⟨h3, h4.trans h2⟩, fun s h he => by
  obtain ⟨h1, h2⟩ := tks_text.ok s h
  have t := tks_bytes.took _ h1 he
  exact (tks_text.took s h t.err.1).trans t⟩
theorem rds_wr (x : ByteArray × List UInt8) : Rds rdWr x (wrE x) :=
 (rds_text x.1).bind (rds_bytes x.2) fun s s' s'' e1 e2 => by unfold rdWr; rw [e1, e2]
theorem wrE_pos (x : ByteArray × List UInt8) : 1 ≤ (wrE x).length := by
 unfold wrE; rw [List.length_append]; have := textE_pos x.1; omega
theorem wrE_pos2 (x : ByteArray × List UInt8) : 2 + x.1.size + x.2.length ≤ (wrE x).length := by
 unfold wrE textE bytesE
 have h1 := uintE_pos x.1.size
 have h2 := uintE_pos x.2.length
 have e : x.1.data.toList.length = x.1.size := rfl
 simp only [List.length_append, e]; omega
def rdAll {α : Type} (f : RS → α × RS) : Nat → RS → List α × RS
 | 0, s => ([], s)
 | n + 1, s => ((f s).1 :: (rdAll f n (f s).2).1, (rdAll f n (f s).2).2)
theorem rdAll_bad {α : Type} {f : RS → α × RS} (hf : ∀ s, s.err ≠ 0 → (f s).2 = s) : ∀ (n : Nat) (s : RS), s.err ≠ 0 → (rdAll f n s).2 = s
 | 0, s, h => rfl
 | n + 1, s, h => by rw [rdAll]; simp only [hf s h]; exact rdAll_bad hf n s h
theorem rdAll_snd {α : Type} {f : RS → α × RS} (hf : ∀ s, s.err ≠ 0 → (f s).2 = s) : ∀ (n : Nat) (s : RS), (rdAll f n s).2 = (rdLoop f n s).2
 | 0, s => rfl
 | n + 1, s => by
  by_cases h : s.err = 0
  · rw [rdLoop_go f n s h, rdAll]; exact rdAll_snd hf n _
  · rw [rdLoop_bad f _ s h]; exact rdAll_bad hf _ s h
theorem rdAll_eq {α : Type} {f : RS → α × RS} (hf : ∀ s, s.err ≠ 0 → (f s).2 = s) : ∀ (n : Nat) (s : RS), (rdAll f n s).2.err = 0 → rdAll f n s = rdLoop f n s
 | 0, s, h => rfl
 | n + 1, s, h => by
  by_cases h0 : s.err = 0
  · rw [rdLoop_go f n s h0, rdAll, rdAll_eq hf n _ h]
  · rw [rdAll_bad hf _ s h0] at h; exact absurd h h0
theorem rdText_bad {s : RS} (h : s.err ≠ 0) : (rdText s).2 = s := by unfold rdText rdBytes; rw [if_pos h]
theorem rdBytes_bad {s : RS} (h : s.err ≠ 0) : (rdBytes s).2 = s := by unfold rdBytes; rw [if_pos h]
theorem rdUint_bad {s : RS} (h : s.err ≠ 0) : (rdUint s).2 = s := by unfold rdUint; rw [if_pos h]
theorem rdWr_bad {s : RS} (h : s.err ≠ 0) : (rdWr s).2 = s := by unfold rdWr; simp only; rw [rdText_bad h, rdBytes_bad h]
def rdC1 (s : RS) : (Int × Int × Int) × RS := (((rdInt s).1, (rdInt (rdInt s).2).1, (rdInt (rdInt (rdInt s).2).2).1), (rdInt (rdInt (rdInt s).2).2).2)
def rdCw (g : RS → List (ByteArray × List UInt8) × RS) (s : RS) : Cmd × RS :=
 (⟨(rdInt s).1, (rdInt (rdInt s).2).1, (rdInt (rdInt (rdInt s).2).2).1, (g (rdInt (rdInt (rdInt s).2).2).2).1, (rdInt (g (rdInt (rdInt (rdInt s).2).2).2).2).1, (rdBytes (rdInt (g (rdInt (rdInt (rdInt s).2).2).2).2).2).1⟩, (rdBytes (rdInt (g (rdInt (rdInt (rdInt s).2).2).2).2).2).2)
def rdCmd : RS → Cmd × RS := rdCw (rdList rdWr)
def rdListA {α : Type} (f : RS → α × RS) (s : RS) : List α × RS := rdAll f (rdCount s).1 (rdCount s).2
def rdCmdA : RS → Cmd × RS := rdCw (rdListA rdWr)
theorem rdInt_bad {s : RS} (h : s.err ≠ 0) : (rdInt s).2 = s := rdUint_bad h
theorem rdCmdA_snd (s : RS) : (rdCmdA s).2 = (rdCmd s).2 := by
 unfold rdCmdA rdCmd rdCw rdListA rdList
 simp only [rdAll_snd (fun s h => rdWr_bad h)]
theorem rdCmdA_eq {s : RS} (h : (rdCmdA s).2.err = 0) : rdCmdA s = rdCmd s := by
 have hl : (rdListA rdWr (rdInt (rdInt (rdInt s).2).2).2).2.err = 0 := by
  apply Classical.byContradiction
  intro hn
  unfold rdCmdA rdCw at h
  simp only at h
  rw [rdInt_bad hn, rdBytes_bad hn] at h
  exact hn h
 have e : rdListA rdWr (rdInt (rdInt (rdInt s).2).2).2 = rdList rdWr (rdInt (rdInt (rdInt s).2).2).2 := rdAll_eq (fun s h => rdWr_bad h) _ _ hl
 unfold rdCmdA rdCmd rdCw
 rw [e]
theorem writesE_eq (l : List (ByteArray × List UInt8)) : writesE l = l.flatMap wrE := rfl
theorem tks_cmd : Tks rdCmd encC := ⟨fun s h => by
  obtain ⟨h1, k1⟩ := tks_int.ok s h
  obtain ⟨h2, k2⟩ := tks_int.ok _ h1
  obtain ⟨h3, k3⟩ := tks_int.ok _ h2
  obtain ⟨h4, k4⟩ := (tks_list tks_wr).ok _ h3
  obtain ⟨h5, k5⟩ := tks_int.ok _ h4
  obtain ⟨h6, k6⟩ := tks_bytes.ok _ h5
  exact ⟨h6, k6.trans (k5.trans (k4.trans (k3.trans (k2.trans k1))))⟩, fun s h he => by
  obtain ⟨h1, k1⟩ := tks_int.ok s h
  obtain ⟨h2, k2⟩ := tks_int.ok _ h1
  obtain ⟨h3, k3⟩ := tks_int.ok _ h2
  obtain ⟨h4, k4⟩ := (tks_list tks_wr).ok _ h3
  obtain ⟨h5, k5⟩ := tks_int.ok _ h4
  have t6 := tks_bytes.took _ h5 he
  have t5 := tks_int.took _ h4 t6.err.1
  have t4 := (tks_list tks_wr).took _ h3 t5.err.1
  have t3 := tks_int.took _ h2 t4.err.1
  have t2 := tks_int.took _ h1 t3.err.1
  have t1 := tks_int.took _ h t2.err.1
  have := ((((t1.trans t2).trans t3).trans t4).trans t5).trans t6
  unfold encC writeC
  rw [writesE_eq]
  simp only [List.append_assoc] at this ⊢
  exact this⟩
theorem rds_cmd {c : Cmd} (hc : c.Ok) : Rds rdCmd c (encC c) := by
 have r1 := rds_int hc.client
 have r2 := rds_int hc.seq
 have r3 := rds_int hc.kind
 have r4 := rds_list wrE_pos c.writes fun x _ => rds_wr x
 have r5 := rds_int hc.replica
 have r6 := rds_bytes c.tag
 intro s r ho he hl hr
 unfold encC writeC at hr ⊢
 rw [writesE_eq] at hr ⊢
 simp only [List.append_assoc] at hr
 obtain ⟨s1, e1, o1, t1⟩ := r1 s _ ho he hl hr
 have l1 : s1.data.length < 18446744073709551616 := by rw [took_len t1]; exact hl
 have hr1 := took_rest t1 hr
 obtain ⟨s2, e2, o2, t2⟩ := r2 s1 _ o1 t1.err.2 l1 hr1
 have l2 : s2.data.length < 18446744073709551616 := by rw [took_len t2]; exact l1
 have hr2 := took_rest t2 hr1
 obtain ⟨s3, e3, o3, t3⟩ := r3 s2 _ o2 t2.err.2 l2 hr2
 have l3 : s3.data.length < 18446744073709551616 := by rw [took_len t3]; exact l2
 have hr3 := took_rest t3 hr2
 rw [← List.append_assoc (uintE _)] at hr3
 obtain ⟨s4, e4, o4, t4⟩ := r4 s3 _ o3 t3.err.2 l3 hr3
 have l4 : s4.data.length < 18446744073709551616 := by rw [took_len t4]; exact l3
 have hr4 := took_rest t4 hr3
 obtain ⟨s5, e5, o5, t5⟩ := r5 s4 _ o4 t4.err.2 l4 hr4
 have l5 : s5.data.length < 18446744073709551616 := by rw [took_len t5]; exact l4
 have hr5 := took_rest t5 hr4
 obtain ⟨s6, e6, o6, t6⟩ := r6 s5 _ o5 t5.err.2 l5 hr5
 refine ⟨s6, ?_, o6, ?_⟩
 · unfold rdCmd rdCw; rw [e1]; simp only; rw [e2]; simp only; rw [e3]; simp only; rw [e4]; simp only; rw [e5]; simp only; rw [e6]
 · have := ((((t1.trans t2).trans t3).trans t4).trans t5).trans t6
   simp only [List.append_assoc] at this ⊢
   exact this
def zeroC : Cmd := ⟨0, 0, 0, [], 0, []⟩
def decC (b : List UInt8) : Cmd × Int := if (rdCmd ⟨b, 0, 0, 0⟩).2.err = 0 ∧ (rdCmd ⟨b, 0, 0, 0⟩).2.pos = b.length then ((rdCmd ⟨b, 0, 0, 0⟩).1, 0) else (zeroC, 2)
theorem decC_yes {b : List UInt8} {c : Cmd} {s : RS} (h : rdCmdA ⟨b, 0, 0, 0⟩ = (c, s)) (he : s.ends = 0) (hp : s.pos ≤ s.data.length) (hd : s.data = b) : decC b = (c, 0) := by
 unfold RS.ends at he
 split at he
 · cases he
 · rename_i hn
   have e := rdCmdA_eq (s := ⟨b, 0, 0, 0⟩) (by rw [h]; exact he)
   unfold decC
   rw [← e, h]
   have : s.pos = b.length := by rw [← hd]; omega
   rw [if_pos ⟨he, this⟩]
theorem decC_no {b : List UInt8} {c : Cmd} {s : RS} (h : rdCmdA ⟨b, 0, 0, 0⟩ = (c, s)) (he : ¬ s.ends = 0) (hd : s.data = b) : decC b = (zeroC, 2) := by
 have e : (rdCmd ⟨b, 0, 0, 0⟩).2 = s := by rw [← rdCmdA_snd, h]
 unfold decC
 rw [e, if_neg]
 rintro ⟨h1, h2⟩
 apply he
 unfold RS.ends
 rw [if_neg (by rw [hd]; omega)]; exact h1
theorem newR_ok (b : List UInt8) : RS.Ok ⟨b, 0, 0, 0⟩ := ⟨Nat.zero_le _, Nat.le_refl _, .inl rfl⟩
theorem took_all {s t : RS} {bs : List UInt8} (k : Took s t bs) (h0 : s.pos = 0) (h1 : t.pos = t.data.length) : bs = s.data := by
 have h2 := k.read
 rw [h0, List.drop_zero, h1, List.drop_length, List.append_nil] at h2
 exact h2.symm
theorem decC_enc {c : Cmd} (hc : c.Ok) : decC (encC c) = (c, 0) := by
 have hl := encC_len c hc
 obtain ⟨s', e, o, t⟩ := rds_cmd hc ⟨encC c, 0, 0, 0⟩ [] (newR_ok _) rfl (by show (encC c).length < _; omega) (by simp)
 have hd : s'.data = encC c := t.data
 have hp : s'.pos = (encC c).length := by
  have h2 := took_rest t (r := []) (by simp)
  have h3 := congrArg List.length h2
  have h4 := o.pos
  rw [List.length_drop, hd] at h3
  rw [hd] at h4
  simp at h3; omega
 unfold decC
 rw [e]
 simp only
 rw [if_pos ⟨t.err.2, hp⟩]
theorem decC_ok {b : List UInt8} {c : Cmd} (h : decC b = (c, 0)) : (rdCmd ⟨b, 0, 0, 0⟩).2.err = 0 ∧ (rdCmd ⟨b, 0, 0, 0⟩).2.pos = b.length ∧ (rdCmd ⟨b, 0, 0, 0⟩).1 = c := by
 unfold decC at h
 split at h
 · rename_i k; exact ⟨k.1, k.2, congrArg Prod.fst h⟩
 · exact absurd (congrArg Prod.snd h) (show ¬ (2 : Int) = 0 by decide)
theorem decC_is {b : List UInt8} {c : Cmd} (h : decC b = (c, 0)) : encC c = b := by
 obtain ⟨h1, h2, rfl⟩ := decC_ok h
 exact took_all (tks_cmd.took _ (newR_ok b) h1) rfl (by rw [(tks_cmd.ok _ (newR_ok b)).2]; exact h2)
theorem flat_each {l : List (ByteArray × List UInt8)} {x : ByteArray × List UInt8} (h : x ∈ l) : (wrE x).length ≤ (writesE l).length := by
 induction l with
 | nil => simp at h
 | cons y t ih =>
  rw [writesE_eq, List.flatMap_cons, List.length_append]
  rcases List.mem_cons.1 h with rfl | h
  · omega
  · have := ih h; rw [writesE_eq] at this; omega
theorem flat_many : ∀ l : List (ByteArray × List UInt8), 2 * l.length ≤ (writesE l).length
 | [] => by simp
 | x :: t => by
  have := flat_many t
  have h2 := wrE_pos2 x
  rw [writesE_eq] at this ⊢
  rw [List.flatMap_cons, List.length_append, List.length_cons]; omega
theorem decC_wf {b : List UInt8} {c : Cmd} (hb : b.length ≤ 6000) (h : decC b = (c, 0)) : c.Ok := by
 have he := decC_is h
 obtain ⟨_, _, rfl⟩ := decC_ok h
 have hlen := congrArg List.length he
 generalize hc : (rdCmd ⟨b, 0, 0, 0⟩).1 = c at hlen ⊢
 have hw : (writesE c.writes).length ≤ 6000 ∧ c.tag.length ≤ 6000 := by
  unfold encC writeC bytesE at hlen
  simp only [List.length_append] at hlen
  omega
 obtain ⟨h1, k1⟩ := tks_int.ok _ (newR_ok b)
 obtain ⟨h2, k2⟩ := tks_int.ok _ h1
 obtain ⟨h3, k3⟩ := tks_int.ok _ h2
 obtain ⟨h4, k4⟩ := (tks_list tks_wr).ok _ h3
 have i1 := (rdInt_ok (newR_ok b)).2.2
 have i2 := (rdInt_ok h1).2.2
 have i3 := (rdInt_ok h2).2.2
 have i5 := (rdInt_ok h4).2.2
 have hm := flat_many c.writes
 refine ⟨?_, ?_, ?_, ?_, by omega, fun x hx => ?_, by omega⟩
 · rw [← hc]; exact i1
 · rw [← hc]; exact i2
 · rw [← hc]; exact i3
 · rw [← hc]; exact i5
 · have a1 := flat_each hx
   have a2 := wrE_pos2 x
   omega
end
section
theorem take_set {h : List Ob} {i : Nat} {ob : Ob} : (h.set i ob).take h.length = h.set i ob := List.take_of_length_le (by simp)
theorem take_set_app {h l : List Ob} {i : Nat} {ob : Ob} : (h.set i ob ++ l).take h.length = h.set i ob := by rw [List.take_append_of_le_length (by simp)]; exact take_set
theorem endS {res : Array ResultVar} {h0 : List Ob} {K : List Ob → D → Prop} {s : S} {ds : List D} {r : D} {i : Nat} {ob : Ob} (hl : lowH h0.length h0) (ho : lowOb h0.length ob) (h1 : resD Tryz.prog s res.toList = some ds) (h2 : s.h.take h0.length = h0.set i ob) (h4 : h0.length ≤ s.h.length)
 (h3 : cvD (fun i => decide (h0.length ≤ i)) s.h (outD ds) = r) (h5 : low h0.length r) (hK : K (h0.set i ob) r) : EndD Tryz.prog res h0.length K s := ⟨ds, h0.length, h1, Nat.le_refl _, h4, by rw [h2]; exact lowH_set hl ho, by rw [h3]; exact h5, by rw [h2, h3]; exact hK⟩
def rdrOb (s : RS) : Ob := .cells [.sl 1 (byD s.data), .v (.int .i64 s.pos), .v (.int .i64 s.item), .v (.int .i64 s.err)]
theorem rdrOb_eq (s : RS) : rdrOb s = .cells [.sl 1 (byD s.data), .v (.int .i64 s.pos), .v (.int .i64 s.item), .v (.int .i64 s.err)] := rfl
theorem low_rdr (m : Nat) (s : RS) : lowOb m (rdrOb s) := ⟨low_by m _, by simp [lowL, low]⟩
def rawJ (p i acc : Nat) : List UInt8 → D
 | [] => .tup [.v (.int .u64 (0 : Int)), .v (.int .i64 (0 : Int)), .v (.bool false)]
 | b :: t => if 10 ≤ i then .tup [.v (.int .u64 (0 : Int)), .v (.int .i64 (0 : Int)), .v (.bool false)]
   else if i = 9 ∧ 1 < b.toNat then .tup [.v (.int .u64 (0 : Int)), .v (.int .i64 (0 : Int)), .v (.bool false)]
   else if b.toNat < 128 then .tup [.v (.int .u64 ((acc + b.toNat % 128 * 2 ^ (7 * i) : Nat) : Int)), .v (.int .i64 ((p + i + 1 : Nat) : Int)), .v (.bool (decide (b.toNat ≠ 0 ∨ i = 0)))]
   else rawJ p (i + 1) (acc + b.toNat % 128 * 2 ^ (7 * i)) t
def RS.rawN (s : RS) : D := rawJ s.pos 0 0 (s.data.drop s.pos)
theorem rawJ_spec (p : Nat) : ∀ (l : List UInt8) (i acc : Nat), (match numF i l with
 | none => ∃ a b : Int, rawJ p i acc l = .tup [.v (.int .u64 a), .v (.int .i64 b), .v (.bool false)]
 | some (m, c) => rawJ p i acc l = .tup [.v (.int .u64 ((acc + m * 2 ^ (7 * i) : Nat) : Int)), .v (.int .i64 ((p + i + c : Nat) : Int)), .v (.bool true)])
 | [], i, acc => by rw [numF_nil]; exact ⟨_, _, rfl⟩
 | b :: t, i, acc => by
  by_cases hi : 10 ≤ i
  · rw [numF_ge _ hi]; exact ⟨0, 0, by rw [rawJ, if_pos hi]⟩
  by_cases h9 : i = 9 ∧ 1 < b.toNat
  · rw [numF_big _ h9]; exact ⟨0, 0, by rw [rawJ, if_neg hi, if_pos h9]⟩
  by_cases hb : b.toNat < 128
  · rw [numF_last t (by omega) h9 hb, rawJ, if_neg hi, if_neg h9, if_pos hb]
    by_cases hz : b.toNat = 0 ∧ i ≠ 0
    · rw [if_pos hz, decide_eq_false (by omega)]; exact ⟨_, _, rfl⟩
    · rw [if_neg hz, decide_eq_true (by omega), Nat.mod_eq_of_lt hb]
  · rw [numF_more t (by omega) h9 hb, rawJ, if_neg hi, if_neg h9, if_neg hb]
    have ih := rawJ_spec p t (i + 1) (acc + b.toNat % 128 * 2 ^ (7 * i))
    rcases hr : numF (i + 1) t with _ | ⟨m, c⟩
    · rw [hr] at ih; exact ih
    · rw [hr] at ih
      simp only at ih ⊢
      rw [ih]
      have e1 : acc + b.toNat % 128 * 2 ^ (7 * i) + m * 2 ^ (7 * (i + 1)) = acc + (b.toNat % 128 + 128 * m) * 2 ^ (7 * i) := by
       rw [show 7 * (i + 1) = 7 + 7 * i by omega, Nat.pow_add, Nat.add_mul, Nat.add_assoc, show m * (2 ^ 7 * 2 ^ (7 * i)) = 128 * m * 2 ^ (7 * i) by rw [← Nat.mul_assoc, Nat.mul_comm m]]
      rw [e1, show p + (i + 1) + c = p + i + (c + 1) by omega]
theorem rawN_none {s : RS} (q : s.num = none) : ∃ a b : Int, s.rawN = .tup [.v (.int .u64 a), .v (.int .i64 b), .v (.bool false)] := by
 have h := rawJ_spec s.pos (s.data.drop s.pos) 0 0
 have q : numF 0 (s.data.drop s.pos) = none := q
 rw [q] at h; exact h
theorem rawN_some {s : RS} {n c : Nat} (q : s.num = some (n, c)) : s.rawN = .tup [.v (.int .u64 n), .v (.int .i64 ((s.pos : Int) + (c : Int))), .v (.bool true)] := by
 have h := rawJ_spec s.pos (s.data.drop s.pos) 0 0
 have q : numF 0 (s.data.drop s.pos) = some (n, c) := q
 rw [q] at h
 simpa [RS.rawN] using h
theorem and_byte : ∀ m : Fin 256, IntKind.u8.wrap ((BitVec.ofInt 8 (m.val : Int) &&& BitVec.ofInt 8 127).toNat : Int) = ((m.val % 128 : Nat) : Int) := by decide +kernel
theorem and_byte' (b : UInt8) : IntKind.u8.wrap ((BitVec.ofInt 8 (b.toNat : Int) &&& BitVec.ofInt 8 127).toNat : Int) = ((b.toNat % 128 : Nat) : Int) := and_byte ⟨b.toNat, b.toNat_lt⟩
theorem shl_step {acc b i : Nat} (ha : acc < 2 ^ (7 * i)) (hi : i < 10) (h9 : ¬ (i = 9 ∧ 1 < b)) (hb : b < 256) :
 b % 128 * 2 ^ (7 * i) < 18446744073709551616 ∧ acc < 18446744073709551616 ∧ acc + b % 128 * 2 ^ (7 * i) < 2 ^ (7 * (i + 1)) := by
 have e : 2 ^ (7 * (i + 1)) = 128 * 2 ^ (7 * i) := by rw [show 7 * (i + 1) = 7 + 7 * i by omega, Nat.pow_add]
 have h3 : b % 128 * 2 ^ (7 * i) ≤ 127 * 2 ^ (7 * i) := Nat.mul_le_mul_right _ (by omega)
 refine ⟨?_, ?_, by omega⟩
 · rcases Nat.lt_or_ge i 9 with h | h
   · have h1 : 2 ^ (7 * i) ≤ 2 ^ 56 := Nat.pow_le_pow_right (by omega) (by omega)
     omega
   · have : i = 9 := by omega
     subst this
     have h2 : b % 128 * 2 ^ (7 * 9) ≤ 1 * 2 ^ 63 := Nat.mul_le_mul (by omega) (Nat.le_refl _)
     omega
 · have h1 : 2 ^ (7 * i) ≤ 2 ^ 63 := Nat.pow_le_pow_right (by omega) (by omega)
   omega
theorem shl_val {b i : Nat} (h : b % 128 * 2 ^ (7 * i) < 18446744073709551616) (hi : i < 10) : IntKind.u64.wrap (((b % 128 : Nat) : Int) * 2 ^ min (7 * i) 64) = ((b % 128 * 2 ^ (7 * i) : Nat) : Int) := by
 have e : ((b % 128 : Nat) : Int) * 2 ^ min (7 * i) 64 = ((b % 128 * 2 ^ (7 * i) : Nat) : Int) := by
  rw [Nat.min_eq_left (by omega), Int.natCast_mul, Int.natCast_pow]; rfl
 rw [e, IntKind.wrap_u64]; omega
theorem or_val {acc b i : Nat} (ha : acc < 2 ^ (7 * i)) (h1 : acc < 18446744073709551616) (h2 : b % 128 * 2 ^ (7 * i) < 18446744073709551616) : IntKind.u64.wrap ((BitVec.ofInt 64 (acc : Int) ||| BitVec.ofInt 64 ((b % 128 * 2 ^ (7 * i) : Nat) : Int)).toNat : Int) = ((acc + b % 128 * 2 ^ (7 * i) : Nat) : Int) := by
 have h := u64_or_nat acc (b % 128 * 2 ^ (7 * i)) h1 h2
 refine h.trans ?_
 rw [Nat.or_comm, Nat.mul_comm, ← Nat.two_pow_add_eq_or_of_lt ha, Nat.add_comm]
theorem num_val {acc i : Nat} {x : UInt8} (ha : acc < 2 ^ (7 * i)) (hi : i < 10) (h9 : ¬ (i = 9 ∧ 1 < x.toNat)) : IntKind.u64.wrap ((BitVec.ofInt 64 (acc : Int) ||| BitVec.ofInt 64 (IntKind.u64.wrap (IntKind.u64.wrap (IntKind.u8.wrap ((BitVec.ofInt 8 (x.toNat : Int) &&& BitVec.ofInt 8 127).toNat : Int)) * 2 ^ min (7 * i) 64))).toNat : Int) = ((acc + x.toNat % 128 * 2 ^ (7 * i) : Nat) : Int) := by
 obtain ⟨s1, s2, _⟩ := shl_step ha hi h9 x.toNat_lt
 have w8 : IntKind.u64.wrap ((x.toNat % 128 : Nat) : Int) = ((x.toNat % 128 : Nat) : Int) := by rw [IntKind.wrap_u64]; omega
 rw [and_byte', w8, shl_val s1 hi, or_val ha s2 s1]
end
section

end
section

end
section
set_option maxRecDepth 100000
set_option maxHeartbeats 1000000
attribute [local irreducible] on aOp
attribute [local simp] byD_len
def rawU (p k acc : Nat) : Option (Nat × Nat) → D
 | none => .tup [.v (.int .u64 (0 : Int)), .v (.int .i64 p), .v (.bool false)]
 | some (m, c) => .tup [.v (.int .u64 ((acc + m * 2 ^ (7 * k) : Nat) : Int)), .v (.int .i64 ((p + k + c : Nat) : Int)), .v (.bool true)]
def rawD (l : List UInt8) (p : Nat) : D := rawU p 0 0 (numF 0 (l.drop p))
theorem rawU_more (p k acc b : Nat) (o : Option (Nat × Nat)) : rawU p k acc (match o with
 | none => none
 | some (n, c) => some (b % 128 + 128 * n, c + 1)) = rawU p (k + 1) (acc + b % 128 * 2 ^ (7 * k)) o := by
 rcases o with _ | ⟨m, c⟩
 · rfl
 · simp only [rawU]
   have e1 : acc + b % 128 * 2 ^ (7 * k) + m * 2 ^ (7 * (k + 1)) = acc + (b % 128 + 128 * m) * 2 ^ (7 * k) := by
    rw [show 7 * (k + 1) = 7 + 7 * k by omega, Nat.pow_add, Nat.add_mul, Nat.add_assoc, show m * (2 ^ 7 * 2 ^ (7 * k)) = 128 * m * 2 ^ (7 * k) by rw [← Nat.mul_assoc, Nat.mul_comm m]]
   rw [e1, show p + (k + 1) + c = p + k + (c + 1) by omega]
variable (G : Nat → D) (hG : ∀ g, low 0 (G g))
include hG
theorem raw_d (l : List UInt8) (p : Nat) (hl : l.length ≤ 1000000000) (hp : p ≤ l.length) (h : List Ob) :
 Does Tryz.prog G 110 h [.sl 1 (byD l), .v (.int .i64 p)] (fun h' r => h' = h ∧ r = rawD l p) := by
 refine does_of_aw Tryz.func110 rfl (Nat.le_of_ble_eq_true rfl) hG fun hl0 _ => ?_
 simp only [Tryz.ntmps110]
 repeat' first
  | refine aw_seq' ?_
  | refine aw_region' ?_
  | refine aw_block ?_
  | refine ao_nil ?_
  | (refine ao1 rfl rfl fun K HK => ?_; (try refine aOp_pick rfl ?_); simp only [go_sem, ↓reduceIte, Nat.reduceEqDiff, Nat.reduceAdd, Nat.reduceLeDiff, Nat.reduceBEq, Nat.reduceMul, Int.reduceEq, Int.reduceLT, Int.reduceLE, decide_true, decide_false, Bool.not_true, Bool.not_false]; (first | refine splitB (fun hq => ?_) (fun hq => ?_) | refine splitN (fun hq => ?_) (fun hq => ?_) | (refine slc_sl (by simp only [go_sem]) rfl rfl (by first | omega | simp) (by first | omega | simp) (by simp only [go_sem]; omega) ?_) | (refine ⟨by omega, by omega, ?_⟩; first | refine row_at (by assumption) ?_ | (intro row hrow; obtain ⟨x, hx, rfl⟩ := row_inv hrow; clear hrow) | (intro row hrow)) | (refine ⟨by omega, ?_⟩; refine row_at (by assumption) ?_) | skip) <;> (refine HK _ _ ?_; clear HK K))
  | (refine aq1 rfl rfl fun K HK => ?_; (try refine aOp_pick rfl ?_); simp only [go_sem, ↓reduceIte, Nat.reduceEqDiff, Nat.reduceAdd, Nat.reduceLeDiff, Nat.reduceBEq, Nat.reduceMul, Int.reduceEq, Int.reduceLT, Int.reduceLE, decide_true, decide_false, Bool.not_true, Bool.not_false]; (first | refine splitB (fun hq => ?_) (fun hq => ?_) | refine splitN (fun hq => ?_) (fun hq => ?_) | (refine slc_sl (by simp only [go_sem]) rfl rfl (by first | omega | simp) (by first | omega | simp) (by simp only [go_sem]; omega) ?_) | (refine ⟨by omega, by omega, ?_⟩; first | refine row_at (by assumption) ?_ | (intro row hrow; obtain ⟨x, hx, rfl⟩ := row_inv hrow; clear hrow) | (intro row hrow)) | (refine ⟨by omega, ?_⟩; refine row_at (by assumption) ?_) | skip) <;> (refine HK _ _ rfl ?_; clear HK K))
  | refine aq0 rfl rfl ?_
  | refine aq_nil ?_
  | (refine aw_draw mixd (by kernel_rfl) ?_)
  | refine ao_appB rfl rfl rfl rfl (by first | assumption | (simp only [go_sem, ↓reduceIte, Nat.reduceEqDiff, Nat.reduceAdd, Nat.reduceLeDiff, Nat.reduceBEq, Nat.reduceMul, Int.reduceEq, Int.reduceLT, Int.reduceLE, decide_true, decide_false, Bool.not_true, Bool.not_false]; rfl) | (simp only [go_sem, ↓reduceIte, Nat.reduceEqDiff, Nat.reduceAdd, Nat.reduceLeDiff, Nat.reduceBEq, Nat.reduceMul, Int.reduceEq, Int.reduceLT, Int.reduceLE, decide_true, decide_false, Bool.not_true, Bool.not_false]; done)) (by simp) (by simp only [go_sem]; rfl) (by first | assumption | (simp only [go_sem, ↓reduceIte, Nat.reduceEqDiff, Nat.reduceAdd, Nat.reduceLeDiff, Nat.reduceBEq, Nat.reduceMul, Int.reduceEq, Int.reduceLT, Int.reduceLE, decide_true, decide_false, Bool.not_true, Bool.not_false]; rfl) | (simp only [go_sem, ↓reduceIte, Nat.reduceEqDiff, Nat.reduceAdd, Nat.reduceLeDiff, Nat.reduceBEq, Nat.reduceMul, Int.reduceEq, Int.reduceLT, Int.reduceLE, decide_true, decide_false, Bool.not_true, Bool.not_false]; done)) (by simp) (by first | assumption | exact rowsOk_nil _ | exact rowsOk_by _ | (rw [byD_cut]; exact rowsOk_by _) | (simp [rowsOk, D.one, Value.oneCell']; done)) (by first | omega | (simp; done) | (simp; omega) | (simp [byD]; omega)) ?_
  | refine ao_appNB rfl rfl rfl rfl (by simp only [go_sem]; rfl) (by first | assumption | (simp only [go_sem, ↓reduceIte, Nat.reduceEqDiff, Nat.reduceAdd, Nat.reduceLeDiff, Nat.reduceBEq, Nat.reduceMul, Int.reduceEq, Int.reduceLT, Int.reduceLE, decide_true, decide_false, Bool.not_true, Bool.not_false]; rfl) | (simp only [go_sem, ↓reduceIte, Nat.reduceEqDiff, Nat.reduceAdd, Nat.reduceLeDiff, Nat.reduceBEq, Nat.reduceMul, Int.reduceEq, Int.reduceLT, Int.reduceLE, decide_true, decide_false, Bool.not_true, Bool.not_false]; done)) (by simp) (by first | assumption | exact rowsOk_nil _ | exact rowsOk_by _ | (rw [byD_cut]; exact rowsOk_by _) | (simp [rowsOk, D.one, Value.oneCell']; done)) (by first | omega | (simp; done) | (simp; omega) | (simp [byD]; omega)) ?_
  | refine ao_appR rfl rfl rfl (by first | assumption | (simp only [go_sem, ↓reduceIte, Nat.reduceEqDiff, Nat.reduceAdd, Nat.reduceLeDiff, Nat.reduceBEq, Nat.reduceMul, Int.reduceEq, Int.reduceLT, Int.reduceLE, decide_true, decide_false, Bool.not_true, Bool.not_false]; rfl) | (simp only [go_sem, ↓reduceIte, Nat.reduceEqDiff, Nat.reduceAdd, Nat.reduceLeDiff, Nat.reduceBEq, Nat.reduceMul, Int.reduceEq, Int.reduceLT, Int.reduceLE, decide_true, decide_false, Bool.not_true, Bool.not_false]; done)) (by simp) (by simp only [go_sem]; rfl) rfl (by first | assumption | exact rowsOk_nil _ | exact rowsOk_by _ | (rw [byD_cut]; exact rowsOk_by _) | (simp [rowsOk, D.one, Value.oneCell']; done)) (by first | omega | (simp; done) | (simp; omega) | (simp [byD]; omega)) ?_
  | refine ao_appNR rfl rfl rfl (by simp only [go_sem]; rfl) rfl (by first | assumption | exact rowsOk_nil _ | exact rowsOk_by _ | (rw [byD_cut]; exact rowsOk_by _) | (simp [rowsOk, D.one, Value.oneCell']; done)) (by first | omega | (simp; done) | (simp; omega) | (simp [byD]; omega)) ?_
  | refine ao0 rfl rfl ?_
  | (refine ao1' rfl fun K HK => ?_; simp only [go_sem, ↓reduceIte, Nat.reduceEqDiff, Nat.reduceAdd, Nat.reduceLeDiff, Nat.reduceBEq, Nat.reduceMul, Int.reduceEq, Int.reduceLT, Int.reduceLE, decide_true, decide_false, Bool.not_true, Bool.not_false]; refine HK _ _ ?_; clear HK K)
  | refine ao0' rfl ?_
  | refine aw_if1 rfl ?_
  | refine aw_if0 rfl ?_
  | refine aw_skip ?_
  | refine aw_exit ?_
  | refine aw_ret ?_
  | refine thenS_n ?_
  | refine thenS_x ?_
  | refine thenS_r ?_
  | refine inB_n ?_
  | refine inB_r ?_
  | refine inB_x ?_
  | refine inB_y rfl ?_
  | (exfalso; omega)
 refine aw_for (fun m e h' => ∃ (k acc : Nat), m = 10 - k ∧ k ≤ 10 ∧ acc < 2 ^ (7 * k) ∧ rawU p k acc (numF k (l.drop (p + k))) = rawD l p ∧ h' = h ∧ e 0 = .sl 1 (byD l) ∧ e 1 = .v (.int .i64 p) ∧ e 4 = .v (.int .u64 acc) ∧ e 7 = .v (.int .i64 k)) 10 ⟨0, 0, rfl, by omega, by decide, rfl, rfl, rfl, rfl, rfl, rfl⟩ ?_
 rintro m e h' ⟨k, acc, rfl, hk, ha, hJ, rfl, e0, e1, e4, e7⟩
 have w1 : IntKind.i64.wrap ((p : Int) + (k : Int)) = ((p + k : Nat) : Int) := IntWalk.i64_in _ (by omega)
 by_cases hend : k = 10 ∨ ¬ p + k < l.length
 · have hN : numF k (l.drop (p + k)) = none := by
    rcases hend with rfl | hend
    · exact numF_ge _ (by omega)
    · rw [List.drop_eq_nil_of_le (by omega)]; exact numF_nil _
   rw [hN] at hJ
   repeat' first
    | refine aw_seq' ?_
    | refine aw_region' ?_
    | refine aw_block ?_
    | refine ao_nil ?_
    | (refine ao1 rfl rfl fun K HK => ?_; (try refine aOp_pick rfl ?_); simp only [go_sem, ↓reduceIte, Nat.reduceEqDiff, Nat.reduceAdd, Nat.reduceLeDiff, Nat.reduceBEq, Nat.reduceMul, Int.reduceEq, Int.reduceLT, Int.reduceLE, decide_true, decide_false, Bool.not_true, Bool.not_false, e0, e1, e4, e7, w1, Bool.false_eq_true]; (first | refine splitB (fun hq => ?_) (fun hq => ?_) | refine splitN (fun hq => ?_) (fun hq => ?_) | (refine slc_sl (by simp only [go_sem]) rfl rfl (by first | omega | simp) (by first | omega | simp) (by simp only [go_sem]; omega) ?_) | (refine ⟨by omega, by omega, ?_⟩; first | refine row_at (by assumption) ?_ | (intro row hrow; obtain ⟨x, hx, rfl⟩ := row_inv hrow; clear hrow) | (intro row hrow)) | (refine ⟨by omega, ?_⟩; refine row_at (by assumption) ?_) | skip) <;> (refine HK _ _ ?_; clear HK K))
    | (refine aq1 rfl rfl fun K HK => ?_; (try refine aOp_pick rfl ?_); simp only [go_sem, ↓reduceIte, Nat.reduceEqDiff, Nat.reduceAdd, Nat.reduceLeDiff, Nat.reduceBEq, Nat.reduceMul, Int.reduceEq, Int.reduceLT, Int.reduceLE, decide_true, decide_false, Bool.not_true, Bool.not_false, e0, e1, e4, e7, w1, Bool.false_eq_true]; (first | refine splitB (fun hq => ?_) (fun hq => ?_) | refine splitN (fun hq => ?_) (fun hq => ?_) | (refine slc_sl (by simp only [go_sem]) rfl rfl (by first | omega | simp) (by first | omega | simp) (by simp only [go_sem]; omega) ?_) | (refine ⟨by omega, by omega, ?_⟩; first | refine row_at (by assumption) ?_ | (intro row hrow; obtain ⟨x, hx, rfl⟩ := row_inv hrow; clear hrow) | (intro row hrow)) | (refine ⟨by omega, ?_⟩; refine row_at (by assumption) ?_) | skip) <;> (refine HK _ _ rfl ?_; clear HK K))
    | refine aq0 rfl rfl ?_
    | refine aq_nil ?_
    | (refine aw_draw mixd (by kernel_rfl) ?_)
    | refine ao_appB rfl rfl rfl rfl (by first | assumption | (simp only [go_sem, ↓reduceIte, Nat.reduceEqDiff, Nat.reduceAdd, Nat.reduceLeDiff, Nat.reduceBEq, Nat.reduceMul, Int.reduceEq, Int.reduceLT, Int.reduceLE, decide_true, decide_false, Bool.not_true, Bool.not_false, e0, e1, e4, e7, w1, Bool.false_eq_true]; rfl) | (simp only [go_sem, ↓reduceIte, Nat.reduceEqDiff, Nat.reduceAdd, Nat.reduceLeDiff, Nat.reduceBEq, Nat.reduceMul, Int.reduceEq, Int.reduceLT, Int.reduceLE, decide_true, decide_false, Bool.not_true, Bool.not_false, e0, e1, e4, e7, w1, Bool.false_eq_true]; done)) (by simp) (by simp only [go_sem]; rfl) (by first | assumption | (simp only [go_sem, ↓reduceIte, Nat.reduceEqDiff, Nat.reduceAdd, Nat.reduceLeDiff, Nat.reduceBEq, Nat.reduceMul, Int.reduceEq, Int.reduceLT, Int.reduceLE, decide_true, decide_false, Bool.not_true, Bool.not_false, e0, e1, e4, e7, w1, Bool.false_eq_true]; rfl) | (simp only [go_sem, ↓reduceIte, Nat.reduceEqDiff, Nat.reduceAdd, Nat.reduceLeDiff, Nat.reduceBEq, Nat.reduceMul, Int.reduceEq, Int.reduceLT, Int.reduceLE, decide_true, decide_false, Bool.not_true, Bool.not_false, e0, e1, e4, e7, w1, Bool.false_eq_true]; done)) (by simp) (by first | assumption | exact rowsOk_nil _ | exact rowsOk_by _ | (rw [byD_cut]; exact rowsOk_by _) | (simp [rowsOk, D.one, Value.oneCell']; done)) (by first | omega | (simp; done) | (simp; omega) | (simp [byD]; omega)) ?_
    | refine ao_appNB rfl rfl rfl rfl (by simp only [go_sem]; rfl) (by first | assumption | (simp only [go_sem, ↓reduceIte, Nat.reduceEqDiff, Nat.reduceAdd, Nat.reduceLeDiff, Nat.reduceBEq, Nat.reduceMul, Int.reduceEq, Int.reduceLT, Int.reduceLE, decide_true, decide_false, Bool.not_true, Bool.not_false, e0, e1, e4, e7, w1, Bool.false_eq_true]; rfl) | (simp only [go_sem, ↓reduceIte, Nat.reduceEqDiff, Nat.reduceAdd, Nat.reduceLeDiff, Nat.reduceBEq, Nat.reduceMul, Int.reduceEq, Int.reduceLT, Int.reduceLE, decide_true, decide_false, Bool.not_true, Bool.not_false, e0, e1, e4, e7, w1, Bool.false_eq_true]; done)) (by simp) (by first | assumption | exact rowsOk_nil _ | exact rowsOk_by _ | (rw [byD_cut]; exact rowsOk_by _) | (simp [rowsOk, D.one, Value.oneCell']; done)) (by first | omega | (simp; done) | (simp; omega) | (simp [byD]; omega)) ?_
    | refine ao_appR rfl rfl rfl (by first | assumption | (simp only [go_sem, ↓reduceIte, Nat.reduceEqDiff, Nat.reduceAdd, Nat.reduceLeDiff, Nat.reduceBEq, Nat.reduceMul, Int.reduceEq, Int.reduceLT, Int.reduceLE, decide_true, decide_false, Bool.not_true, Bool.not_false, e0, e1, e4, e7, w1, Bool.false_eq_true]; rfl) | (simp only [go_sem, ↓reduceIte, Nat.reduceEqDiff, Nat.reduceAdd, Nat.reduceLeDiff, Nat.reduceBEq, Nat.reduceMul, Int.reduceEq, Int.reduceLT, Int.reduceLE, decide_true, decide_false, Bool.not_true, Bool.not_false, e0, e1, e4, e7, w1, Bool.false_eq_true]; done)) (by simp) (by simp only [go_sem]; rfl) rfl (by first | assumption | exact rowsOk_nil _ | exact rowsOk_by _ | (rw [byD_cut]; exact rowsOk_by _) | (simp [rowsOk, D.one, Value.oneCell']; done)) (by first | omega | (simp; done) | (simp; omega) | (simp [byD]; omega)) ?_
    | refine ao_appNR rfl rfl rfl (by simp only [go_sem]; rfl) rfl (by first | assumption | exact rowsOk_nil _ | exact rowsOk_by _ | (rw [byD_cut]; exact rowsOk_by _) | (simp [rowsOk, D.one, Value.oneCell']; done)) (by first | omega | (simp; done) | (simp; omega) | (simp [byD]; omega)) ?_
    | refine ao0 rfl rfl ?_
    | (refine ao1' rfl fun K HK => ?_; simp only [go_sem, ↓reduceIte, Nat.reduceEqDiff, Nat.reduceAdd, Nat.reduceLeDiff, Nat.reduceBEq, Nat.reduceMul, Int.reduceEq, Int.reduceLT, Int.reduceLE, decide_true, decide_false, Bool.not_true, Bool.not_false, e0, e1, e4, e7, w1, Bool.false_eq_true]; refine HK _ _ ?_; clear HK K)
    | refine ao0' rfl ?_
    | refine aw_if1 rfl ?_
    | refine aw_if0 rfl ?_
    | refine aw_skip ?_
    | refine aw_exit ?_
    | refine aw_ret ?_
    | refine thenS_n ?_
    | refine thenS_x ?_
    | refine thenS_r ?_
    | refine inB_n ?_
    | refine inB_r ?_
    | refine inB_x ?_
    | refine inB_y rfl ?_
    | (exfalso; omega)
   all_goals first
   | (exfalso; omega)
   | exact ⟨.inr rfl, endD (r := .tup [.v (.int .u64 (0 : Int)), .v (.int .i64 p), .v (.bool false)]) hl0 rfl (by simp) (by simp) rfl (by simp [low, lowL]) ⟨rfl, hJ⟩⟩
 have hlt : p + k < l.length := by omega
 have hx : l[p + k]? = some l[p + k] := List.getElem?_eq_getElem hlt
 rw [List.drop_eq_getElem_cons hlt] at hJ
 generalize l[p + k] = x at hx hJ
 have hxl := x.toNat_lt
 by_cases h9 : k = 9 ∧ 1 < x.toNat
 · rw [numF_big _ h9] at hJ
   obtain ⟨rfl, h9⟩ := h9
   repeat' first
    | refine aw_seq' ?_
    | refine aw_region' ?_
    | refine aw_block ?_
    | refine ao_nil ?_
    | (refine ao1 rfl rfl fun K HK => ?_; (try refine aOp_pick rfl ?_); simp only [go_sem, ↓reduceIte, Nat.reduceEqDiff, Nat.reduceAdd, Nat.reduceLeDiff, Nat.reduceBEq, Nat.reduceMul, Int.reduceEq, Int.reduceLT, Int.reduceLE, decide_true, decide_false, Bool.not_true, Bool.not_false, e0, e1, e4, e7, w1, Int.toNat_natCast, Bool.false_eq_true]; (first | refine splitB (fun hq => ?_) (fun hq => ?_) | refine splitN (fun hq => ?_) (fun hq => ?_) | (refine slc_sl (by simp only [go_sem]) rfl rfl (by first | omega | simp) (by first | omega | simp) (by simp only [go_sem]; omega) ?_) | (refine ⟨by omega, by omega, ?_⟩; first | refine row_at (by assumption) ?_ | (intro row hrow; obtain ⟨x, hx, rfl⟩ := row_inv hrow; clear hrow) | (intro row hrow)) | (refine ⟨by omega, ?_⟩; refine row_at (by assumption) ?_) | skip) <;> (refine HK _ _ ?_; clear HK K))
    | (refine aq1 rfl rfl fun K HK => ?_; (try refine aOp_pick rfl ?_); simp only [go_sem, ↓reduceIte, Nat.reduceEqDiff, Nat.reduceAdd, Nat.reduceLeDiff, Nat.reduceBEq, Nat.reduceMul, Int.reduceEq, Int.reduceLT, Int.reduceLE, decide_true, decide_false, Bool.not_true, Bool.not_false, e0, e1, e4, e7, w1, Int.toNat_natCast, Bool.false_eq_true]; (first | refine splitB (fun hq => ?_) (fun hq => ?_) | refine splitN (fun hq => ?_) (fun hq => ?_) | (refine slc_sl (by simp only [go_sem]) rfl rfl (by first | omega | simp) (by first | omega | simp) (by simp only [go_sem]; omega) ?_) | (refine ⟨by omega, by omega, ?_⟩; first | refine row_at (by assumption) ?_ | (intro row hrow; obtain ⟨x, hx, rfl⟩ := row_inv hrow; clear hrow) | (intro row hrow)) | (refine ⟨by omega, ?_⟩; refine row_at (by assumption) ?_) | skip) <;> (refine HK _ _ rfl ?_; clear HK K))
    | refine aq0 rfl rfl ?_
    | refine aq_nil ?_
    | (refine aw_draw mixd (by kernel_rfl) ?_)
    | refine ao_appB rfl rfl rfl rfl (by first | assumption | (simp only [go_sem, ↓reduceIte, Nat.reduceEqDiff, Nat.reduceAdd, Nat.reduceLeDiff, Nat.reduceBEq, Nat.reduceMul, Int.reduceEq, Int.reduceLT, Int.reduceLE, decide_true, decide_false, Bool.not_true, Bool.not_false, e0, e1, e4, e7, w1, Int.toNat_natCast, Bool.false_eq_true]; rfl) | (simp only [go_sem, ↓reduceIte, Nat.reduceEqDiff, Nat.reduceAdd, Nat.reduceLeDiff, Nat.reduceBEq, Nat.reduceMul, Int.reduceEq, Int.reduceLT, Int.reduceLE, decide_true, decide_false, Bool.not_true, Bool.not_false, e0, e1, e4, e7, w1, Int.toNat_natCast, Bool.false_eq_true]; done)) (by simp) (by simp only [go_sem]; rfl) (by first | assumption | (simp only [go_sem, ↓reduceIte, Nat.reduceEqDiff, Nat.reduceAdd, Nat.reduceLeDiff, Nat.reduceBEq, Nat.reduceMul, Int.reduceEq, Int.reduceLT, Int.reduceLE, decide_true, decide_false, Bool.not_true, Bool.not_false, e0, e1, e4, e7, w1, Int.toNat_natCast, Bool.false_eq_true]; rfl) | (simp only [go_sem, ↓reduceIte, Nat.reduceEqDiff, Nat.reduceAdd, Nat.reduceLeDiff, Nat.reduceBEq, Nat.reduceMul, Int.reduceEq, Int.reduceLT, Int.reduceLE, decide_true, decide_false, Bool.not_true, Bool.not_false, e0, e1, e4, e7, w1, Int.toNat_natCast, Bool.false_eq_true]; done)) (by simp) (by first | assumption | exact rowsOk_nil _ | exact rowsOk_by _ | (rw [byD_cut]; exact rowsOk_by _) | (simp [rowsOk, D.one, Value.oneCell']; done)) (by first | omega | (simp; done) | (simp; omega) | (simp [byD]; omega)) ?_
    | refine ao_appNB rfl rfl rfl rfl (by simp only [go_sem]; rfl) (by first | assumption | (simp only [go_sem, ↓reduceIte, Nat.reduceEqDiff, Nat.reduceAdd, Nat.reduceLeDiff, Nat.reduceBEq, Nat.reduceMul, Int.reduceEq, Int.reduceLT, Int.reduceLE, decide_true, decide_false, Bool.not_true, Bool.not_false, e0, e1, e4, e7, w1, Int.toNat_natCast, Bool.false_eq_true]; rfl) | (simp only [go_sem, ↓reduceIte, Nat.reduceEqDiff, Nat.reduceAdd, Nat.reduceLeDiff, Nat.reduceBEq, Nat.reduceMul, Int.reduceEq, Int.reduceLT, Int.reduceLE, decide_true, decide_false, Bool.not_true, Bool.not_false, e0, e1, e4, e7, w1, Int.toNat_natCast, Bool.false_eq_true]; done)) (by simp) (by first | assumption | exact rowsOk_nil _ | exact rowsOk_by _ | (rw [byD_cut]; exact rowsOk_by _) | (simp [rowsOk, D.one, Value.oneCell']; done)) (by first | omega | (simp; done) | (simp; omega) | (simp [byD]; omega)) ?_
    | refine ao_appR rfl rfl rfl (by first | assumption | (simp only [go_sem, ↓reduceIte, Nat.reduceEqDiff, Nat.reduceAdd, Nat.reduceLeDiff, Nat.reduceBEq, Nat.reduceMul, Int.reduceEq, Int.reduceLT, Int.reduceLE, decide_true, decide_false, Bool.not_true, Bool.not_false, e0, e1, e4, e7, w1, Int.toNat_natCast, Bool.false_eq_true]; rfl) | (simp only [go_sem, ↓reduceIte, Nat.reduceEqDiff, Nat.reduceAdd, Nat.reduceLeDiff, Nat.reduceBEq, Nat.reduceMul, Int.reduceEq, Int.reduceLT, Int.reduceLE, decide_true, decide_false, Bool.not_true, Bool.not_false, e0, e1, e4, e7, w1, Int.toNat_natCast, Bool.false_eq_true]; done)) (by simp) (by simp only [go_sem]; rfl) rfl (by first | assumption | exact rowsOk_nil _ | exact rowsOk_by _ | (rw [byD_cut]; exact rowsOk_by _) | (simp [rowsOk, D.one, Value.oneCell']; done)) (by first | omega | (simp; done) | (simp; omega) | (simp [byD]; omega)) ?_
    | refine ao_appNR rfl rfl rfl (by simp only [go_sem]; rfl) rfl (by first | assumption | exact rowsOk_nil _ | exact rowsOk_by _ | (rw [byD_cut]; exact rowsOk_by _) | (simp [rowsOk, D.one, Value.oneCell']; done)) (by first | omega | (simp; done) | (simp; omega) | (simp [byD]; omega)) ?_
    | refine ao0 rfl rfl ?_
    | (refine ao1' rfl fun K HK => ?_; simp only [go_sem, ↓reduceIte, Nat.reduceEqDiff, Nat.reduceAdd, Nat.reduceLeDiff, Nat.reduceBEq, Nat.reduceMul, Int.reduceEq, Int.reduceLT, Int.reduceLE, decide_true, decide_false, Bool.not_true, Bool.not_false, e0, e1, e4, e7, w1, Int.toNat_natCast, Bool.false_eq_true]; refine HK _ _ ?_; clear HK K)
    | refine ao0' rfl ?_
    | refine aw_if1 rfl ?_
    | refine aw_if0 rfl ?_
    | refine aw_skip ?_
    | refine aw_exit ?_
    | refine aw_ret ?_
    | refine thenS_n ?_
    | refine thenS_x ?_
    | refine thenS_r ?_
    | refine inB_n ?_
    | refine inB_r ?_
    | refine inB_x ?_
    | refine inB_y rfl ?_
    | (exfalso; omega)
   all_goals first
   | (exfalso; omega)
   | exact ⟨.inr rfl, endD (r := .tup [.v (.int .u64 (0 : Int)), .v (.int .i64 p), .v (.bool false)]) hl0 rfl (by simp) (by simp) rfl (by simp [low, lowL]) ⟨rfl, hJ⟩⟩
 obtain ⟨s1, s2, s3⟩ := shl_step ha (by omega) h9 hxl
 have s4 : acc + x.toNat % 128 * 2 ^ (7 * k) < 18446744073709551616 := by
  rcases Nat.lt_or_ge k 9 with h | h
  · have : 2 ^ (7 * (k + 1)) ≤ 2 ^ 63 := Nat.pow_le_pow_right (by omega) (by omega)
    omega
  · have : k = 9 := by omega
    subst this
    have h2 : x.toNat % 128 * 2 ^ (7 * 9) ≤ 1 * 2 ^ 63 := Nat.mul_le_mul (by omega) (Nat.le_refl _)
    have h3 : (2 : Nat) ^ (7 * 9) = 2 ^ 63 := rfl
    omega
 have wk : IntKind.u64.wrap (k : Int) = (k : Int) := by rw [IntKind.wrap_u64]; omega
 have w2 : IntKind.u64.wrap (7 * (k : Int)) = ((7 * k : Nat) : Int) := by rw [IntKind.wrap_u64]; omega
 have w3 : decide (0 ≤ ((7 * k : Nat) : Int)) = true := decide_eq_true (by omega)
 have wr : (x.toNat : Int).tmod 128 = ((x.toNat % 128 : Nat) : Int) := by rw [Int.tmod_eq_emod_of_nonneg (by omega)]; rfl
 have w8 : IntKind.u64.wrap ((x.toNat % 128 : Nat) : Int) = ((x.toNat % 128 : Nat) : Int) := by rw [IntKind.wrap_u64]; omega
 have w4 := shl_val s1 (by omega)
 have w5 : IntKind.u64.wrap ((acc : Int) + ((x.toNat % 128 * 2 ^ (7 * k) : Nat) : Int)) = ((acc + x.toNat % 128 * 2 ^ (7 * k) : Nat) : Int) := by rw [IntKind.wrap_u64]; omega
 have w6 : IntKind.i64.wrap (((p + k : Nat) : Int) + 1) = ((p + k + 1 : Nat) : Int) := IntWalk.i64_in _ (by omega)
 have w7 : IntKind.i64.wrap ((k : Int) + 1) = ((k + 1 : Nat) : Int) := IntWalk.i64_in _ (by omega)
 repeat' first
  | refine aw_seq' ?_
  | refine aw_region' ?_
  | refine aw_block ?_
  | refine ao_nil ?_
  | (refine ao1 rfl rfl fun K HK => ?_; (try refine aOp_pick rfl ?_); simp only [go_sem, ↓reduceIte, Nat.reduceEqDiff, Nat.reduceAdd, Nat.reduceLeDiff, Nat.reduceBEq, Nat.reduceMul, Int.reduceEq, Int.reduceLT, Int.reduceLE, decide_true, decide_false, Bool.not_true, Bool.not_false, e0, e1, e4, e7, w1, wk, w2, w3, wr, w8, w4, w5, w6, w7, Int.toNat_natCast, Bool.false_eq_true, Int.reduceBEq]; (first | refine splitB (fun hq => ?_) (fun hq => ?_) | refine splitN (fun hq => ?_) (fun hq => ?_) | (refine slc_sl (by simp only [go_sem]) rfl rfl (by first | omega | simp) (by first | omega | simp) (by simp only [go_sem]; omega) ?_) | (refine ⟨by omega, by omega, ?_⟩; first | refine row_at (by assumption) ?_ | (intro row hrow; obtain ⟨x, hx, rfl⟩ := row_inv hrow; clear hrow) | (intro row hrow)) | (refine ⟨by omega, ?_⟩; refine row_at (by assumption) ?_) | skip) <;> (refine HK _ _ ?_; clear HK K))
  | (refine aq1 rfl rfl fun K HK => ?_; (try refine aOp_pick rfl ?_); simp only [go_sem, ↓reduceIte, Nat.reduceEqDiff, Nat.reduceAdd, Nat.reduceLeDiff, Nat.reduceBEq, Nat.reduceMul, Int.reduceEq, Int.reduceLT, Int.reduceLE, decide_true, decide_false, Bool.not_true, Bool.not_false, e0, e1, e4, e7, w1, wk, w2, w3, wr, w8, w4, w5, w6, w7, Int.toNat_natCast, Bool.false_eq_true, Int.reduceBEq]; (first | refine splitB (fun hq => ?_) (fun hq => ?_) | refine splitN (fun hq => ?_) (fun hq => ?_) | (refine slc_sl (by simp only [go_sem]) rfl rfl (by first | omega | simp) (by first | omega | simp) (by simp only [go_sem]; omega) ?_) | (refine ⟨by omega, by omega, ?_⟩; first | refine row_at (by assumption) ?_ | (intro row hrow; obtain ⟨x, hx, rfl⟩ := row_inv hrow; clear hrow) | (intro row hrow)) | (refine ⟨by omega, ?_⟩; refine row_at (by assumption) ?_) | skip) <;> (refine HK _ _ rfl ?_; clear HK K))
  | refine aq0 rfl rfl ?_
  | refine aq_nil ?_
  | (refine aw_draw mixd (by kernel_rfl) ?_)
  | refine ao_appB rfl rfl rfl rfl (by first | assumption | (simp only [go_sem, ↓reduceIte, Nat.reduceEqDiff, Nat.reduceAdd, Nat.reduceLeDiff, Nat.reduceBEq, Nat.reduceMul, Int.reduceEq, Int.reduceLT, Int.reduceLE, decide_true, decide_false, Bool.not_true, Bool.not_false, e0, e1, e4, e7, w1, wk, w2, w3, wr, w8, w4, w5, w6, w7, Int.toNat_natCast, Bool.false_eq_true, Int.reduceBEq]; rfl) | (simp only [go_sem, ↓reduceIte, Nat.reduceEqDiff, Nat.reduceAdd, Nat.reduceLeDiff, Nat.reduceBEq, Nat.reduceMul, Int.reduceEq, Int.reduceLT, Int.reduceLE, decide_true, decide_false, Bool.not_true, Bool.not_false, e0, e1, e4, e7, w1, wk, w2, w3, wr, w8, w4, w5, w6, w7, Int.toNat_natCast, Bool.false_eq_true, Int.reduceBEq]; done)) (by simp) (by simp only [go_sem]; rfl) (by first | assumption | (simp only [go_sem, ↓reduceIte, Nat.reduceEqDiff, Nat.reduceAdd, Nat.reduceLeDiff, Nat.reduceBEq, Nat.reduceMul, Int.reduceEq, Int.reduceLT, Int.reduceLE, decide_true, decide_false, Bool.not_true, Bool.not_false, e0, e1, e4, e7, w1, wk, w2, w3, wr, w8, w4, w5, w6, w7, Int.toNat_natCast, Bool.false_eq_true, Int.reduceBEq]; rfl) | (simp only [go_sem, ↓reduceIte, Nat.reduceEqDiff, Nat.reduceAdd, Nat.reduceLeDiff, Nat.reduceBEq, Nat.reduceMul, Int.reduceEq, Int.reduceLT, Int.reduceLE, decide_true, decide_false, Bool.not_true, Bool.not_false, e0, e1, e4, e7, w1, wk, w2, w3, wr, w8, w4, w5, w6, w7, Int.toNat_natCast, Bool.false_eq_true, Int.reduceBEq]; done)) (by simp) (by first | assumption | exact rowsOk_nil _ | exact rowsOk_by _ | (rw [byD_cut]; exact rowsOk_by _) | (simp [rowsOk, D.one, Value.oneCell']; done)) (by first | omega | (simp; done) | (simp; omega) | (simp [byD]; omega)) ?_
  | refine ao_appNB rfl rfl rfl rfl (by simp only [go_sem]; rfl) (by first | assumption | (simp only [go_sem, ↓reduceIte, Nat.reduceEqDiff, Nat.reduceAdd, Nat.reduceLeDiff, Nat.reduceBEq, Nat.reduceMul, Int.reduceEq, Int.reduceLT, Int.reduceLE, decide_true, decide_false, Bool.not_true, Bool.not_false, e0, e1, e4, e7, w1, wk, w2, w3, wr, w8, w4, w5, w6, w7, Int.toNat_natCast, Bool.false_eq_true, Int.reduceBEq]; rfl) | (simp only [go_sem, ↓reduceIte, Nat.reduceEqDiff, Nat.reduceAdd, Nat.reduceLeDiff, Nat.reduceBEq, Nat.reduceMul, Int.reduceEq, Int.reduceLT, Int.reduceLE, decide_true, decide_false, Bool.not_true, Bool.not_false, e0, e1, e4, e7, w1, wk, w2, w3, wr, w8, w4, w5, w6, w7, Int.toNat_natCast, Bool.false_eq_true, Int.reduceBEq]; done)) (by simp) (by first | assumption | exact rowsOk_nil _ | exact rowsOk_by _ | (rw [byD_cut]; exact rowsOk_by _) | (simp [rowsOk, D.one, Value.oneCell']; done)) (by first | omega | (simp; done) | (simp; omega) | (simp [byD]; omega)) ?_
  | refine ao_appR rfl rfl rfl (by first | assumption | (simp only [go_sem, ↓reduceIte, Nat.reduceEqDiff, Nat.reduceAdd, Nat.reduceLeDiff, Nat.reduceBEq, Nat.reduceMul, Int.reduceEq, Int.reduceLT, Int.reduceLE, decide_true, decide_false, Bool.not_true, Bool.not_false, e0, e1, e4, e7, w1, wk, w2, w3, wr, w8, w4, w5, w6, w7, Int.toNat_natCast, Bool.false_eq_true, Int.reduceBEq]; rfl) | (simp only [go_sem, ↓reduceIte, Nat.reduceEqDiff, Nat.reduceAdd, Nat.reduceLeDiff, Nat.reduceBEq, Nat.reduceMul, Int.reduceEq, Int.reduceLT, Int.reduceLE, decide_true, decide_false, Bool.not_true, Bool.not_false, e0, e1, e4, e7, w1, wk, w2, w3, wr, w8, w4, w5, w6, w7, Int.toNat_natCast, Bool.false_eq_true, Int.reduceBEq]; done)) (by simp) (by simp only [go_sem]; rfl) rfl (by first | assumption | exact rowsOk_nil _ | exact rowsOk_by _ | (rw [byD_cut]; exact rowsOk_by _) | (simp [rowsOk, D.one, Value.oneCell']; done)) (by first | omega | (simp; done) | (simp; omega) | (simp [byD]; omega)) ?_
  | refine ao_appNR rfl rfl rfl (by simp only [go_sem]; rfl) rfl (by first | assumption | exact rowsOk_nil _ | exact rowsOk_by _ | (rw [byD_cut]; exact rowsOk_by _) | (simp [rowsOk, D.one, Value.oneCell']; done)) (by first | omega | (simp; done) | (simp; omega) | (simp [byD]; omega)) ?_
  | refine ao0 rfl rfl ?_
  | (refine ao1' rfl fun K HK => ?_; simp only [go_sem, ↓reduceIte, Nat.reduceEqDiff, Nat.reduceAdd, Nat.reduceLeDiff, Nat.reduceBEq, Nat.reduceMul, Int.reduceEq, Int.reduceLT, Int.reduceLE, decide_true, decide_false, Bool.not_true, Bool.not_false, e0, e1, e4, e7, w1, wk, w2, w3, wr, w8, w4, w5, w6, w7, Int.toNat_natCast, Bool.false_eq_true, Int.reduceBEq]; refine HK _ _ ?_; clear HK K)
  | refine ao0' rfl ?_
  | refine aw_if1 rfl ?_
  | refine aw_if0 rfl ?_
  | refine aw_skip ?_
  | refine aw_exit ?_
  | refine aw_ret ?_
  | refine thenS_n ?_
  | refine thenS_x ?_
  | refine thenS_r ?_
  | refine inB_n ?_
  | refine inB_r ?_
  | refine inB_x ?_
  | refine inB_y rfl ?_
  | (exfalso; omega)
 all_goals first
 | (exfalso; omega)
 | (rw [numF_last _ (by omega) h9 (by omega), if_pos (by omega)] at hJ
    exact ⟨.inr rfl, endD (r := .tup [.v (.int .u64 (0 : Int)), .v (.int .i64 p), .v (.bool false)]) hl0 rfl (by simp) (by simp) rfl (by simp [low, lowL]) ⟨rfl, hJ⟩⟩)
 | (rw [numF_last _ (by omega) h9 (by omega), if_neg (by omega)] at hJ
    have hm : x.toNat % 128 = x.toNat := Nat.mod_eq_of_lt (by omega)
    exact ⟨.inr rfl, endD (r := .tup [.v (.int .u64 ((acc + x.toNat % 128 * 2 ^ (7 * k) : Nat) : Int)), .v (.int .i64 ((p + k + 1 : Nat) : Int)), .v (.bool true)]) hl0 rfl (by simp) (by simp) rfl (by simp [low, lowL]) ⟨rfl, by rw [hm]; exact hJ⟩⟩)
 | (rw [numF_more _ (by omega) h9 (by omega)] at hJ
    have hJ := (rawU_more p k acc x.toNat _).symm.trans hJ
    exact ⟨rfl, 10 - (k + 1), by omega, k + 1, acc + x.toNat % 128 * 2 ^ (7 * k), rfl, by omega, s3, hJ, rfl, by simp [upd, e0], by simp [upd, e1], rfl, rfl⟩)
end
end Go.Proofs.YtgkjcmglcnhpaaaGreatDoor
