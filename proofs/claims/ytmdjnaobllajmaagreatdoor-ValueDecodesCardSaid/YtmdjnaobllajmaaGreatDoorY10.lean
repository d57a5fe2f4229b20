/-
  What the statements of the chapter share, part 10: WR1, WR2, WR3, E1, E2, E3, E4, E5, E6, E7, E8, E9, N1, N2.
-/
import Derived.Test.YtmdjnaobllajmaaGreatDoorY08
import Derived.Test.YtmdjnaobllajmaaGreatDoorY09
import Derived.Laws.BitsAllLaws
import Derived.Lib.Zigzag
set_option linter.unusedVariables false
set_option linter.unusedSimpArgs false
set_option maxRecDepth 100000
set_option maxHeartbeats 8000000
namespace Go.Proofs.YtmdjnaobllajmaaGreatDoor
open _root_.Bool renaming and_eq_true → Z1, not_false → Z8, not_true → Z9
open _root_.Int renaming le_refl → Z2, fdiv_eq_ediv_of_nonneg → Z7
open _root_.List renaming replicate → Z4, map_cons → Za
open _root_.Nat renaming le_refl → Z5, le_of_ble_eq_true → Z6
open _root_.Option renaming map_eq_some_iff → Z0
open _root_.Go.Proofs.Tryz renaming prog → Z3
open Go.RowKit
section
attribute [local irreducible] on aOp
attribute [local go_sem] decide_true decide_false Z9 Z8
attribute [local simp] byD_len
variable (G : Nat → D) (hG : ∀ g, low 0 (G g))
def wG (n : Nat) (rows : List (List D)) (T : List Ob) : List Ob := .cells [.buf 1 n] :: .buf 5 1 rows :: T
def wH (l : List UInt8) : List Ob := wG l.length (byD l) []
theorem wH_eq (l : List UInt8) : wH l = wG l.length (byD l) [] := rfl
section
variable {n m : Nat} {rows r2 : List (List D)} {T l : List Ob}
theorem wG_0 : (wG n rows T)[0]? = some (.cells [.buf 1 n]) := rfl
theorem wG_1 : (wG n rows T)[1]? = some (.buf 5 1 rows) := rfl
theorem wG_s0 : (wG n rows T).set 0 (.cells [.buf 1 m]) = wG m rows T := rfl
theorem wG_s1 : (wG n rows T).set 1 (.buf 5 1 r2) = wG n r2 T := rfl
theorem wG_a0 : (wG n rows T ++ l)[0]? = some (.cells [.buf 1 n]) := rfl
theorem wG_a1 : (wG n rows T ++ l)[1]? = some (.buf 5 1 rows) := rfl
theorem wG_b0 : (wG n rows T ++ l).set 0 (.cells [.buf 1 m]) = wG m rows (T ++ l) := rfl
theorem wG_b1 : (wG n rows T ++ l).set 1 (.buf 5 1 r2) = wG n r2 (T ++ l) := rfl
end
theorem wG_eq {a b : Nat} {x y : List (List D)} (T : List Ob) (h : a = b) (k : x = y) : wG a x T = wG b y T := by rw [h, k]
theorem wG_low' (l l2 : List UInt8) : lowH (wH l).length (wH l2) := by
 intro x hx
 unfold wH wG at hx
 have : (wH l).length = 2 := rfl
 rw [this]
 simp at hx
 rcases hx with rfl | rfl
 · simp [Zx1, lowL, low]
 · exact Ja 2 l2
theorem endW {res : Array ResultVar} {K : List Ob → D → Prop} {l l2 : List UInt8} {n : Nat} {rows : List (List D)} {T : List Ob} {s : S} (h1 : resD Z3 s res.toList = some []) (h2 : s.h = wG n rows T) (h3 : n = l2.length) (h4 : rows = byD l2) (hK : K (wH l2) (.tup [])) : EndD Z3 res (wH l).length K s := by
 subst h3 h4
 have e : s.h.take (wH l).length = wH l2 := by rw [h2]; rfl
 refine ⟨[], _, h1, Z5 _, by rw [h2]; exact Nat.le_add_left 2 T.length, by rw [e]; exact wG_low' l l2, ?_, ?_⟩
 · simp [outD, cvD, low, lowL]
 · rw [e]; simpa [outD, cvD] using hK
theorem or_byte : ∀ m : Fin 256, IntKind.u8.wrap ((BitVec.ofInt 8 (m.val : Int) ||| BitVec.ofInt 8 128).toNat : Int) = ((m.val % 128 + 128 : Nat) : Int) := by decide +kernel
theorem u8_wrap (m : Nat) : IntKind.u8.wrap (m : Int) = ((m % 256 : Nat) : Int) := by simp [IntKind.wrap, IntKind.bits, IntKind.signed]
theorem byte_lo (m : Nat) (h : m < 256) : ((UInt8.ofNat m).toNat : Int) = (m : Int) := by simp; omega
theorem byte_hi (m : Nat) : IntKind.u8.wrap ((BitVec.ofInt 8 (IntKind.u8.wrap (m : Int)) ||| BitVec.ofInt 8 128).toNat : Int) = ((UInt8.ofNat (m % 128 + 128)).toNat : Int) := by
 have h := or_byte ⟨m % 256, Nat.mod_lt _ (by omega)⟩
 rw [u8_wrap m, byte_lo _ (by omega)]
 refine h.trans ?_
 show ((m % 256 % 128 + 128 : Nat) : Int) = _
 omega
theorem byD_one (l : List UInt8) (b : UInt8) {z : Int} (h : z = (b.toNat : Int)) : byD l ++ [[.v (.int .u8 z)]] = byD (l ++ [b]) := by subst h; simp [byD]
theorem fdiv128 (m : Nat) : (m : Int).fdiv (2 ^ min (Int.toNat 7) 64) = ((m / 128 : Nat) : Int) := by
 rw [show (2 : Int) ^ min (Int.toNat 7) 64 = 128 by decide, Z7 _ (by omega)]; omega
include hG
attribute [local go_sem] Int.reduceEq Int.reduceLE Int.reduceLT Nat.reduceAdd Nat.reduceBEq Nat.reduceEqDiff Nat.reduceLeDiff Nat.reduceMul wG_0 wG_1 wG_a0 wG_a1 wG_b0 wG_b1 wG_s0 wG_s1 wH_eq
attribute [local go_sem ↓] reduceIte
theorem wUint_d (l : List UInt8) (n : Nat) (hn : n < 18446744073709551616) (hl : l.length ≤ 100000000) :
 Does Z3 G 82 (wH l) [.ptr 0 0, .v (.int .u64 n)] (fun h' r => h' = wH (l ++ Yy n) ∧ r = .tup []) := by
 refine Y5 Tryz.func82 rfl (Z6 rfl) hG fun hl0 _ => ?_
 simp only [Tryz.ntmps82]
 repeat' first
  | refine sA rfl ?_
 refine Yn (fun m e h' => ∃ (k : Nat) (cur : List UInt8) (T : List Ob), m = k ∧ k < 18446744073709551616 ∧ cur ++ Yy k = l ++ Yy n ∧ h' = wG cur.length (byD cur) T ∧ e 0 = .ptr 0 0 ∧ e 1 = .v (.int .u64 k)) n ⟨n, l, [], rfl, hn, rfl, rfl, rfl, rfl⟩ ?_
 rintro m e h' ⟨k, cur, T, rfl, hk, hE, rfl, e0, e1⟩
 have hc : cur.length ≤ 100000010 := by
  have h1 := congrArg List.length hE
  rw [List.length_append, List.length_append] at h1
  have := (Zg9 n hn).1
  omega
 repeat' first
  | refine sA rfl ?_ | refine sI rfl rfl ?_ | refine sT rfl ?_
  | refine Yr ?_
  | (refine ao1 rfl rfl fun K HK => ?_; simp only [go_sem, e0, e1]; (first | refine X1 (fun hq => ?_) (fun hq => ?_) | skip) <;> (refine HK _ _ ?_; clear HK K))
  | refine Wi rfl rfl rfl rfl (by (simp only [go_sem, e0, e1]; rfl)) (by simp) (by simp only [go_sem]; rfl) (by (simp only [go_sem, e0, e1]; rfl)) (by simp) (by (simp [Yz, D.one, Value.oneCell']; done)) (by (simp; omega)) ?_
  | (refine ao1' rfl fun K HK => ?_; simp only [go_sem, e0, e1]; refine HK _ _ ?_; clear HK K)
 · have e4 := fun T' => wG_eq T' (show cur.length + 1 = (cur ++ [UInt8.ofNat (m % 128 + 128)]).length by simp) (byD_one cur _ (byte_hi m))
   refine ⟨rfl, m / 128, by omega, m / 128, cur ++ [UInt8.ofNat (m % 128 + 128)], _, rfl, by omega, ?_, e4 _, ?_, ?_⟩
   · rw [List.append_assoc, ← hE, Zj1 (n := m) (by omega)]; rfl
   · simp [upd, e0]
   · simp only [upd, fdiv128]; rfl
 · refine ⟨.inl rfl, endW (l2 := l ++ Yy n) rfl rfl ?_ ?_ ⟨rfl, rfl⟩⟩
   · rw [← hE, Ze8 (by omega)]; simp
   · rw [← hE, Ze8 (by omega), byD_one _ (UInt8.ofNat m)]
     rw [u8_wrap, byte_lo _ (by omega)]; omega
omit hG
theorem zz_pos (n : Int) (h0 : 0 ≤ n) (h2 : n ≤ 9223372036854775807) : bits .xor .u64 (n * 2) (n / 9223372036854775808) = ((zz n : Nat) : Int) := by
 have e : n / 9223372036854775808 = 0 := by omega
 rw [e, u64_xor (n * 2) 0 (by omega) (by omega) (by omega) (by omega)]
 unfold zz
 rw [if_pos h0]
 simp
 omega
theorem xor_ones (b : Nat) (hb : b < 2 ^ 64) : b ^^^ (2 ^ 64 - 1) = 2 ^ 64 - 1 - b := by rw [Nat.xor_comm]; exact Lib.xor_ones64 b hb
theorem zz_neg (n : Int) (h1 : -9223372036854775808 ≤ n) (h0 : ¬ 0 ≤ n) : bits .xor .u64 (IntKind.u64.wrap (IntKind.u64.wrap n * 2)) (IntKind.u64.wrap (n / 9223372036854775808)) = ((zz n : Nat) : Int) := by
 have e0 : IntKind.u64.wrap n = n + 18446744073709551616 := by rw [IntKind.wrap_u64]; omega
 have e1 : IntKind.u64.wrap (IntKind.u64.wrap n * 2) = 2 * n + 18446744073709551616 := by rw [e0, IntKind.wrap_u64]; omega
 have e2 : IntKind.u64.wrap (n / 9223372036854775808) = 18446744073709551615 := by
  have : n / 9223372036854775808 = -1 := by omega
  rw [this, IntKind.wrap_u64]; rfl
 rw [e1, e2, u64_xor _ _ (by omega) (by omega) (by omega) (by omega)]
 have e3 : (18446744073709551615 : Int).toNat = 2 ^ 64 - 1 := rfl
 rw [e3, xor_ones _ (by omega)]
 unfold zz
 rw [if_neg h0]
 omega
theorem zzE {n : Int} (hn : I64 n) : IntKind.u64.wrap ((BitVec.ofInt 64 (IntKind.u64.wrap (IntKind.u64.wrap n * 2 ^ min (Int.toNat 1) 64)) ^^^ BitVec.ofInt 64 (IntKind.u64.wrap (n.fdiv (2 ^ min (Int.toNat 63) 64)))).toNat : Int) = ((zz n : Nat) : Int) := by
 obtain ⟨h1, h2⟩ := hn
 have e1 : (2 : Int) ^ min (Int.toNat 1) 64 = 2 := by decide
 have e2 : n.fdiv (2 ^ min (Int.toNat 63) 64) = n / 9223372036854775808 := by
  rw [show (2 : Int) ^ min (Int.toNat 63) 64 = 9223372036854775808 by decide, Z7 _ (by omega)]
 rw [e1, e2]
 by_cases h0 : 0 ≤ n
 · have w1 : IntKind.u64.wrap n = n := by rw [IntKind.wrap_u64]; omega
   have w2 : IntKind.u64.wrap (n * 2) = n * 2 := by rw [IntKind.wrap_u64]; omega
   have w3 : IntKind.u64.wrap (n / 9223372036854775808) = n / 9223372036854775808 := by rw [IntKind.wrap_u64]; omega
   rw [w1, w2, w3]
   exact zz_pos n h0 h2
 · exact zz_neg n h1 h0
theorem lenU {a : Nat} (h : a ≤ 100000000) : IntKind.u64.wrap (a : Int) = (a : Int) := by rw [IntKind.wrap_u64]; omega
include hG
theorem wUint_z {l : List UInt8} {n : Nat} {Z : Int} (hz : Z = (n : Int)) (hn : n < 18446744073709551616) (hl : l.length ≤ 100000000) :
 Does Z3 G 82 (wH l) [.ptr 0 0, .v (.int .u64 Z)] (fun h' r => h' = wH (l ++ Yy n) ∧ r = .tup []) := hz ▸ wUint_d G hG l n hn hl
theorem wInt_d (l : List UInt8) (n : Int) (hn : I64 n) (hl : l.length ≤ 100000000) :
 Does Z3 G 81 (wH l) [.ptr 0 0, .v (.int .i64 n)] (fun h' r => h' = wH (l ++ intE n) ∧ r = .tup []) := by
 refine Y5 Tryz.func81 rfl (Z6 rfl) hG fun hl0 _ => ?_
 simp only [Tryz.ntmps81]
 repeat' first
  | refine sA rfl ?_
  | refine Yr ?_
  | (refine ao1 rfl rfl fun K HK => ?_; simp only [go_sem] <;> (refine HK _ _ ?_; clear HK K))
  | (refine ao2 rfl rfl rfl Zd7 (wUint_z G hG (zzE hn) (zz_lt n hn.1 hn.2) hl) ?_; rintro _ _ ⟨rfl, rfl⟩)
 exact ⟨.inl rfl, endW (l2 := l ++ intE n) rfl rfl rfl rfl ⟨rfl, rfl⟩⟩
theorem wText_d (l : List UInt8) (s : ByteArray) (hs : s.size ≤ 10000000) (hl : l.length ≤ 80000000) :
 Does Z3 G 83 (wH l) [.ptr 0 0, .v (.string s)] (fun h' r => h' = wH (l ++ Xq s) ∧ r = .tup []) := by
 have hu := (Zg9 s.size (by omega)).1
 refine Y5 Tryz.func83 rfl (Z6 rfl) hG fun hl0 _ => ?_
 simp only [Tryz.ntmps83]
 repeat' first
  | refine sA rfl ?_
  | refine Yr ?_
  | (refine ao1 rfl rfl fun K HK => ?_; simp only [go_sem, lenU (a := s.size) (by omega)] <;> (refine HK _ _ ?_; clear HK K))
  | refine ao_appR rfl rfl rfl (by (simp only [go_sem, lenU (a := s.size) (by omega)]; rfl)) (by simp) (by simp only [go_sem]; rfl) rfl (by exact Zc7 _) (by (simp; omega)) ?_
  | (refine ao2 rfl rfl rfl Zd7 (wUint_d G hG l _ (by omega) (by omega)) ?_; rintro _ _ ⟨rfl, rfl⟩)
  | (refine ao1' rfl fun K HK => ?_; simp only [go_sem, lenU (a := s.size) (by omega)]; refine HK _ _ ?_; clear HK K)
 exact ⟨.inl rfl, endW (l2 := l ++ Xq s) rfl rfl (by simp [Xq]; try omega) (by rw [byD_app, List.append_assoc]; rfl) ⟨rfl, rfl⟩⟩
theorem wData_d (l : List UInt8) (hl : l.length ≤ 100000000) :
 Does Z3 G 51 (wH l) [.ptr 0 0] (fun h' r => h' = wH l ∧ r = .sl 1 (byD l)) := by
 refine Y5 Tryz.func51 rfl (Z6 rfl) hG fun hl0 _ => ?_
 simp only [Tryz.ntmps51]
 repeat' first
  | refine sA rfl ?_
  | refine Yr ?_
  | (refine ao1 rfl rfl fun K HK => ?_; simp only [go_sem] <;> (refine HK _ _ ?_; clear HK K))
  | refine Wi rfl rfl rfl rfl (by (simp only [go_sem]; rfl)) (by simp) (by simp only [go_sem]; rfl) (by (simp only [go_sem]; rfl)) (by simp) (by exact Zc7 _) (by (simp; omega)) ?_
 have e : ((wG l.length (byD l) [] ++ [Ob.buf 5 1 (byD l)]).take (wH l).length) = wH l := rfl
 refine ⟨.inr rfl, [.buf 2 l.length], 2, rfl, Z5 _, by simp [wG], ?_, ?_, ?_⟩
 · show lowH 2 ((wG l.length (byD l) [] ++ [Ob.buf 5 1 (byD l)]).take (wH l).length)
   rw [e]; exact hl0
 · simp [outD, cvD, cv1, wG, Ja]
 · refine ⟨e, ?_⟩
   simp [outD, cvD, cv1, wG]
end
section
attribute [local irreducible] on aOp
attribute [local go_sem] decide_true decide_false Z9 Z8
attribute [local simp] byD_len
theorem renR_by (π : Nat → Nat) (l : List UInt8) : renR π (byD l) = byD l := by
 have := J2 π (.sl 1 (byD l)) (Ja 0 l)
 rw [ren] at this
 exact (D.sl.inj this).2
variable (G : Nat → D) (hG : ∀ g, low 0 (G g))
include hG
theorem w_at {l l2 : List UInt8} {f : FuncId} {xs : List D} {r0 : D} (lx : lowL 0 xs) (lr : low 0 r0) (q : Does Z3 G f (wH l) (.ptr 0 0 :: xs) (fun h' r => h' = wH l2 ∧ r = r0)) {h : List Ob} {i j : Nat} (hi : h[i]? = some (.cells [.buf j l.length])) (hj : h[j]? = some (.buf 5 1 (byD l))) :
 Does Z3 G f h (.ptr i 0 :: xs) (fun h' r => h' = (h.set i (.cells [.buf j l2.length])).set j (.buf 5 1 (byD l2)) ∧ r = r0) := by
 have hij : i ≠ j := fun e => by subst e; rw [hi] at hj; cases hj
 have L : Lies (fun k => if k = 0 then i else j) (wH l) h := by
  refine ⟨fun k ob hk => ?_, fun a b ha hb hab => ?_, wG_low' l l⟩
  · rcases k with _ | _ | k
    · cases hk; simp only [Va, renL, ren]; simpa using hi
    · cases hk; simp only [Va, renR_by]; simpa using hj
    · cases hk
  · have ha : a < 2 := ha
    have hb : b < 2 := hb
    have hab : (if a = 0 then i else j) = (if b = 0 then i else j) := hab
    split at hab <;> split at hab <;> omega
 have F := Does.frame hG L (args := .ptr 0 0 :: xs) (by rw [lowL, low]; exact ⟨Nat.zero_lt_succ _, Ub (Nat.zero_le _) _ lx⟩) (K1 := fun h' r => h' = wH l2 ∧ r = r0) (by
  rintro _ _ ⟨rfl, _⟩
  refine ⟨fun a b ha hb hab => ?_, fun k h1 h2 => ?_⟩
  · have ha : a < 2 := ha
    have hb : b < 2 := hb
    have hab : (if a = 0 then i else j) = (if b = 0 then i else j) := hab
    split at hab <;> split at hab <;> omega
  · have h1 : 2 ≤ k := h1
    have h2 : k < 2 := h2
    omega) q
 rw [renL, ren, W4 _ _ lx] at F
 refine F.mono ?_
 rintro _ _ ⟨_, _, ⟨rfl, rfl⟩, rfl, rfl⟩
 refine ⟨?_, J2 _ _ lr⟩
 simp only [wH, wG, Za, List.map_nil, plc, Va, renL, ren, renR_by]
 rfl
theorem w_tail {l l2 : List UInt8} {f : FuncId} {xs : List D} {r0 : D} (lx : lowL 0 xs) (lr : low 0 r0) (q : Does Z3 G f (wH l) (.ptr 0 0 :: xs) (fun h' r => h' = wH l2 ∧ r = r0)) {n : Nat} {T : List Ob} (hn : n = l.length) :
 Does Z3 G f (wG n (byD l) T) (.ptr 0 0 :: xs) (fun h' r => h' = wG l2.length (byD l2) T ∧ r = r0) := by
 subst hn
 exact w_at G hG lx lr q (i := 0) (j := 1) rfl rfl
omit hG
structure Cmd where
 client : Int
 seq : Int
 kind : Int
 writes : List (ByteArray × List UInt8)
 replica : Int
 tag : List UInt8
def wrX (x : ByteArray × List UInt8) : List D := [.v (.string x.1), .sl 1 (byD x.2)]
def cmdX (c : Cmd) : List D := [.v (.int .i64 c.client), .v (.int .i64 c.seq), .v (.int .i64 c.kind), .sl 2 (c.writes.map wrX), .v (.int .i64 c.replica), .sl 1 (byD c.tag)]
structure Cmd.Ok (c : Cmd) : Prop where
 client : I64 c.client
 seq : I64 c.seq
 kind : I64 c.kind
 replica : I64 c.replica
 many : c.writes.length ≤ 3000
 each : ∀ x ∈ c.writes, x.1.size ≤ 10000 ∧ x.2.length ≤ 10000
 tag : c.tag.length ≤ 10000
def writesE (l : List (ByteArray × List UInt8)) : List UInt8 := l.flatMap fun x => Xq x.1 ++ Zg6 x.2
def writeC (c : Cmd) : List UInt8 := intE c.client ++ intE c.seq ++ intE c.kind ++ Yy c.writes.length ++ writesE c.writes ++ intE c.replica
def encC (c : Cmd) : List UInt8 := writeC c ++ Zg6 c.tag
def wB (n : Nat) (rows : List (List D)) (b : Ob) (T : List Ob) : List Ob := wG n rows (b :: T)
section
variable {n m : Nat} {rows r2 : List (List D)} {T : List Ob} {b x y : Ob}
theorem wB_len : (wB n rows b T).length = T.length + 3 := rfl
theorem wH_box {l : List UInt8} : wH l ++ [x] = wB l.length (byD l) x [] := rfl
theorem wH_len {l : List UInt8} : (wH l).length = 2 := rfl
end
include hG
theorem w_b {l l2 : List UInt8} {f : FuncId} {xs : List D} {r0 : D} (lx : lowL 0 xs) (lr : low 0 r0) (q : Does Z3 G f (wH l) (.ptr 0 0 :: xs) (fun h' r => h' = wH l2 ∧ r = r0)) {n : Nat} {b : Ob} {T : List Ob} (hn : n = l.length) :
 Does Z3 G f (wB n (byD l) b T) (.ptr 0 0 :: xs) (fun h' r => h' = wB l2.length (byD l2) b T ∧ r = r0) := w_tail G hG lx lr q hn
end
section
attribute [local irreducible] on aOp
attribute [local go_sem] decide_true decide_false Z9 Z8
attribute [local simp] byD_len
variable (G : Nat → D) (hG : ∀ g, low 0 (G g))
def hE (c : Cmd) (n : Nat) (rows : List (List D)) : List Ob := [.cells (cmdX c), .cells [.buf 2 n], .buf 5 1 rows]
include hG
theorem Yk {P : Program} {f : FuncId} {args : List D} {r : D} (la : lowL 0 args) (lr : low 0 r) (q : Does P G f [] args (fun h' r' => h' = [] ∧ r' = r)) (h : List Ob) : Does P G f h args (fun h' r' => h' = h ∧ r' = r) := by
 have L : Lies (fun i => i) [] h := ⟨fun i ob q => by simp at q, fun i j q => by simp at q, fun ob q => by simp at q⟩
 have F := Does.frame hG L (args := args) la (K1 := fun h1 r1 => h1 = [] ∧ r1 = r) (by
  rintro _ _ ⟨rfl, _⟩
  exact ⟨fun i j hi => by simp at hi, fun j _ hj => by simp at hj⟩) q
 rw [W4 _ _ la] at F
 refine F.mono ?_
 rintro _ _ ⟨_, _, ⟨rfl, rfl⟩, rfl, rfl⟩
 exact ⟨rfl, J2 _ _ lr⟩
omit hG in
omit hG in
end
section
def unBy : List (List D) → Option (List UInt8)
 | [] => some []
 | [.v (.int .u8 n)] :: t => if 0 ≤ n ∧ n < 256 then (unBy t).map (UInt8.ofNat n.toNat :: ·) else none
 | _ => none
theorem Zt5 : ∀ (xs : List (List D)) (bs : List UInt8), unBy xs = some bs → xs = byD bs
 | [], bs, q => by cases q; rfl
 | [.v (.int .u8 n)] :: t, bs, q => by
  rw [unBy] at q
  split at q
  · rename_i h
    rw [Z0] at q
    obtain ⟨l, h1, rfl⟩ := q
    rw [Zt5 t l h1]
    have : (((UInt8.ofNat n.toNat).toNat : Nat) : Int) = n := by rw [UInt8.toNat_ofNat']; omega
    simp [byD]
    omega
  · cases q
def rowsOkB (k : Nat) (ys : List (List D)) : Bool := ys.all fun row => row.length == k && row.all D.one
theorem rowsOkB_spec {k : Nat} {ys : List (List D)} (q : rowsOkB k ys = true) : Yz k ys := fun row hr => by
 have := List.all_eq_true.1 q row hr
 simp only [Z1, beq_iff_eq, List.all_eq_true] at this
 exact this
end
section
section
variable (P : Program) (G : Nat → D) (env : Nat → D) (h : List Ob)
def idxF (t : TypeId) (x i : D) : Option D := match i with
 | .v (.int _ n) => match x with
  | .sl k xs => if ((elT P t).bind (szT P)) = some k ∧ 0 ≤ n ∧ n < (xs.length : Int) then (xs[n.toNat]?).map .rp else none
  | .buf i m => match h[i]? with
   | some (.buf _ k xs) => if xs.length = m ∧ ((elT P t).bind (szT P)) = some k ∧ 0 ≤ n ∧ n < (m : Int) then some (.bp i m n.toNat 0) else none
   | _ => none
  | .ptr i o => match arrT P t with
   | some (l, e) => match szT P e with
    | some z => if 0 ≤ n ∧ n < (l : Int) then some (.ptr i (o + n.toNat * z)) else none
    | none => none
   | none => none
  | .rp ds => match arrT P t with
   | some (l, e) => match szT P e with
    | some z => if 0 ≤ n ∧ n < (l : Int) then some (.rp (ds.drop (n.toNat * z))) else none
    | none => none
   | none => none
  | _ => none
 | _ => none
theorem idxF_sound {t : TypeId} {x i d : D} {K : D → Prop} (q : idxF P h t x i = some d) (k : K d) : idxA P h t x i K := by
 unfold idxF at q
 unfold idxA
 split at q
 rotate_left
 · cases q
 split at q
 · split at q
   · rename_i hc
     refine ⟨hc.1, hc.2.1, hc.2.2, fun row hr => ?_⟩
     rw [hr] at q; cases q; exact k
   · cases q
 · split at q
   · rename_i e k' xs hh
     split at q
     · rename_i hc; cases q; exact ⟨e, k', xs, hh, hc.1, hc.2.1, hc.2.2.1, hc.2.2.2, k⟩
     · cases q
   · cases q
 · split at q
   · rename_i l e ha
     split at q
     · rename_i z hz
       split at q
       · rename_i hc; cases q; exact ⟨l, e, z, ha, hz, hc.1, hc.2, k⟩
       · cases q
     · cases q
   · cases q
 · split at q
   · rename_i l e ha
     split at q
     · rename_i z hz
       split at q
       · rename_i hc; cases q; exact ⟨l, e, z, ha, hz, hc.1, hc.2, k⟩
       · cases q
     · cases q
   · cases q
 · cases q
end
end
section
section
variable (P : Program) (h : List Ob)
def slcF (t : TypeId) (x : D) (lo hi : Option D) : Option D := match x with
 | .v (.string s) => match bndD 0 lo, bndD s.size hi with
  | some l, some r => if strT P t = true ∧ 0 ≤ l ∧ l ≤ r ∧ r ≤ s.size then some (.v (.string (s.extract l.toNat r.toNat))) else none
  | _, _ => none
 | .sl k xs => match bndD 0 lo, bndD xs.length hi with
  | some l, some r => if (elT P t).bind (szT P) = some k ∧ 0 ≤ l ∧ l ≤ r ∧ r ≤ xs.length then some (.sl k ((xs.take r.toNat).drop l.toNat)) else none
  | _, _ => none
 | _ => none
theorem slcF_sound {t : TypeId} {x d : D} {lo hi : Option D} {K : D → Prop} (q : slcF P t x lo hi = some d) (k : K d) : slcA P t x lo hi K := by
 unfold slcF at q
 unfold slcA
 split at q
 · split at q
   · rename_i l r hl hr
     split at q
     · rename_i hc; cases q; exact ⟨l, r, hc.1, hl, hr, hc.2.1, hc.2.2.1, hc.2.2.2, k⟩
     · cases q
   · cases q
 · split at q
   · rename_i l r hl hr
     split at q
     · rename_i hc; cases q; exact ⟨l, r, hc.1, hl, hr, hc.2.1, hc.2.2.1, hc.2.2.2, k⟩
     · cases q
   · cases q
 · cases q
end
end
section
section
variable (P : Program) (h : List Ob)
def apF (t u : TypeId) (x y : D) : Option (List Ob × D) := match apT P t, srcD P h t u y with
 | some (e, k, by'), some ys => if rowsOkB k ys = true then match x with
   | .buf i n => match h[i]? with
     | some (.buf e2 k2 xs) => if e2 = e ∧ k2 = k ∧ xs.length = n ∧ (n + ys.length) * (by' + 1) ≤ 140737488355328 then some (h.set i (.buf e k (xs ++ ys)), .buf i (n + ys.length)) else none
     | _ => none
   | .v (.slice none 0 0) => if ys.length * (by' + 1) ≤ 140737488355328 then some (h ++ [.buf e k ys], .buf h.length ys.length) else none
   | _ => none
  else none
 | _, _ => none
theorem apF_sound {t u : TypeId} {x y d : D} {h' : List Ob} {K : List Ob → D → Prop} (q : apF P h t u x y = some (h', d)) (k : K h' d) : apA P h t u x y K := by
 unfold apF at q
 unfold apA
 split at q
 rotate_left
 · cases q
 rename_i e k' by' ys ha hs
 split at q
 rotate_left
 · cases q
 rename_i hr
 refine ⟨e, k', by', ys, ha, hs, rowsOkB_spec hr, ?_⟩
 split at q
 · split at q
   · rename_i hh
     split at q
     · rename_i hc
       obtain ⟨rfl, rfl, h1, h2⟩ := hc
       cases q; exact ⟨_, hh, h1, h2, k⟩
     · cases q
   · cases q
 · split at q
   · rename_i hc; cases q; exact ⟨hc, k⟩
   · cases q
 · cases q
end
end
section
section
variable (P : Program) (h : List Ob)
def indF (t : TypeId) (x i : D) : Option D := match x, i with
 | .v (.string s), .v (.int _ n) => if strT P t = true ∧ 0 ≤ n ∧ n < (s.size : Int) then (s.data[n.toNat]?).map fun b => .v (.int .u8 b.toNat) else none
 | .agg ds, .v (.int _ n) => match arrT P t with
  | some (l, e) => match szT P e with
   | some z => if 0 ≤ n ∧ n < (l : Int) then getD P e ds (n.toNat * z) else none
   | none => none
  | none => none
 | _, _ => none
theorem indF_sound {t : TypeId} {x i d : D} {K : D → Prop} (q : indF P t x i = some d) (k : K d) : indA P t x i K := by
 unfold indF at q
 unfold indA
 split at q
 · split at q
   · rename_i hc
     refine ⟨hc.1, hc.2.1, hc.2.2, fun b hb => ?_⟩
     rw [hb] at q; cases q; exact k
   · cases q
 · split at q
   · rename_i l e ha
     split at q
     · rename_i z hz
       split at q
       · rename_i hc; exact ⟨l, e, z, d, ha, hz, hc.1, hc.2, q, k⟩
       · cases q
     · cases q
   · cases q
 · cases q
end
end
section
section
variable (P : Program) (h : List Ob)
def bstF (a b : TypeId) (x : D) : Option D := if byT P a = true ∧ strT P b = true then match x with
 | .sl _ xs => (unBy xs).map fun bs => .v (.string ⟨bs.toArray⟩)
 | .buf i n => match h[i]? with
  | some (.buf _ k xs) => if k = 1 ∧ xs.length = n then (unBy xs).map fun bs => .v (.string ⟨bs.toArray⟩) else none
  | _ => none
 | .v (.slice none 0 0) => some (.v (.string ⟨#[]⟩))
 | _ => none
 else none
theorem Yd8 {a b : TypeId} {x d : D} {K : D → Prop} (q : bstF P h a b x = some d) (k : K d) : bstD P a b h x K := by
 unfold bstF at q
 unfold bstD
 split at q
 rotate_left
 · cases q
 rename_i hc
 refine ⟨hc.1, hc.2, ?_⟩
 split at q
 · rw [Z0] at q
   obtain ⟨bs, h1, rfl⟩ := q
   exact ⟨bs, Zt5 _ _ h1, k⟩
 · split at q
   · rename_i hh
     split at q
     · rename_i hk
       obtain ⟨rfl, h2⟩ := hk
       rw [Z0] at q
       obtain ⟨bs, h1, rfl⟩ := q
       exact ⟨_, _, bs, hh, h2, Zt5 _ _ h1, k⟩
     · cases q
   · cases q
 · cases q; exact k
 · cases q
end
end
section
section
variable (P : Program) (G : Nat → D) (env : Nat → D) (h : List Ob)
def cvF (t u : TypeId) (x : D) : Option D := match x with
 | .v (.int κ n) => convD P t u (.v (.int κ n))
 | .v (.string s) => if byT P u = true ∧ (P.underlying t).isSome = true ∧ s.size ≤ 140737488355328 then some (.sl 1 (byD s.data.toList)) else if strT P u = true ∧ (P.underlying t).isSome = true then some (.v (.string s)) else none
 | x => bstF P h t u x
theorem cvF_sound {t u : TypeId} {x d : D} {K : List Ob → D → Prop} (q : cvF P h t u x = some d) (k : K h d) : cvA P h t u x K := by
 cases x with
 | v X =>
  cases X with
  | int κ n => show on _ _; rw [show convD P t u (.v (.int κ n)) = some d from q]; exact k
  | string s =>
   unfold cvF at q
   simp only at q
   split at q
   · rename_i hc; cases q; exact .inl ⟨hc.1, hc.2.1, hc.2.2, k⟩
   · split at q
     · rename_i hc; cases q; exact .inr ⟨hc.1, hc.2, k⟩
     · cases q
  | _ => exact Yd8 P h (show bstF P h t u _ = some d by simpa only [cvF] using q) k
 | _ => exact Yd8 P h (show bstF P h t u _ = some d by simpa only [cvF] using q) k
end
end
section
section
variable (P : Program) (G : Nat → D) (env : Nat → D) (h : List Ob)
def Vl (o : Option D) : Option (List Ob × D) := o.map fun d => (h, d)
def biF (b : Builtin) (tys : List TypeId) (args : List D) : Option (List Ob × D) := match b, tys, args with
 | .len, [t], [x] => Vl h (lenD P t x)
 | .append, [t, u], [x, y] => apF P h t u x y
 | _, _, _ => none
def aF : Op → Option (List Ob × D)
 | .move x | .assign x => some (h, ev G env x)
 | .pick c x y => match ev G env c with
  | .v (.bool t) => some (h, if t then ev G env x else ev G env y)
  | _ => none
 | .binOp op t x y _ => Vl h (binD P op t x y (ev G env x) (ev G env y))
 | .unOp op _ x => Vl h (unD P op (ev G env x))
 | .convert t u x => Vl h (cvF P h t u (ev G env x))
 | .extract x i => Vl h (extrD i (ev G env x))
 | .field t x f => Vl h (fieldD P t f (ev G env x))
 | .load t x => Vl h (Uy P h t (ev G env x))
 | .store t x y => (Zb9 P h t (ev G env x) (ev G env y)).map fun h' => (h', .v undef)
 | .fieldAddr t x f => Vl h (Zy1 P t f (ev G env x))
 | .indexAddr t x i => Vl h (idxF P h t (ev G env x) (ev G env i))
 | .nilCheck x => if isPtr (ev G env x) = true then some (h, ev G env x) else none
 | .box _ x => (ev G env x).cells.map fun ds => (h ++ [.cells ds], .ptr h.length 0)
 | .alloc e => (Ur P e).map fun ds => (h ++ [.cells ds], .ptr h.length 0)
 | .build t parts => (Zq5 P t (parts.toList.map fun q => (q.1, ev G env q.2))).map fun ds => (h, .agg ds)
 | .buildSlice t len parts => (litD P t len (parts.toList.map fun q => (q.1, ev G env q.2))).map fun r => (h ++ [.buf r.1 r.2.1 r.2.2], .buf h.length len)
 | .slice t x lo hi none => Vl h (slcF P t (ev G env x) (lo.map (ev G env)) (hi.map (ev G env)))
 | .index t x i => Vl h (indF P t (ev G env x) (ev G env i))
 | .call ⟨.builtin b, args, tys⟩ => biF P h b tys.toList (args.toList.map (ev G env))
 | _ => none
end
end
section
variable {P : Program} {G : Nat → D} {e : Nat → D} {h : List Ob}
theorem Zg1 {op : Op} {h' : List Ob} {d : D} {K : List Ob → D → Prop} (q : aF P G e h op = some (h', d)) (k : K h' d) : aOp P G e h K op := by
 have one : ∀ {x : Option D}, Vl h x = some (h', d) → on x (K h) := fun {x} q => by
  unfold Vl at q
  rw [Z0] at q
  obtain ⟨d', h1, h2⟩ := q
  cases h2
  rw [h1]; exact k
 cases op <;> try (simp only [aF] at q; cases q; done)
 case move x => simp only [aF, Option.some.injEq, Prod.mk.injEq] at q; obtain ⟨rfl, rfl⟩ := q; exact k
 case assign x => simp only [aF, Option.some.injEq, Prod.mk.injEq] at q; obtain ⟨rfl, rfl⟩ := q; exact k
 case pick c x y =>
  simp only [aF] at q
  split at q
  · rename_i t ht; cases q; exact ⟨t, ht, k⟩
  · cases q
 case binOp => exact one q
 case unOp => exact one q
 case convert t u x =>
  simp only [aF, Vl] at q
  rw [Z0] at q
  obtain ⟨d', h1, h2⟩ := q
  cases h2
  exact cvF_sound P h h1 k
 case extract => exact one q
 case field => exact one q
 case load => exact one q
 case fieldAddr => exact one q
 case store t x y =>
  simp only [aF] at q
  rw [Z0] at q
  obtain ⟨h2, h1, h3⟩ := q
  cases h3
  exact Xh.2 ⟨_, h1, k⟩
 case indexAddr t x i =>
  simp only [aF, Vl] at q
  rw [Z0] at q
  obtain ⟨d', h1, h2⟩ := q
  cases h2
  exact idxF_sound P h h1 k
 case nilCheck x =>
  simp only [aF] at q
  split at q
  · rename_i hp; cases q; exact ⟨hp, k⟩
  · cases q
 case box t x =>
  simp only [aF] at q
  rw [Z0] at q
  obtain ⟨ds, h1, h3⟩ := q
  cases h3
  exact Xh.2 ⟨_, h1, k⟩
 case alloc t =>
  simp only [aF] at q
  rw [Z0] at q
  obtain ⟨ds, h1, h3⟩ := q
  cases h3
  exact Xh.2 ⟨_, h1, k⟩
 case build t parts =>
  simp only [aF] at q
  rw [Z0] at q
  obtain ⟨ds, h1, h3⟩ := q
  cases h3
  exact Xh.2 ⟨_, h1, k⟩
 case buildSlice t len parts =>
  simp only [aF] at q
  rw [Z0] at q
  obtain ⟨r, h1, h3⟩ := q
  cases h3
  exact Xh.2 ⟨_, h1, k⟩
 case slice t x lo hi mx =>
  cases mx with
  | some m => simp only [aF] at q; cases q
  | none =>
   simp only [aF, Vl] at q
   rw [Z0] at q
   obtain ⟨d', h1, h2⟩ := q
   cases h2
   exact slcF_sound P h1 k
 case index t x i =>
  simp only [aF, Vl] at q
  rw [Z0] at q
  obtain ⟨d', h1, h2⟩ := q
  cases h2
  exact indF_sound P h1 k
 case call c =>
  obtain ⟨cal, args, tys⟩ := c
  cases cal with
  | builtin b =>
   simp only [aF] at q
   show biA P h b tys.toList (args.toList.map (ev G e)) K
   generalize tys.toList = T at q ⊢
   generalize args.toList.map (ev G e) = A at q ⊢
   unfold biF at q
   unfold biA
   split at q
   · exact one q
   · exact apF_sound P h q k
   · cases q
  | _ => simp only [aF] at q; cases q
end
section
variable {P : Program} {G : Nat → D} {e : Nat → D} {h : List Ob}
theorem rdL_mem {a : Act} {hd : List Value} {W : World} : ∀ {l : List Operand}, rdL hd h W (l.map (ev G e)) (l.map a.eval) → ∀ x ∈ l, rd hd h W (ev G e x) (a.eval x)
 | [], _, x, hx => by simp at hx
 | y :: t, q, x, hx => by
  rw [Za, Za, rdL] at q
  obtain ⟨u, v, e0, q1, q2⟩ := q
  cases e0
  rcases List.mem_cons.1 hx with rfl | hx
  · exact q1
  · exact rdL_mem q2 x hx
theorem Zj2 {o : Oper} {K : List Ob → D → Prop} (H : ∀ (a : Act) w hd p, Ok G w hd h p → (∀ x ∈ opds o.op, rd hd h (only p w) (ev G e x) (a.eval x)) → ∃ v w', ((execOp a.eval o).run P w = .ok (.value v) w' ∨ ((execOp a.eval o).run P w = .ok .skip w' ∧ v = undef)) ∧ Post G w hd h p K v w') : OpTri P G o ((opds o.op).map (ev G e)) h K := fun a w hd p R hdf ok ha => by
 obtain ⟨v, w', hr, q⟩ := H a w hd p ok (rdL_mem ha)
 unfold Oper.wp
 rcases hr with hr | ⟨hr, rfl⟩
 · rw [hr]; exact ⟨v, rfl, q⟩
 · rw [hr]; exact ⟨_, rfl, q⟩
theorem Post.same {w : World} {hd : List Value} {p : Nat → Bool} {K : List Ob → D → Prop} {d : D} {v : Value} (o : Ok G w hd h p) (k : K h d) (q : rd hd h (only p w) d v) : Post G w hd h p K v w := ⟨hd, h, d, p, k, o, q, .refl _ _ _ _⟩
theorem Zc3 {o : Oper} {d : D} (H : ∀ (a : Act) w hd p, Ok G w hd h p → (∀ x ∈ opds o.op, rd hd h (only p w) (ev G e x) (a.eval x)) → ∃ v, (execOp a.eval o).run P w = .ok (.value v) w ∧ rd hd h (only p w) d v) : OpTri P G o ((opds o.op).map (ev G e)) h (fun h' r => h' = h ∧ r = d) := Zj2 fun a w hd p ok ha => by
 obtain ⟨v, hr, q⟩ := H a w hd p ok ha
 exact ⟨v, w, .inl hr, .same ok ⟨rfl, rfl⟩ q⟩
section
variable (P : Program) (G : Nat → D) (e : Nat → D) (h : List Ob)
def sliF (t : TypeId) (x : D) (lo hi : Option D) : Option D := match x with
 | .buf i n => match h[i]? with
  | some (.buf _ k xs) => match bndD 0 lo, bndD n hi with
   | some l, some r => bif decide (xs.length = n) && decide ((elT P t).bind (szT P) = some k) && decide (0 ≤ l) && decide (l ≤ r) && decide (r ≤ n) then some (.win i n l.toNat r.toNat) else none
   | _, _ => none
  | _ => none
 | .win i n a b => match h[i]? with
  | some (.buf _ k xs) => match bndD 0 lo, bndD (b - a : Nat) hi with
   | some l, some r => bif decide (xs.length = n) && decide ((elT P t).bind (szT P) = some k) && decide (0 ≤ l) && decide (l ≤ r) && decide (r ≤ (b - a : Nat)) then some (.win i n (a + l.toNat) (a + r.toNat)) else none
   | _, _ => none
  | _ => none
 | .arr i o n c k => match bndD 0 lo, bndD n hi with
  | some l, some r => bif decide ((elT P t).bind (szT P) = some k) && decide (0 ≤ l) && decide (l ≤ r) && decide (r ≤ n) && decide (n ≤ c) then some (.arr i (if c = l.toNat then o else o + l.toNat * k) (r.toNat - l.toNat) (c - l.toNat) k) else none
  | _, _ => none
 | .ptr i o => match P.underlying t with
  | some (.pointer a) => match arrT P a with
   | some (n, el) => match szT P el, bndD 0 lo, bndD n hi with
    | some k, some l, some r => bif decide (0 ≤ l) && decide (l ≤ r) && decide (r ≤ n) then some (.arr i (if n = l.toNat then o else o + l.toNat * k) (r.toNat - l.toNat) (n - l.toNat) k) else none
    | _, _, _ => none
   | none => none
  | _ => none
 | .v (.slice none 0 0) => match (elT P t).bind (szT P), bndD 0 lo, bndD 0 hi with
  | some _, some l, some r => bif decide (l = 0) && decide (r = 0) then some (.v (.slice none 0 0)) else none
  | _, _, _ => none
 | .e0 => match (elT P t).bind (szT P), bndD 0 lo, bndD 0 hi with
  | some _, some l, some r => bif decide (l = 0) && decide (r = 0) then some .e0 else none
  | _, _, _ => none
 | _ => none
end
theorem Zu5 {t el k : Nat} {w : World} (he : elT P t = some el) (hs : szT P el = some k) {ad : Option Addr} {len cap : Nat} {lo hi : Option D} {vlo vhi : Option Value} {l r : Int} {hd : List Value} {W : World} (q1 : bndD 0 lo = some l) (q2 : bndD len hi = some r) (r1 : (lo = none ∧ vlo = none) ∨ ∃ d v, lo = some d ∧ vlo = some v ∧ rd hd h W d v) (r2 : (hi = none ∧ vhi = none) ∨ ∃ d v, hi = some d ∧ vhi = some v ∧ rd hd h W d v)
 (h0 : 0 ≤ l) (h1 : l ≤ r) (h2 : r ≤ len) (h3 : len ≤ cap) : (Instr.sliceAt t (.slice ad len cap) vlo vhi none).run P w = .ok (.slice (if cap = l.toNat then ad else ad.map (·.add (l.toNat * k))) (r.toNat - l.toNat) (cap - l.toNat)) w := by
 have hb := Yk1 (P := P) (w := w) (isS := true) q1 q2 r1 r2 h0 h1 h2 h3
 simp [Instr.sliceAt, Instr.slice, run_underlying (Zb3 he), hb, V0 hs]
theorem and5 {a b c d e : Bool} (q : (a && b && c && d && e) = true) : a = true ∧ b = true ∧ c = true ∧ d = true ∧ e = true := by
 simp only [Z1] at q; exact ⟨q.1.1.1.1, q.1.1.1.2, q.1.1.2, q.1.2, q.2⟩
theorem Zi4 {t k : Nat} (q : (elT P t).bind (szT P) = some k) : ∃ el, elT P t = some el ∧ szT P el = some k := by
 cases he : elT P t with
 | none => rw [he] at q; cases q
 | some el => rw [he] at q; exact ⟨el, rfl, q⟩
theorem X5 {α : Type} {b : Bool} {x : α} {y : α} (q : (bif b then some x else none) = some y) : b = true ∧ x = y := by
 cases b
 · cases q
 · cases q; exact ⟨rfl, rfl⟩
theorem sliF_run {w : World} {hd : List Value} {p : Nat → Bool} (o : Ok G w hd h p) {t : Nat} {x d : D} {lo hi : Option D} {v : Value} {vlo vhi : Option Value} (q : sliF P h t x lo hi = some d) (qx : rd hd h (only p w) x v) (r1 : (lo = none ∧ vlo = none) ∨ ∃ d v, lo = some d ∧ vlo = some v ∧ rd hd h (only p w) d v) (r2 : (hi = none ∧ vhi = none) ∨ ∃ d v, hi = some d ∧ vhi = some v ∧ rd hd h (only p w) d v) :
 ∃ u, (Instr.sliceAt t v vlo vhi none).run P w = .ok u w ∧ rd hd h (only p w) d u := by
 unfold sliF at q
 split at q
 · rename_i i n
   split at q
   rotate_left
   · cases q
   rename_i E k xs hi'
   split at q
   rotate_left
   · cases q
   rename_i l r hl hr
   obtain ⟨hc, rfl⟩ := X5 q
   obtain ⟨c1, c2, c3, c4, c5⟩ := and5 hc
   simp only [decide_eq_true_eq] at c1 c2 c3 c4 c5
   obtain ⟨el, he, hs⟩ := Zi4 c2
   rw [rd] at qx
   obtain ⟨_, hu, qx⟩ := qx
   have hv := (qx E k xs hi').2 c1
   obtain ⟨cs, o1, _, _, _⟩ := o.ob i _ _ hi' hv
   rw [c1] at o1
   rcases id o1.2 with ⟨rfl, hn⟩ | ⟨g, cap, cur, rfl, _, _, hnc, _⟩
   · subst hn
     have e1 : l = 0 := by omega
     have e2 : r = 0 := by omega
     subst e1; subst e2
     refine ⟨_, Zu5 he hs hl hr r1 r2 (Z2 _) (Z2 _) (Z2 _) (Z5 _), ?_⟩
     rw [rd]
     refine ⟨⟨_, _, rfl⟩, hu, fun E' k' xs' hx => ⟨by omega, fun _ => ⟨Z5 _, Z5 _, .inl ⟨rfl, rfl⟩⟩⟩⟩
   · refine ⟨_, Zu5 he hs hl hr r1 r2 c3 c4 c5 hnc, ?_⟩
     rw [rd]
     refine ⟨⟨_, _, rfl⟩, hu, fun E' k' xs' hx => ?_⟩
     rw [hi'] at hx; cases hx
     refine ⟨by omega, fun _ => ⟨by omega, by omega, .inr ⟨g, cap, (if cap = l.toNat then 0 else l.toNat * k), hv, ?_, fun hlt => ?_⟩⟩⟩
     rotate_left
     · split
       · rcases hlt with h5 | h5
         · omega
         · rw [h5]; simp
       · rfl
     congr 1
     split
     · rfl
     · simp [Xs]
 · rename_i i n a b
   split at q
   rotate_left
   · cases q
   rename_i E k xs hi'
   split at q
   rotate_left
   · cases q
   rename_i l r hl hr
   obtain ⟨hc, rfl⟩ := X5 q
   obtain ⟨c1, c2, c3, c4, c5⟩ := and5 hc
   simp only [decide_eq_true_eq] at c1 c2 c3 c4 c5
   obtain ⟨el, he, hs⟩ := Zi4 c2
   rw [rd] at qx
   obtain ⟨_, hu, qx⟩ := qx
   obtain ⟨w1, w2, w3⟩ := (qx E k xs hi').2 c1
   rcases w3 with ⟨rfl, hn⟩ | ⟨B, cap, q0, hv, rfl, hq⟩
   · subst hn
     have e1 : l = 0 := by omega
     have e2 : r = 0 := by omega
     subst e1; subst e2
     refine ⟨_, Zu5 he hs hl (by simpa [show b - a = 0 by omega] using hr) r1 r2 (Z2 _) (Z2 _) (Z2 _) (Z5 _), ?_⟩
     rw [rd]
     refine ⟨⟨none, 0, by simp⟩, hu, fun E' k' xs' hx => ⟨by omega, fun _ => ⟨by simp, by simp; omega, .inl ⟨by simp, rfl⟩⟩⟩⟩
   · have hbc : b - a ≤ cap - a := by
      obtain ⟨cs, o1, _, _, _⟩ := o.ob i _ _ hi' hv
      rcases o1.2 with ⟨h5, _⟩ | ⟨g, cap', cur, h5, _, _, hnc, _⟩
      · cases h5
      · cases h5; omega
     refine ⟨_, Zu5 he hs hl hr r1 r2 c3 c4 c5 hbc, ?_⟩
     rw [rd]
     have e3 : a + r.toNat - (a + l.toNat) = r.toNat - l.toNat := by omega
     refine ⟨⟨_, _, by rw [e3]⟩, hu, fun E' k' xs' hx => ?_⟩
     rw [hi'] at hx; cases hx
     refine ⟨by omega, fun _ => ⟨by omega, by omega, .inr ⟨B, cap, (if cap - a = l.toNat then q0 else q0 + l.toNat * k), hv, ?_, fun hlt => ?_⟩⟩⟩
     rotate_left
     · rw [hq (by omega), Nat.add_mul]
       split
       · rename_i hcl
         rcases hlt with h | h
         · omega
         · rw [show l.toNat = 0 by omega]; simp
       · rfl
     rw [e3, show cap - (a + l.toNat) = cap - a - l.toNat by omega]
     congr 1
     split
     · rfl
     · simp [Xs]
 · rename_i i o' n c k
   split at q
   rotate_left
   · cases q
   rename_i l r hl hr
   obtain ⟨hc, rfl⟩ := X5 q
   obtain ⟨c2, c3, c4, c5, c6⟩ := and5 hc
   simp only [decide_eq_true_eq] at c2 c3 c4 c5 c6
   obtain ⟨el, he, hs⟩ := Zi4 c2
   rw [rd] at qx
   obtain ⟨B, hB, rfl⟩ := qx
   refine ⟨_, Zu5 he hs hl hr r1 r2 c3 c4 c5 c6, ?_⟩
   rw [rd]
   refine ⟨B, hB, ?_⟩
   congr 1
   split
   · rfl
   · simp [Xs]
 · rename_i i o'
   split at q
   rotate_left
   · cases q
   rename_i a hu
   split at q
   rotate_left
   · cases q
   rename_i n el ha
   split at q
   rotate_left
   · cases q
   rename_i k l r hs hl hr
   obtain ⟨hc, rfl⟩ := X5 q
   simp only [Z1, decide_eq_true_eq] at hc
   obtain ⟨⟨c3, c4⟩, c5⟩ := hc
   rw [rd] at qx
   obtain ⟨B, hB, rfl⟩ := qx
   have hb := Yk1 (P := P) (w := w) (isS := false) (len := n) (cap := n) hl hr r1 r2 c3 c4 c5 (Z5 _)
   refine ⟨_, by simp [Instr.sliceAt, Instr.sureAddr, Instr.slice, run_underlying hu, run_underlying (arrT_spec ha), asAddr, hb, V0 hs]; rfl, ?_⟩
   rw [rd]
   refine ⟨B, hB, ?_⟩
   congr 2
   split
   · rfl
   · simp [Xs]
 · split at q
   rotate_left
   · cases q
   rename_i k l r hk hl hr
   obtain ⟨hc, rfl⟩ := X5 q
   simp only [Z1, decide_eq_true_eq] at hc
   obtain ⟨rfl, rfl⟩ := hc
   obtain ⟨el, he, hs⟩ := Zi4 hk
   rw [rd] at qx; subst qx
   exact ⟨_, Zu5 he hs hl hr r1 r2 (Z2 _) (Z2 _) (Z2 _) (Z5 _), by rw [rd]; rfl⟩
 · split at q
   rotate_left
   · cases q
   rename_i k l r hk hl hr
   obtain ⟨hc, rfl⟩ := X5 q
   simp only [Z1, decide_eq_true_eq] at hc
   obtain ⟨rfl, rfl⟩ := hc
   obtain ⟨el, he, hs⟩ := Zi4 hk
   rw [rd] at qx; obtain ⟨a, rfl⟩ := qx
   exact ⟨_, Zu5 he hs hl hr r1 r2 (Z2 _) (Z2 _) (Z2 _) (Z5 _), by rw [rd]; exact ⟨_, rfl⟩⟩
 · cases q
end
section
variable {P : Program} {G : Nat → D} {e : Nat → D} {h : List Ob}
section
variable (P : Program) (h : List Ob)
def makF (t : TypeId) (x y : D) : Option (List Ob × D) := match x, y with
 | .v (.int _ l), .v (.int _ c) => match apT P t with
  | some (el, k, by') => match Ur P el with
   | some zs => bif decide (0 ≤ l) && decide (l ≤ c) && decide ((by' : Int) * c ≤ 281474976710656) && decide (c ≤ 281474976710656) && decide (zs.length = k) then some (h ++ [.buf el k (Z4 l.toNat zs)], .buf h.length l.toNat) else none
   | none => none
  | none => none
 | _, _ => none
def idxN (t : TypeId) (x i : D) : Option D := match i with
 | .v (.int _ m) => match x with
  | .win i n a b => match h[i]? with
   | some (.buf _ k xs) => bif decide (xs.length = n) && decide ((elT P t).bind (szT P) = some k) && decide (0 ≤ m) && decide (m < (b - a : Nat)) then some (.bp i n (a + m.toNat) 0) else none
   | _ => none
  | .arr i o n _ k => bif decide ((elT P t).bind (szT P) = some k) && decide (0 ≤ m) && decide (m < (n : Nat)) then some (.ptr i (o + m.toNat * k)) else none
  | _ => none
 | _ => none
def nonNil (x : D) : Bool := match x with
 | .buf i n => match h[i]? with
  | some (.buf _ _ xs) => decide (xs.length = n) && decide (0 < n)
  | _ => false
 | .win i n a b => match h[i]? with
  | some (.buf _ _ xs) => decide (xs.length = n) && decide (a < b)
  | _ => false
 | .arr _ _ _ _ _ => true
 | .sl _ (_ :: _) => true
 | _ => false
def nilF (op : BinOp) (t : TypeId) (x y : D) : Option D := match y with
 | .v (.slice none 0 0) => bif slT P t && nonNil h x then (match op with
  | .eql => some (.v (.bool false))
  | .neq => some (.v (.bool true))
  | _ => none) else none
 | _ => none
def binI (op : BinOp) (k : IntKind) (a b : Int) : Option Value := match op with
 | .eql => some (.bool (decide (a = b)))
 | .neq => some (.bool (!decide (a = b)))
 | .lss => some (.bool (decide (a < b)))
 | .leq => some (.bool (decide (a ≤ b)))
 | .gtr => some (.bool (decide (b < a)))
 | .geq => some (.bool (decide (b ≤ a)))
 | .add => some (.int k (k.wrap (a + b)))
 | .sub => some (.int k (k.wrap (a - b)))
 | .mul => some (.int k (k.wrap (a * b)))
 | _ => none
def Zo4 : List UInt8 → List UInt8 → Bool
 | _, [] => false
 | [], _ :: _ => true
 | a :: s, b :: t => bif Nat.blt a.toNat b.toNat then true else bif Nat.beq a.toNat b.toNat then Zo4 s t else false
def binS (op : BinOp) (a b : ByteArray) : Option Value := match op with
 | .eql => some (.bool (decide (a.data.toList = b.data.toList)))
 | .neq => some (.bool (!decide (a.data.toList = b.data.toList)))
 | .lss => some (.bool (Zo4 a.data.toList b.data.toList))
 | .geq => some (.bool (!Zo4 a.data.toList b.data.toList))
 | .gtr => some (.bool (Zo4 b.data.toList a.data.toList))
 | .leq => some (.bool (!Zo4 b.data.toList a.data.toList))
 | _ => none
def binN (op : BinOp) (x y : D) : Option D := match x, y with
 | .v (.int j a), .v (.int k b) => bif decide (j = k) then (binI op j a b).map .v else none
 | .v (.string a), .v (.string b) => (binS op a b).map .v
 | _, _ => none
def lenN (t : TypeId) (x : D) : Option D := match x with
 | .win _ _ a b => bif slT P t then some (.v (.int .i64 (b - a : Nat))) else none
 | .arr _ _ n _ _ => bif slT P t then some (.v (.int .i64 n)) else none
 | .e0 => bif slT P t then some (.v (.int .i64 0)) else none
 | _ => none
def capN (t : TypeId) (x : D) : Option D := match x with
 | .v (.slice none 0 0) | .e0 => bif slT P t then some (.v (.int .i64 0)) else none
 | .arr _ _ _ c _ => bif slT P t then some (.v (.int .i64 c)) else none
 | _ => none
end
theorem makF_post {w : World} {hd : List Value} {p : Nat → Bool} (o : Ok G w hd h p) {t : Nat} {x y d : D} {h' : List Ob} {u v : Value} (q : makF P h t x y = some (h', d)) (qx : rd hd h (only p w) x u) (qy : rd hd h (only p w) y v) :
 ∃ r w', (Instr.makeSlice t u v).run P w = .ok r w' ∧ Post G w hd h p (fun h1 d1 => h1 = h' ∧ d1 = d) r w' := by
 unfold makF at q
 split at q
 rotate_left
 · cases q
 rename_i kl l kc c
 split at q
 rotate_left
 · cases q
 rename_i el k by' ha
 split at q
 rotate_left
 · cases q
 rename_i zs hzs
 obtain ⟨hc, hq⟩ := X5 q
 cases hq
 obtain ⟨c1, c2, c3, c4, c5⟩ := and5 hc
 simp only [decide_eq_true_eq] at c1 c2 c3 c4 c5
 rw [rd] at qx qy; subst qx; subst qy
 obtain ⟨hu, inf, z, hinf, hz, hsz, hby, hzsz, hpos⟩ := Zm9 ha
 subst hby
 have hr := run_make (P := P) w t el inf z hu hinf hz kl kc l c c1 c2 c3 (by omega)
 have hz0 : Zi7 P el = some z := by unfold Zi7; rw [hinf]; exact hz
 have hzc : (D.v z).cells = some zs := by unfold Ur at hzs; rw [hz0] at hzs; exact hzs
 have zr : ∀ {hd2 : List Value} {h2 : List Ob} {W : World}, rdL hd2 h2 W zs z.cells.toList := fun {hd2 h2 W} => U8 (d := .v z) (v := z) (by rw [rd]) hzc
 rw [hsz] at hr
 have hlc : l.toNat ≤ c.toNat := by omega
 have hmul : l.toNat * k ≤ c.toNat * k := Nat.mul_le_mul_right _ hlc
 generalize hcur : madeCells z.cells (c.toNat * k) = cur at hr
 have hcs : cur.size = c.toNat * k := by rw [← hcur, size_madeCells]
 have cell : ∀ j, j < c.toNat * k → cur[j]? = z.cells[j % k]? := fun j hj => by
  have hm : j % z.cells.size < z.cells.size := Nat.mod_lt _ (by omega)
  rw [← hcur]
  unfold madeCells
  rw [Array.getElem?_map, Array.getElem?_range, if_pos hj, ← hzsz]
  simp [hm]
 have rows : ∀ {hd2 : List Value} {h2 : List Ob} {W : World}, rdL hd2 h2 W (Z4 l.toNat zs).flatten (cur.toList.take (l.toNat * k)) := fun {hd2 h2 W} => by
  have hfl : (Z4 l.toNat zs).flatten.length = l.toNat * k := by simp [c5]
  refine (Xa _ _).2 ⟨by rw [hfl]; simp; omega, fun j d hj => ?_⟩
  have hj' : j < l.toNat * k := by rw [← hfl]; exact (List.getElem?_eq_some_iff.1 hj).1
  have hdm : j / k * k + j % k = j := Nat.div_add_mod' j k
  have hmk : j % k < k := Nat.mod_lt _ hpos
  have hfr := Jw (k := k) (Z4 l.toNat zs) (fun row hr => by rw [(List.mem_replicate.1 hr).2, c5]) (j / k) (j % k) hmk
  have hdl : j / k < l.toNat := Nat.div_lt_of_lt_mul (by rw [Nat.mul_comm]; exact hj')
  rw [hdm, List.getElem?_replicate, if_pos hdl] at hfr
  rw [hfr] at hj
  obtain ⟨u, g1, g2⟩ := ((Xa _ _).1 (zr (hd2 := hd2) (h2 := h2) (W := W))).2 (j % k) d hj
  refine ⟨u, ?_, g2⟩
  rw [List.getElem?_take, if_pos hj', Array.getElem?_toList, cell j (by omega), ← Array.getElem?_toList]; exact g1
 have g := o.grow (w' := w.alloc (.cells cur el)) (ob := .buf el k (Z4 l.toNat zs)) (u := .slice (some ⟨w.heap.size, 0, none⟩) l.toNat c.toNat) rfl rfl rfl (by simp) (fun b hb => Vd w _ hb) (fun b hb => by cases hb; rfl)
  (fun c' sb => ⟨cur.toList.take (l.toNat * k), ⟨by simp; omega, .inr ⟨w.heap.size, c.toNat, cur, by simp, Nat.zero_le _, heap_alloc_new w _, by simpa using hlc, by unfold maxLen; omega, hcs, by simp⟩⟩, rows, fun row hr => by rw [(List.mem_replicate.1 hr).2, c5], fun g hg => by cases hg; simp⟩)
 refine ⟨_, _, hr, _, _, _, _, ⟨rfl, rfl⟩, g.1, ?_, g.2⟩
 rw [rd]
 refine ⟨⟨_, _, rfl⟩, .of (ob := .buf el k (Z4 l.toNat zs)) (by simp) rfl, fun e' k' xs' hx => ?_⟩
 have : xs' = Z4 l.toNat zs := by simp at hx; exact hx.2.2.symm
 subst this
 exact ⟨by simp, fun _ => by rw [← o.len]; simp⟩
theorem idxN_run {w : World} {hd : List Value} {p : Nat → Bool} (ok : Ok G w hd h p) {t : Nat} {x i d : D} {u v : Value} (q : idxN P h t x i = some d) (qx : rd hd h (only p w) x u) (qi : rd hd h (only p w) i v) : ∃ r, (Instr.indexAt t u v).run P w = .ok r w ∧ rd hd h (only p w) d r := by
 unfold idxN at q
 split at q
 rotate_left
 · cases q
 rename_i κ m
 rw [rd] at qi; subst qi
 split at q
 · rename_i i n a b
   split at q
   rotate_left
   · cases q
   rename_i E k xs hi
   obtain ⟨hc, rfl⟩ := X5 q
   simp only [Z1, decide_eq_true_eq] at hc
   obtain ⟨⟨⟨c1, c2⟩, c3⟩, c4⟩ := hc
   obtain ⟨el, he, hs⟩ := Zi4 c2
   rw [rd] at qx
   obtain ⟨_, hu, qx⟩ := qx
   obtain ⟨w1, w2, w3⟩ := (qx E k xs hi).2 c1
   rcases w3 with ⟨rfl, hn⟩ | ⟨B, cap, q0, hv, rfl, hq⟩
   · omega
   · have hac : a < cap := by
      obtain ⟨cs, o1, _, _, _⟩ := ok.ob i _ _ hi hv
      rcases o1.2 with ⟨h5, _⟩ | ⟨g, cap', cur, h5, _, _, hnc, _⟩
      · cases h5
      · cases h5; omega
     refine ⟨_, by simp [Instr.indexAt, asIntOf, Go.underlying, Zb3 he, V0 hs, c3, c4, Xs]; rfl, ?_⟩
     rw [rd]
     refine ⟨⟨_, rfl⟩, hu, fun E' k' xs' hx => ?_⟩
     rw [hi] at hx; cases hx
     exact ⟨by omega, fun _ => ⟨B, cap, hv, by rw [hq (.inl hac), Nat.add_mul, Nat.add_zero]⟩⟩
 · rename_i i o n c k
   obtain ⟨hc, rfl⟩ := X5 q
   simp only [Z1, decide_eq_true_eq] at hc
   obtain ⟨⟨c2, c3⟩, c4⟩ := hc
   obtain ⟨el, he, hs⟩ := Zi4 c2
   rw [rd] at qx
   obtain ⟨B, hB, rfl⟩ := qx
   refine ⟨_, by simp [Instr.indexAt, asIntOf, Go.underlying, Zb3 he, V0 hs, c3, c4, Xs]; rfl, ?_⟩
   rw [rd]
   exact ⟨B, hB, rfl⟩
 · cases q
theorem nonNil_spec {w : World} {hd : List Value} {p : Nat → Bool} (o : Ok G w hd h p) {x : D} {u : Value} (q : nonNil h x = true) (qx : rd hd h (only p w) x u) : ∃ a n c, u = .slice (some a) n c := by
 unfold nonNil at q
 split at q
 · rename_i i n
   split at q
   · rename_i E k xs hi
     simp only [Z1, decide_eq_true_eq] at q
     rw [rd] at qx
     obtain ⟨_, hu, qx⟩ := qx
     have hv := (qx E k xs hi).2 q.1
     obtain ⟨cs, o1, _, _, _⟩ := o.ob i _ _ hi hv
     rcases id o1.2 with ⟨rfl, hn⟩ | ⟨g, cap, cur, rfl, _⟩
     · omega
     · exact ⟨_, _, _, rfl⟩
   · cases q
 · rename_i i n a b
   split at q
   · rename_i E k xs hi
     simp only [Z1, decide_eq_true_eq] at q
     rw [rd] at qx
     obtain ⟨_, hu, qx⟩ := qx
     obtain ⟨w1, w2, w3⟩ := (qx E k xs hi).2 q.1
     rcases w3 with ⟨rfl, hn⟩ | ⟨B, cap, q0, hv, rfl, hq⟩
     · omega
     · exact ⟨_, _, _, rfl⟩
   · cases q
 · rw [rd] at qx; obtain ⟨B, _, rfl⟩ := qx; exact ⟨_, _, _, rfl⟩
 · rw [rd] at qx
   obtain ⟨a, cap, rfl, _, _, hr⟩ := qx
   rw [Xx] at hr
   obtain ⟨⟨b, q, rfl, _⟩, _⟩ := hr
   exact ⟨_, _, _, rfl⟩
 · cases q
theorem lessB_eq : ∀ a b : List UInt8, Zo4 a b = Op.bytesLess a b
 | [], [] => by rw [Zo4]; rfl
 | a :: s, [] => by rw [Zo4]; rfl
 | [], b :: t => by rw [Zo4]; rfl
 | a :: s, b :: t => by
  have blt : ∀ a b : Nat, Nat.blt a b = decide (a < b) := fun a b => by rw [Bool.eq_iff_iff, Nat.blt_eq, decide_eq_true_eq]
  have e1 : (a < b) = (a.toNat < b.toNat) := propext UInt8.lt_iff_toNat_lt
  have e2 : (a = b) = (a.toNat = b.toNat) := propext UInt8.toNat_inj.symm
  rw [Zo4, lessB_eq s t, blt, bqE, Op.bytesLess]
  by_cases h1 : a.toNat < b.toNat
  · simp [h1, e1]
  · by_cases h2 : a.toNat = b.toNat
    · simp [h1, e1, e2, h2]
    · simp [h1, e1, e2, h2]
end
end Go.Proofs.YtmdjnaobllajmaaGreatDoor
