/-
  What the statements of the chapter share, part 13: WR1, WR2, WR3, PCmd, RR0, RT0, RT1, RI0, RI1, RI2, RI3, RI4, RB0, SHS, CL0, CL2, AL, OF0, AR, OF2.
-/
import Derived.Test.YtgkjcmglcnhpaaaGreatDoorR09
import Derived.Test.YtgkjcmglcnhpaaaGreatDoorR12
import Derived.Laws.BitsAllLaws
import Derived.Laws.CopyRow
import Derived.Lib.Zigzag
set_option linter.unusedVariables false
set_option linter.unusedSimpArgs false
set_option maxRecDepth 100000
set_option maxHeartbeats 8000000
namespace Go.Proofs.YtgkjcmglcnhpaaaGreatDoor
open _root_.Bool renaming not_false → Zd, not_true → Ze
open _root_.Int renaming reduceEq → Z6, reduceLT → Z7, reduceLE → Z8, fdiv_eq_ediv_of_nonneg → Zm, toNat_natCast → Zp
open _root_.List renaming length_append → Z0, eq_nil_of_length_eq_zero → Z9, append_assoc → Zb, take_append_of_le_length → Zf, getElem?_map → Zg, take_of_length_le → Zi, replicate → Zj, map_cons → Zk, getElem?_take → Zn, getElem?_eq_some_iff → Zo, ext_getElem? → Zq, getElem?_eq_getElem → Zr, length_drop → Zs
open _root_.Nat renaming reduceEqDiff → Z1, reduceLeDiff → Z2, reduceAdd → Z3, reduceBEq → Z4, reduceMul → Z5, le_of_ble_eq_true → Zc, le_refl → Zh, zero_le → Zl
open _root_.Go.Proofs.Tryz renaming prog → Za
open Go.RowKit
section
attribute [local irreducible] on aOp
attribute [local go_sem] decide_true decide_false Ze Zd
attribute [local simp] byD_len
variable (G : Nat → D) (hG : ∀ g, low 0 (G g))
def wG (n : Nat) (rows : List (List D)) (T : List Ob) : List Ob := .cells [.buf 1 n] :: .buf 5 1 rows :: T
def wH (l : List UInt8) : List Ob := wG l.length (byD l) []
theorem Zx9 (l : List UInt8) : wH l = wG l.length (byD l) [] := rfl
section
variable {n m : Nat} {rows r2 : List (List D)} {T l : List Ob}
theorem wG_0 : (wG n rows T)[0]? = some (.cells [.buf 1 n]) := rfl
theorem wG_1 : (wG n rows T)[1]? = some (.buf 5 1 rows) := rfl
theorem Zi1 : (wG n rows T).set 0 (.cells [.buf 1 m]) = wG m rows T := rfl
theorem Zi0 : (wG n rows T).set 1 (.buf 5 1 r2) = wG n r2 T := rfl
theorem Zi5 : (wG n rows T ++ l)[0]? = some (.cells [.buf 1 n]) := rfl
theorem Zi4 : (wG n rows T ++ l)[1]? = some (.buf 5 1 rows) := rfl
theorem Zi3 : (wG n rows T ++ l).set 0 (.cells [.buf 1 m]) = wG m rows (T ++ l) := rfl
theorem Zi2 : (wG n rows T ++ l).set 1 (.buf 5 1 r2) = wG n r2 (T ++ l) := rfl
end
theorem wG_eq {a b : Nat} {x y : List (List D)} (T : List Ob) (h : a = b) (k : x = y) : wG a x T = wG b y T := by rw [h, k]
theorem wG_low' (l l2 : List UInt8) : lowH (wH l).length (wH l2) := by
 intro x hx
 unfold wH wG at hx
 have : (wH l).length = 2 := rfl
 rw [this]
 simp at hx
 rcases hx with rfl | rfl
 · simp [Zl8, lowL, low]
 · exact Yb 2 l2
theorem endW {res : Array ResultVar} {K : List Ob → D → Prop} {l l2 : List UInt8} {n : Nat} {rows : List (List D)} {T : List Ob} {s : S} (h1 : resD Za s res.toList = some []) (h2 : s.h = wG n rows T) (h3 : n = l2.length) (h4 : rows = byD l2) (hK : K (wH l2) (.tup [])) : EndD Za res (wH l).length K s := by
 subst h3 h4
 have e : s.h.take (wH l).length = wH l2 := by rw [h2]; rfl
 refine ⟨[], _, h1, Zh _, by rw [h2]; exact Nat.le_add_left 2 T.length, by rw [e]; exact wG_low' l l2, ?_, ?_⟩
 · simp [outD, cvD, low, lowL]
 · rw [e]; simpa [outD, cvD] using hK
theorem or_byte : ∀ m : Fin 256, IntKind.u8.wrap ((BitVec.ofInt 8 (m.val : Int) ||| BitVec.ofInt 8 128).toNat : Int) = ((m.val % 128 + 128 : Nat) : Int) := by decide +kernel
theorem Zo0 (m : Nat) : IntKind.u8.wrap (m : Int) = ((m % 256 : Nat) : Int) := by simp [IntKind.wrap, IntKind.bits, IntKind.signed]
theorem Yc6 (m : Nat) (h : m < 256) : ((UInt8.ofNat m).toNat : Int) = (m : Int) := by simp; omega
theorem byte_hi (m : Nat) : IntKind.u8.wrap ((BitVec.ofInt 8 (IntKind.u8.wrap (m : Int)) ||| BitVec.ofInt 8 128).toNat : Int) = ((UInt8.ofNat (m % 128 + 128)).toNat : Int) := by
 have h := or_byte ⟨m % 256, Nat.mod_lt _ (by omega)⟩
 rw [Zo0 m, Yc6 _ (by omega)]
 refine h.trans ?_
 show ((m % 256 % 128 + 128 : Nat) : Int) = _
 omega
theorem Yc8 (l : List UInt8) (b : UInt8) {z : Int} (h : z = (b.toNat : Int)) : byD l ++ [[.v (.int .u8 z)]] = byD (l ++ [b]) := by subst h; simp [byD]
theorem fdiv128 (m : Nat) : (m : Int).fdiv (2 ^ min (Int.toNat 7) 64) = ((m / 128 : Nat) : Int) := by
 rw [show (2 : Int) ^ min (Int.toNat 7) 64 = 128 by decide, Zm _ (by omega)]; omega
include hG
theorem Zx7 (l : List UInt8) (n : Nat) (hn : n < 18446744073709551616) (hl : l.length ≤ 100000000) :
 Does Za G 80 (wH l) [.ptr 0 0, .v (.int .u64 n)] (fun h' r => h' = wH (l ++ X3 n) ∧ r = .tup []) := by
 refine Y5 Tryz.func80 rfl (Zc rfl) hG fun hl0 _ => ?_
 simp only [Tryz.ntmps80]
 repeat' first
  | refine sA rfl ?_
 refine Yr (fun m e h' => ∃ (k : Nat) (cur : List UInt8) (T : List Ob), m = k ∧ k < 18446744073709551616 ∧ cur ++ X3 k = l ++ X3 n ∧ h' = wG cur.length (byD cur) T ∧ e 0 = .ptr 0 0 ∧ e 1 = .v (.int .u64 k)) n ⟨n, l, [], rfl, hn, rfl, rfl, rfl, rfl⟩ ?_
 rintro m e h' ⟨k, cur, T, rfl, hk, hE, rfl, e0, e1⟩
 have hc : cur.length ≤ 100000010 := by
  have h1 := congrArg List.length hE
  rw [Z0, Z0] at h1
  have := (X7 n hn).1
  omega
 repeat' first
  | refine sA rfl ?_ | refine sI rfl rfl ?_ | refine sT rfl ?_
  | refine Y4 ?_
  | (refine ao1 rfl rfl fun K HK => ?_; simp only [go_sem, ↓reduceIte, Z1, Z3, Z2, Z4, Z5, Z6, Z7, Z8, e0, e1, wG_0, wG_1, Zi1, Zi0, Zi5, Zi4, Zi3, Zi2]; (first | refine Y6 (fun hq => ?_) (fun hq => ?_) | skip) <;> (refine HK _ _ ?_; clear HK K))
  | refine Wf rfl rfl rfl rfl (by (simp only [go_sem, ↓reduceIte, Z1, Z3, Z2, Z4, Z5, Z6, Z7, Z8, e0, e1, wG_0, wG_1, Zi1, Zi0, Zi5, Zi4, Zi3, Zi2]; rfl)) (by simp) (by simp only [go_sem]; rfl) (by (simp only [go_sem, ↓reduceIte, Z1, Z3, Z2, Z4, Z5, Z6, Z7, Z8, e0, e1, wG_0, wG_1, Zi1, Zi0, Zi5, Zi4, Zi3, Zi2]; rfl)) (by simp) (by (simp [X9, D.one, Value.oneCell']; done)) (by (simp; omega)) ?_
  | (refine ao1' rfl fun K HK => ?_; simp only [go_sem, ↓reduceIte, Z1, Z3, Z2, Z4, Z5, Z6, Z7, Z8, e0, e1, wG_0, wG_1, Zi1, Zi0, Zi5, Zi4, Zi3, Zi2]; refine HK _ _ ?_; clear HK K)
 · have e4 := fun T' => wG_eq T' (show cur.length + 1 = (cur ++ [UInt8.ofNat (m % 128 + 128)]).length by simp) (Yc8 cur _ (byte_hi m))
   refine ⟨rfl, m / 128, by omega, m / 128, cur ++ [UInt8.ofNat (m % 128 + 128)], _, rfl, by omega, ?_, e4 _, ?_, ?_⟩
   · rw [Zb, ← hE, Zb1 (n := m) (by omega)]; rfl
   · simp [upd, e0]
   · simp only [upd, fdiv128]; rfl
 · refine ⟨.inl rfl, endW (l2 := l ++ X3 n) rfl rfl ?_ ?_ ⟨rfl, rfl⟩⟩
   · rw [← hE, Wg (by omega)]; simp
   · rw [← hE, Wg (by omega), Yc8 _ (UInt8.ofNat m)]
     rw [Zo0, Yc6 _ (by omega)]; omega
omit hG
theorem zz_pos (n : Int) (h0 : 0 ≤ n) (h2 : n ≤ 9223372036854775807) : bits .xor .u64 (n * 2) (n / 9223372036854775808) = ((zz n : Nat) : Int) := by
 have e : n / 9223372036854775808 = 0 := by omega
 rw [e, u64_xor (n * 2) 0 (by omega) (by omega) (by omega) (by omega)]
 unfold zz
 rw [if_pos h0]
 simp
 omega
theorem xor_ones (b : Nat) (hb : b < 2 ^ 64) : b ^^^ (2 ^ 64 - 1) = 2 ^ 64 - 1 - b := by rw [Nat.xor_comm]; exact Lib.xor_ones64 b hb
theorem zz_neg (n : Int) (h1 : -9223372036854775808 ≤ n) (h0 : ¬ 0 ≤ n) : bits .xor .u64 (IntKind.u64.wrap (IntKind.u64.wrap n * 2)) (IntKind.u64.wrap (n / 9223372036854775808)) = ((zz n : Nat) : Int) := by
 have e0 : IntKind.u64.wrap n = n + 18446744073709551616 := by rw [IntKind.wrap_u64]; omega
 have e1 : IntKind.u64.wrap (IntKind.u64.wrap n * 2) = 2 * n + 18446744073709551616 := by rw [e0, IntKind.wrap_u64]; omega
 have e2 : IntKind.u64.wrap (n / 9223372036854775808) = 18446744073709551615 := by
  have : n / 9223372036854775808 = -1 := by omega
  rw [this, IntKind.wrap_u64]; rfl
 rw [e1, e2, u64_xor _ _ (by omega) (by omega) (by omega) (by omega)]
 have e3 : (18446744073709551615 : Int).toNat = 2 ^ 64 - 1 := rfl
 rw [e3, xor_ones _ (by omega)]
 unfold zz
 rw [if_neg h0]
 omega
theorem zzE {n : Int} (hn : I64 n) : IntKind.u64.wrap ((BitVec.ofInt 64 (IntKind.u64.wrap (IntKind.u64.wrap n * 2 ^ min (Int.toNat 1) 64)) ^^^ BitVec.ofInt 64 (IntKind.u64.wrap (n.fdiv (2 ^ min (Int.toNat 63) 64)))).toNat : Int) = ((zz n : Nat) : Int) := by
 obtain ⟨h1, h2⟩ := hn
 have e1 : (2 : Int) ^ min (Int.toNat 1) 64 = 2 := by decide
 have e2 : n.fdiv (2 ^ min (Int.toNat 63) 64) = n / 9223372036854775808 := by
  rw [show (2 : Int) ^ min (Int.toNat 63) 64 = 9223372036854775808 by decide, Zm _ (by omega)]
 rw [e1, e2]
 by_cases h0 : 0 ≤ n
 · have w1 : IntKind.u64.wrap n = n := by rw [IntKind.wrap_u64]; omega
   have w2 : IntKind.u64.wrap (n * 2) = n * 2 := by rw [IntKind.wrap_u64]; omega
   have w3 : IntKind.u64.wrap (n / 9223372036854775808) = n / 9223372036854775808 := by rw [IntKind.wrap_u64]; omega
   rw [w1, w2, w3]
   exact zz_pos n h0 h2
 · exact zz_neg n h1 h0
theorem lenU {a : Nat} (h : a ≤ 100000000) : IntKind.u64.wrap (a : Int) = (a : Int) := by rw [IntKind.wrap_u64]; omega
include hG
theorem wUint_z {l : List UInt8} {n : Nat} {Z : Int} (hz : Z = (n : Int)) (hn : n < 18446744073709551616) (hl : l.length ≤ 100000000) :
 Does Za G 80 (wH l) [.ptr 0 0, .v (.int .u64 Z)] (fun h' r => h' = wH (l ++ X3 n) ∧ r = .tup []) := hz ▸ Zx7 G hG l n hn hl
theorem wInt_d (l : List UInt8) (n : Int) (hn : I64 n) (hl : l.length ≤ 100000000) :
 Does Za G 79 (wH l) [.ptr 0 0, .v (.int .i64 n)] (fun h' r => h' = wH (l ++ intE n) ∧ r = .tup []) := by
 refine Y5 Tryz.func79 rfl (Zc rfl) hG fun hl0 _ => ?_
 simp only [Tryz.ntmps79]
 repeat' first
  | refine sA rfl ?_
  | refine Y4 ?_
  | (refine ao1 rfl rfl fun K HK => ?_; simp only [go_sem, ↓reduceIte, Z1, Z3, Z2, Z4, Z5, Z6, Z7, Z8] <;> (refine HK _ _ ?_; clear HK K))
  | (refine ao2 rfl rfl rfl ent_80 (wUint_z G hG (zzE hn) (zz_lt n hn.1 hn.2) hl) ?_; rintro _ _ ⟨rfl, rfl⟩)
 exact ⟨.inl rfl, endW (l2 := l ++ intE n) rfl rfl rfl rfl ⟨rfl, rfl⟩⟩
theorem Zx8 (l : List UInt8) (s : ByteArray) (hs : s.size ≤ 10000000) (hl : l.length ≤ 80000000) :
 Does Za G 55 (wH l) [.ptr 0 0, .v (.string s)] (fun h' r => h' = wH (l ++ Yv s) ∧ r = .tup []) := by
 have hu := (X7 s.size (by omega)).1
 refine Y5 Tryz.func55 rfl (Zc rfl) hG fun hl0 _ => ?_
 simp only [Tryz.ntmps55]
 repeat' first
  | refine sA rfl ?_
  | refine Y4 ?_
  | (refine ao1 rfl rfl fun K HK => ?_; simp only [go_sem, ↓reduceIte, Z1, Z3, Z2, Z4, Z5, Z6, Z7, Z8, Zx9, wG_0, wG_1, Zi1, Zi0, Zi5, Zi4, Zi3, Zi2, lenU (a := s.size) (by omega)] <;> (refine HK _ _ ?_; clear HK K))
  | refine Js rfl rfl rfl (by (simp only [go_sem, ↓reduceIte, Z1, Z3, Z2, Z4, Z5, Z6, Z7, Z8, Zx9, wG_0, wG_1, Zi1, Zi0, Zi5, Zi4, Zi3, Zi2, lenU (a := s.size) (by omega)]; rfl)) (by simp) (by simp only [go_sem]; rfl) rfl (by exact X0 _) (by (simp; omega)) ?_
  | (refine ao2 rfl rfl rfl ent_80 (Zx7 G hG l _ (by omega) (by omega)) ?_; rintro _ _ ⟨rfl, rfl⟩)
  | (refine ao1' rfl fun K HK => ?_; simp only [go_sem, ↓reduceIte, Z1, Z3, Z2, Z4, Z5, Z6, Z7, Z8, Zx9, wG_0, wG_1, Zi1, Zi0, Zi5, Zi4, Zi3, Zi2, lenU (a := s.size) (by omega)]; refine HK _ _ ?_; clear HK K)
 exact ⟨.inl rfl, endW (l2 := l ++ Yv s) rfl rfl (by simp [Yv]; try omega) (by rw [byD_app, Zb]; rfl) ⟨rfl, rfl⟩⟩
theorem wBytes_d (l b : List UInt8) (hs : b.length ≤ 10000000) (hl : l.length ≤ 80000000) :
 Does Za G 45 (wH l) [.ptr 0 0, .sl 1 (byD b)] (fun h' r => h' = wH (l ++ W5 b) ∧ r = .tup []) := by
 have hu := (X7 b.length (by omega)).1
 refine Y5 Tryz.func45 rfl (Zc rfl) hG fun hl0 _ => ?_
 simp only [Tryz.ntmps45]
 repeat' first
  | refine sA rfl ?_
  | refine Y4 ?_
  | (refine ao1 rfl rfl fun K HK => ?_; simp only [go_sem, ↓reduceIte, Z1, Z3, Z2, Z4, Z5, Z6, Z7, Z8, Zx9, wG_0, wG_1, Zi1, Zi0, Zi5, Zi4, Zi3, Zi2, byD_len, lenU (a := b.length) (by omega)] <;> (refine HK _ _ ?_; clear HK K))
  | refine Js rfl rfl rfl (by (simp only [go_sem, ↓reduceIte, Z1, Z3, Z2, Z4, Z5, Z6, Z7, Z8, Zx9, wG_0, wG_1, Zi1, Zi0, Zi5, Zi4, Zi3, Zi2, byD_len, lenU (a := b.length) (by omega)]; rfl)) (by simp) (by simp only [go_sem]; rfl) rfl (by exact X0 _) (by (simp; omega)) ?_
  | (refine ao2 rfl rfl rfl ent_80 (Zx7 G hG l _ (by omega) (by omega)) ?_; rintro _ _ ⟨rfl, rfl⟩)
  | (refine ao1' rfl fun K HK => ?_; simp only [go_sem, ↓reduceIte, Z1, Z3, Z2, Z4, Z5, Z6, Z7, Z8, Zx9, wG_0, wG_1, Zi1, Zi0, Zi5, Zi4, Zi3, Zi2, byD_len, lenU (a := b.length) (by omega)]; refine HK _ _ ?_; clear HK K)
 exact ⟨.inl rfl, endW (l2 := l ++ W5 b) rfl rfl (by simp [W5]; try omega) (by rw [byD_app, Zb]; rfl) ⟨rfl, rfl⟩⟩
theorem wData_d (l : List UInt8) (hl : l.length ≤ 100000000) :
 Does Za G 46 (wH l) [.ptr 0 0] (fun h' r => h' = wH l ∧ r = .sl 1 (byD l)) := by
 refine Y5 Tryz.func46 rfl (Zc rfl) hG fun hl0 _ => ?_
 simp only [Tryz.ntmps46]
 repeat' first
  | refine sA rfl ?_
  | refine Y4 ?_
  | (refine ao1 rfl rfl fun K HK => ?_; simp only [go_sem, ↓reduceIte, Z1, Z3, Z2, Z4, Z5, Z6, Z7, Z8, Zx9, wG_0, wG_1, Zi1, Zi0, Zi5, Zi4, Zi3, Zi2] <;> (refine HK _ _ ?_; clear HK K))
  | refine Wf rfl rfl rfl rfl (by (simp only [go_sem, ↓reduceIte, Z1, Z3, Z2, Z4, Z5, Z6, Z7, Z8, Zx9, wG_0, wG_1, Zi1, Zi0, Zi5, Zi4, Zi3, Zi2]; rfl)) (by simp) (by simp only [go_sem]; rfl) (by (simp only [go_sem, ↓reduceIte, Z1, Z3, Z2, Z4, Z5, Z6, Z7, Z8, Zx9, wG_0, wG_1, Zi1, Zi0, Zi5, Zi4, Zi3, Zi2]; rfl)) (by simp) (by exact X0 _) (by (simp; omega)) ?_
 have e : ((wG l.length (byD l) [] ++ [Ob.buf 5 1 (byD l)]).take (wH l).length) = wH l := rfl
 refine ⟨.inr rfl, [.buf 2 l.length], 2, rfl, Zh _, by simp [wG], ?_, ?_, ?_⟩
 · show lowH 2 ((wG l.length (byD l) [] ++ [Ob.buf 5 1 (byD l)]).take (wH l).length)
   rw [e]; exact hl0
 · simp [outD, cvD, cv1, wG, Yb]
 · refine ⟨e, ?_⟩
   simp [outD, cvD, cv1, wG]
end
section
attribute [local irreducible] on aOp
attribute [local go_sem] decide_true decide_false Ze Zd
attribute [local simp] byD_len
theorem Zp7 (π : Nat → Nat) (l : List UInt8) : renR π (byD l) = byD l := by
 have := U7 π (.sl 1 (byD l)) (Yb 0 l)
 rw [ren] at this
 exact (D.sl.inj this).2
variable (G : Nat → D) (hG : ∀ g, low 0 (G g))
include hG
theorem w_at {l l2 : List UInt8} {f : FuncId} {xs : List D} {r0 : D} (lx : lowL 0 xs) (lr : low 0 r0) (q : Does Za G f (wH l) (.ptr 0 0 :: xs) (fun h' r => h' = wH l2 ∧ r = r0)) {h : List Ob} {i j : Nat} (hi : h[i]? = some (.cells [.buf j l.length])) (hj : h[j]? = some (.buf 5 1 (byD l))) :
 Does Za G f h (.ptr i 0 :: xs) (fun h' r => h' = (h.set i (.cells [.buf j l2.length])).set j (.buf 5 1 (byD l2)) ∧ r = r0) := by
 have hij : i ≠ j := fun e => by subst e; rw [hi] at hj; cases hj
 have L : Lies (fun k => if k = 0 then i else j) (wH l) h := by
  refine ⟨fun k ob hk => ?_, fun a b ha hb hab => ?_, wG_low' l l⟩
  · rcases k with _ | _ | k
    · cases hk; simp only [Xv, renL, ren]; simpa using hi
    · cases hk; simp only [Xv, Zp7]; simpa using hj
    · cases hk
  · have ha : a < 2 := ha
    have hb : b < 2 := hb
    have hab : (if a = 0 then i else j) = (if b = 0 then i else j) := hab
    split at hab <;> split at hab <;> omega
 have F := Does.frame hG L (args := .ptr 0 0 :: xs) (by rw [lowL, low]; exact ⟨Nat.zero_lt_succ _, V0 (Zl _) _ lx⟩) (K1 := fun h' r => h' = wH l2 ∧ r = r0) (by
  rintro _ _ ⟨rfl, _⟩
  refine ⟨fun a b ha hb hab => ?_, fun k h1 h2 => ?_⟩
  · have ha : a < 2 := ha
    have hb : b < 2 := hb
    have hab : (if a = 0 then i else j) = (if b = 0 then i else j) := hab
    split at hab <;> split at hab <;> omega
  · have h1 : 2 ≤ k := h1
    have h2 : k < 2 := h2
    omega) q
 rw [renL, ren, Yt _ _ lx] at F
 refine F.mono ?_
 rintro _ _ ⟨_, _, ⟨rfl, rfl⟩, rfl, rfl⟩
 refine ⟨?_, U7 _ _ lr⟩
 simp only [wH, wG, Zk, List.map_nil, plc, Xv, renL, ren, Zp7]
 rfl
theorem w_tail {l l2 : List UInt8} {f : FuncId} {xs : List D} {r0 : D} (lx : lowL 0 xs) (lr : low 0 r0) (q : Does Za G f (wH l) (.ptr 0 0 :: xs) (fun h' r => h' = wH l2 ∧ r = r0)) {n : Nat} {T : List Ob} (hn : n = l.length) :
 Does Za G f (wG n (byD l) T) (.ptr 0 0 :: xs) (fun h' r => h' = wG l2.length (byD l2) T ∧ r = r0) := by
 subst hn
 exact w_at G hG lx lr q (i := 0) (j := 1) rfl rfl
omit hG
structure Cmd where
 client : Int
 seq : Int
 kind : Int
 writes : List (ByteArray × List UInt8)
 replica : Int
 tag : List UInt8
def wrX (x : ByteArray × List UInt8) : List D := [.v (.string x.1), .sl 1 (byD x.2)]
def cmdX (c : Cmd) : List D := [.v (.int .i64 c.client), .v (.int .i64 c.seq), .v (.int .i64 c.kind), .sl 2 (c.writes.map wrX), .v (.int .i64 c.replica), .sl 1 (byD c.tag)]
theorem V6 (x : ByteArray × List UInt8) : wrX x = [.v (.string x.1), .sl 1 (byD x.2)] := rfl
theorem Yi (c : Cmd) : cmdX c = [.v (.int .i64 c.client), .v (.int .i64 c.seq), .v (.int .i64 c.kind), .sl 2 (c.writes.map wrX), .v (.int .i64 c.replica), .sl 1 (byD c.tag)] := rfl
structure Cmd.Ok (c : Cmd) : Prop where
 client : I64 c.client
 seq : I64 c.seq
 kind : I64 c.kind
 replica : I64 c.replica
 many : c.writes.length ≤ 3000
 each : ∀ x ∈ c.writes, x.1.size ≤ 10000 ∧ x.2.length ≤ 10000
 tag : c.tag.length ≤ 10000
def V8 (l : List (ByteArray × List UInt8)) : List UInt8 := l.flatMap fun x => Yv x.1 ++ W5 x.2
def Ww (c : Cmd) : List UInt8 := intE c.client ++ intE c.seq ++ intE c.kind ++ X3 c.writes.length ++ V8 c.writes ++ intE c.replica
def encC (c : Cmd) : List UInt8 := Ww c ++ W5 c.tag
theorem Xq {n : Int} (h : I64 n) : (intE n).length ≤ 10 := (X7 _ (zz_lt n h.1 h.2)).1
theorem J0 : ∀ l : List (ByteArray × List UInt8), (∀ x ∈ l, x.1.size ≤ 10000 ∧ x.2.length ≤ 10000) → (V8 l).length ≤ 20020 * l.length
 | [], _ => by simp [V8]
 | x :: t, h => by
  have h1 := h x (by simp)
  have h2 := J0 t fun y hy => h y (by simp [hy])
  have h3 := (X7 x.1.size (by omega)).1
  have h4 := (X7 x.2.length (by omega)).1
  have e : V8 (x :: t) = (Yv x.1 ++ W5 x.2) ++ V8 t := by simp [V8]
  have e2 : x.1.data.toList.length = x.1.size := rfl
  rw [e]
  simp only [Z0, Yv, W5, List.length_cons, e2]
  omega
theorem writesE_take {l : List (ByteArray × List UInt8)} {k : Nat} {x : ByteArray × List UInt8} (h : l[k]? = some x) : V8 (l.take (k + 1)) = V8 (l.take k) ++ Yv x.1 ++ W5 x.2 := by
 rw [List.take_add_one, h]
 simp [V8]
def wB (n : Nat) (rows : List (List D)) (b : Ob) (T : List Ob) : List Ob := wG n rows (b :: T)
section
variable {n m : Nat} {rows r2 : List (List D)} {T : List Ob} {b x y : Ob}
theorem wB_2 : (wB n rows b T)[2]? = some b := rfl
theorem wB_app : wB n rows b T ++ [x] = wB n rows b (T ++ [x]) := rfl
theorem wB_len : (wB n rows b T).length = T.length + 3 := rfl
theorem wB_last : (wB n rows b (T ++ [x]))[T.length + 3]? = some x := by simp [wB, wG]
theorem wB_lset : (wB n rows b (T ++ [x])).set (T.length + 3) y = wB n rows b (T ++ [y]) := by simp [wB, wG]
theorem wH_box {l : List UInt8} : wH l ++ [x] = wB l.length (byD l) x [] := rfl
theorem wH_len {l : List UInt8} : (wH l).length = 2 := rfl
end
include hG
theorem w_b {l l2 : List UInt8} {f : FuncId} {xs : List D} {r0 : D} (lx : lowL 0 xs) (lr : low 0 r0) (q : Does Za G f (wH l) (.ptr 0 0 :: xs) (fun h' r => h' = wH l2 ∧ r = r0)) {n : Nat} {b : Ob} {T : List Ob} (hn : n = l.length) :
 Does Za G f (wB n (byD l) b T) (.ptr 0 0 :: xs) (fun h' r => h' = wB l2.length (byD l2) b T ∧ r = r0) := w_tail G hG lx lr q hn
theorem bInt (l : List UInt8) {n : Int} (hn : I64 n) (hl : l.length ≤ 100000000) {b : Ob} {T : List Ob} {n0 : Nat} (e0 : n0 = l.length) : Does Za G 79 (wB n0 (byD l) b T) [.ptr 0 0, .v (.int .i64 n)] (fun h' r => h' = wB (l ++ intE n).length (byD (l ++ intE n)) b T ∧ r = .tup []) :=
 w_b G hG (by simp [lowL, low]) (by simp [low, lowL]) (wInt_d G hG l n hn hl) e0
theorem bUint (l : List UInt8) {n : Nat} (hn : n < 18446744073709551616) (hl : l.length ≤ 100000000) {b : Ob} {T : List Ob} {n0 : Nat} (e0 : n0 = l.length) : Does Za G 80 (wB n0 (byD l) b T) [.ptr 0 0, .v (.int .u64 n)] (fun h' r => h' = wB (l ++ X3 n).length (byD (l ++ X3 n)) b T ∧ r = .tup []) :=
 w_b G hG (by simp [lowL, low]) (by simp [low, lowL]) (Zx7 G hG l n hn hl) e0
theorem bText (l : List UInt8) {s : ByteArray} (hs : s.size ≤ 10000000) (hl : l.length ≤ 80000000) {b : Ob} {T : List Ob} {n0 : Nat} (e0 : n0 = l.length) : Does Za G 55 (wB n0 (byD l) b T) [.ptr 0 0, .v (.string s)] (fun h' r => h' = wB (l ++ Yv s).length (byD (l ++ Yv s)) b T ∧ r = .tup []) :=
 w_b G hG (by simp [lowL, low]) (by simp [low, lowL]) (Zx8 G hG l s hs hl) e0
theorem bBytes (l : List UInt8) {x : List UInt8} (hs : x.length ≤ 10000000) (hl : l.length ≤ 80000000) {b : Ob} {T : List Ob} {n0 : Nat} (e0 : n0 = l.length) : Does Za G 45 (wB n0 (byD l) b T) [.ptr 0 0, .sl 1 (byD x)] (fun h' r => h' = wB (l ++ W5 x).length (byD (l ++ W5 x)) b T ∧ r = .tup []) :=
 w_b G hG (by rw [lowL, lowL]; exact ⟨Yb _ _, trivial⟩) (by simp [low, lowL]) (wBytes_d G hG l x hs hl) e0
theorem write_d (l : List UInt8) (c : Cmd) (hc : c.Ok) (hl : l.length ≤ 1000000) :
 Does Za G 44 (wH l) [.ptr 0 0, .agg (cmdX c)] (fun h' r => h' = wH (l ++ Ww c) ∧ r = .tup []) := by
 have h1 := Xq hc.client
 have h2 := Xq hc.seq
 have h3 := Xq hc.kind
 have h4 := (X7 c.writes.length (by have := hc.many; omega)).1
 have hm := hc.many
 refine Y5 Tryz.func44 rfl (Zc rfl) hG fun hl0 _ => ?_
 simp only [Tryz.ntmps44]
 repeat' first
  | refine sA rfl ?_
  | refine Y4 ?_
  | (refine ao1 rfl rfl fun K HK => ?_; simp only [go_sem, ↓reduceIte, Z1, Z3, Z2, Z4, Z5, Z6, Z7, Z8, Yi, wH_box, wH_len, wB_2, lenU (a := c.writes.length) (by omega)] <;> (refine HK _ _ ?_; clear HK K))
  | (refine ao2 rfl rfl rfl Zl3 (bInt G hG _ hc.client (by first | omega | (simp only [Z0]; omega)) (by simp; try omega)) ?_; rintro _ _ ⟨rfl, rfl⟩)
  | (refine ao2 rfl rfl rfl Zl3 (bInt G hG _ hc.seq (by first | omega | (simp only [Z0]; omega)) (by simp; try omega)) ?_; rintro _ _ ⟨rfl, rfl⟩)
  | (refine ao2 rfl rfl rfl Zl3 (bInt G hG _ hc.kind (by first | omega | (simp only [Z0]; omega)) (by simp; try omega)) ?_; rintro _ _ ⟨rfl, rfl⟩)
  | (refine ao2 rfl rfl rfl ent_80 (bUint G hG _ (n := c.writes.length) (by omega) (by first | omega | (simp only [Z0]; omega)) (by simp; try omega)) ?_; rintro _ _ ⟨rfl, rfl⟩)
 have hb := J0 c.writes hc.each
 generalize hP : l ++ (intE c.client ++ (intE c.seq ++ (intE c.kind ++ X3 c.writes.length))) = P
 have hPl : P.length ≤ 1000040 := by rw [← hP]; simp only [Z0]; omega
 have hPn : l.length + ((intE c.client).length + ((intE c.seq).length + ((intE c.kind).length + (X3 c.writes.length).length))) = P.length := by rw [← hP]; simp only [Z0]
 rw [hPn]
 refine Yr (fun m e h' => ∃ (k n0 : Nat) (cur : List UInt8) (T : List Ob), k ≤ c.writes.length ∧ m = c.writes.length - k ∧ n0 = cur.length ∧ cur = P ++ V8 (c.writes.take k) ∧ h' = wB n0 (byD cur) (.cells (cmdX c)) T ∧ e 0 = .ptr 0 0 ∧ e 3 = .ptr 2 0 ∧ e 25 = .sl 2 (c.writes.map wrX) ∧ e 26 = .v (.int .i64 c.writes.length) ∧ e 27 = .v (.int .i64 k)) c.writes.length ⟨0, _, P, [], Zl _, rfl, rfl, by simp [V8], rfl, rfl, rfl, rfl, rfl, rfl⟩ ?_
 rintro m e h' ⟨k, n0, cur, T, hk, rfl, hn0, hcur, rfl, e0, e3, e25, e26, e27⟩
 have hcl : cur.length ≤ 70000000 := by
  have h5 := J0 (c.writes.take k) fun x hx => hc.each x (List.mem_of_mem_take hx)
  rw [hcur, Z0]
  have := List.length_take_le k c.writes
  omega
 by_cases hlt : k < c.writes.length
 · have hx : c.writes[k]? = some c.writes[k] := Zr hlt
   have hxm := hc.each _ (List.getElem_mem hlt)
   generalize c.writes[k] = x at hx hxm
   have ht : (Yv x.1).length ≤ 10010 := by
    have h6 := (X7 x.1.size (by omega)).1
    have e2 : x.1.data.toList.length = x.1.size := rfl
    simp only [Yv, Z0, e2]; omega
   have wk : IntKind.i64.wrap ((k : Int) + 1) = (k : Int) + 1 := IntWalk.i64_in _ (by omega)
   repeat' first
    | refine sA rfl ?_ | refine sI rfl rfl ?_ | refine sT rfl ?_
    | refine Y4 ?_
    | (refine ao1 rfl rfl fun K HK => ?_; simp only [go_sem, ↓reduceIte, Z1, Z3, Z2, Z4, Z5, Z6, Z7, Z8, e0, e3, e25, e26, e27, V6, wB_2, wB_app, wB_len, wB_last, wB_lset, wk, Zp]; (first | refine Y6 (fun hq => ?_) (fun hq => ?_) | (refine ⟨by omega, by omega, ?_⟩; refine Yg (by assumption) ?_) | skip) <;> (refine HK _ _ ?_; clear HK K))
    | (refine ao2 rfl rfl rfl ent_55 (bText G hG cur (s := x.1) (by omega) (by omega) hn0) ?_; rintro _ _ ⟨rfl, rfl⟩)
    | (refine ao2 rfl rfl rfl ent_45 (bBytes G hG (cur ++ Yv x.1) (x := x.2) (by omega) (by simp only [Z0]; omega) (by simp)) ?_; rintro _ _ ⟨rfl, rfl⟩)
    | (refine ao1' rfl fun K HK => ?_; simp only [go_sem, ↓reduceIte, Z1, Z3, Z2, Z4, Z5, Z6, Z7, Z8, e0, e3, e25, e26, e27, V6, wB_2, wB_app, wB_len, wB_last, wB_lset, wk, Zp]; refine HK _ _ ?_; clear HK K)
    | (exfalso; omega)
   have hcur' : cur ++ (Yv x.1 ++ W5 x.2) = P ++ V8 (c.writes.take (k + 1)) := by rw [writesE_take hx, hcur]; simp
   exact ⟨rfl, c.writes.length - (k + 1), by omega, k + 1, _, cur ++ (Yv x.1 ++ W5 x.2), _, hlt, rfl, (by simp), hcur', rfl, e0, e3, e25, e26, rfl⟩
 · skip
   repeat' first
    | refine sA rfl ?_ | refine sI rfl rfl ?_
    | refine Y4 ?_
    | (refine ao1 rfl rfl fun K HK => ?_; simp only [go_sem, ↓reduceIte, Z1, Z3, Z2, Z4, Z5, Z6, Z7, Z8, e0, e3, e25, e26, e27, Yi, wB_2]; (first | refine Y6 (fun hq => ?_) (fun hq => ?_) | (refine ⟨by omega, by omega, ?_⟩; intro row hrow; obtain ⟨x, hx, rfl⟩ := Yn hrow; clear hrow) | skip) <;> (refine HK _ _ ?_; clear HK K))
    | (refine ao2 rfl rfl rfl Zl3 (bInt G hG cur hc.replica (by omega) hn0) ?_; rintro _ _ ⟨rfl, rfl⟩)
    | (exfalso; omega)
   have hcur' : cur ++ intE c.replica = l ++ Ww c := by
    rw [hcur, ← hP, Zi (by omega)]
    simp [Ww]
   exact ⟨.inl rfl, endW (l2 := l ++ Ww c) rfl rfl (by rw [← hcur']) (by rw [← hcur']) ⟨rfl, rfl⟩⟩
end
section
attribute [local irreducible] on aOp
attribute [local go_sem] decide_true decide_false Ze Zd
attribute [local simp] byD_len
variable (G : Nat → D) (hG : ∀ g, low 0 (G g))
def hE (c : Cmd) (n : Nat) (rows : List (List D)) : List Ob := [.cells (cmdX c), .cells [.buf 2 n], .buf 5 1 rows]
theorem low_wr (m : Nat) (l : List (ByteArray × List UInt8)) : low m (.sl 2 (l.map wrX)) := by
 rw [low, Ji]
 intro row hr
 obtain ⟨b, _, rfl⟩ := List.mem_map.1 hr
 rw [wrX, lowL, lowL, lowL]
 exact ⟨by simp [low], Yb _ _, trivial⟩
theorem low_cmd (m : Nat) (c : Cmd) : lowL m (cmdX c) := by
 rw [cmdX]
 simp only [lowL]
 exact ⟨by simp [low], by simp [low], by simp [low], low_wr _ _, by simp [low], Yb _ _, trivial⟩
theorem hE_0 {c : Cmd} {n : Nat} {rows : List (List D)} : (hE c n rows)[0]? = some (.cells (cmdX c)) := rfl
theorem W0 (m : Nat) (c : Cmd) : low m (.agg (cmdX c)) := by rw [low]; exact low_cmd m c
include hG
theorem Yf {P : Program} {f : FuncId} {args : List D} {r : D} (la : lowL 0 args) (lr : low 0 r) (q : Does P G f [] args (fun h' r' => h' = [] ∧ r' = r)) (h : List Ob) : Does P G f h args (fun h' r' => h' = h ∧ r' = r) := by
 have L : Lies (fun i => i) [] h := ⟨fun i ob q => by simp at q, fun i j q => by simp at q, fun ob q => by simp at q⟩
 have F := Does.frame hG L (args := args) la (K1 := fun h1 r1 => h1 = [] ∧ r1 = r) (by
  rintro _ _ ⟨rfl, _⟩
  exact ⟨fun i j hi => by simp at hi, fun j _ hj => by simp at hj⟩) q
 rw [Yt _ _ la] at F
 refine F.mono ?_
 rintro _ _ ⟨_, _, ⟨rfl, rfl⟩, rfl, rfl⟩
 exact ⟨rfl, U7 _ _ lr⟩
theorem e_write (c : Cmd) (hc : c.Ok) : Does Za G 44 (hE c 0 []) [.ptr 1 0, .agg (cmdX c)] (fun h' r => h' = hE c (Ww c).length (byD (Ww c)) ∧ r = .tup []) :=
 w_at G hG (l := []) (l2 := Ww c) (by rw [lowL, lowL]; exact ⟨W0 _ _, trivial⟩) (by simp [low, lowL]) (write_d G hG [] c hc (by simp)) (i := 1) (j := 2) rfl rfl
theorem e_bytes (c : Cmd) (l x : List UInt8) (hs : x.length ≤ 10000000) (hl : l.length ≤ 80000000) : Does Za G 45 (hE c l.length (byD l)) [.ptr 1 0, .sl 1 (byD x)] (fun h' r => h' = hE c (l ++ W5 x).length (byD (l ++ W5 x)) ∧ r = .tup []) :=
 w_at G hG (by rw [lowL, lowL]; exact ⟨Yb _ _, trivial⟩) (by simp [low, lowL]) (wBytes_d G hG l x hs hl) (i := 1) (j := 2) rfl rfl
theorem e_data (c : Cmd) (l : List UInt8) (hl : l.length ≤ 100000000) : Does Za G 46 (hE c l.length (byD l)) [.ptr 1 0] (fun h' r => h' = hE c l.length (byD l) ∧ r = .sl 1 (byD l)) :=
 w_at G hG (by rw [lowL]; trivial) (Yb _ _) (wData_d G hG l hl) (i := 1) (j := 2) rfl rfl
omit hG in
theorem Zh9 (c : Cmd) (hc : c.Ok) : (Ww c).length ≤ 60061000 := by
 have h1 := Xq hc.client
 have h2 := Xq hc.seq
 have h3 := Xq hc.kind
 have h5 := Xq hc.replica
 have h4 := (X7 c.writes.length (by have := hc.many; omega)).1
 have h6 := J0 c.writes hc.each
 have hm := hc.many
 simp only [Ww, Z0]
 omega
omit hG in
theorem Zh2 (c : Cmd) (hc : c.Ok) : (encC c).length ≤ 60072000 := by
 have h1 := Zh9 c hc
 have h2 := hc.tag
 have h4 := (X7 c.tag.length (by omega)).1
 simp only [encC, W5, Z0]
 omega
theorem Yc0 (c : Cmd) (hc : c.Ok) (h : List Ob) : Does Za G 17 h [.agg (cmdX c)] (fun h' r => h' = h ∧ r = .sl 1 (byD (encC c))) := by
 refine Yf G hG (by rw [lowL, lowL]; exact ⟨W0 _ _, trivial⟩) (Yb _ _) ?_ h
 have hw := Zh9 c hc
 have ht := hc.tag
 refine Y5 Tryz.func17 rfl (Zc rfl) hG fun hl0 _ => ?_
 simp only [Tryz.ntmps17]
 repeat' first
  | (refine Zc2 5 1 1 [] [] rfl ?_)
  | refine sA rfl ?_
  | refine Y4 ?_
  | (refine ao1 rfl rfl fun K HK => ?_; simp only [go_sem, ↓reduceIte, Z1, Z3, Z2, Z4, Z5, Z6, Z7, Z8, hE_0, Yi] <;> (refine HK _ _ ?_; clear HK K))
  | (refine ao2 rfl rfl rfl ent_44 (e_write G hG c hc) ?_; rintro _ _ ⟨rfl, rfl⟩)
  | (refine ao2 rfl rfl rfl ent_45 (e_bytes G hG c _ _ (by omega) (by omega)) ?_; rintro _ _ ⟨rfl, rfl⟩)
  | (refine ao2 rfl rfl rfl ent_46 (e_data G hG c (encC c) (by have := Zh2 c hc; omega)) ?_; rintro _ _ ⟨rfl, rfl⟩)
 exact ⟨.inr rfl, endD (r := .sl 1 (byD (encC c))) hl0 rfl (by simp) (by simp) (by simp [outD, cvD, cv1, upd]) (Yb _ _) ⟨rfl, rfl⟩⟩
end
section
theorem rds_bytes (b : List UInt8) : Rds Yh b (W5 b) := fun s r ho he hl hr => by
 have hlen := congrArg List.length hr
 rw [Zs, Z0] at hlen
 unfold W5 at hlen
 rw [Z0] at hlen
 exact ⟨_, Zv9 he ho.pos (by omega) hr, rds_go ho he hr⟩
def rdWr (s : RS) : (ByteArray × List UInt8) × RS := (((Vm s).1, (Yh (Vm s).2).1), (Yh (Vm s).2).2)
def wrE (x : ByteArray × List UInt8) : List UInt8 := Yv x.1 ++ W5 x.2
theorem rds_wr (x : ByteArray × List UInt8) : Rds rdWr x (wrE x) :=
 (rds_text x.1).bind (rds_bytes x.2) fun s s' s'' e1 e2 => by unfold rdWr; rw [e1, e2]
theorem wrE_pos (x : ByteArray × List UInt8) : 1 ≤ (wrE x).length := by
 unfold wrE; rw [Z0]; have := textE_pos x.1; omega
def Zd5 {α : Type} (f : RS → α × RS) : Nat → RS → List α × RS
 | 0, s => ([], s)
 | n + 1, s => ((f s).1 :: (Zd5 f n (f s).2).1, (Zd5 f n (f s).2).2)
theorem Zq4 {α : Type} {f : RS → α × RS} (hf : ∀ s, s.err ≠ 0 → (f s).2 = s) : ∀ (n : Nat) (s : RS), s.err ≠ 0 → (Zd5 f n s).2 = s
 | 0, s, h => rfl
 | n + 1, s, h => by rw [Zd5]; simp only [hf s h]; exact Zq4 hf n s h
theorem rdAll_snd {α : Type} {f : RS → α × RS} (hf : ∀ s, s.err ≠ 0 → (f s).2 = s) : ∀ (n : Nat) (s : RS), (Zd5 f n s).2 = (Wi f n s).2
 | 0, s => rfl
 | n + 1, s => by
  by_cases h : s.err = 0
  · rw [Zf4 f n s h, Zd5]; exact rdAll_snd hf n _
  · rw [rdLoop_bad f _ s h]; exact Zq4 hf _ s h
theorem rdAll_eq {α : Type} {f : RS → α × RS} (hf : ∀ s, s.err ≠ 0 → (f s).2 = s) : ∀ (n : Nat) (s : RS), (Zd5 f n s).2.err = 0 → Zd5 f n s = Wi f n s
 | 0, s, h => rfl
 | n + 1, s, h => by
  by_cases h0 : s.err = 0
  · rw [Zf4 f n s h0, Zd5, rdAll_eq hf n _ h]
  · rw [Zq4 hf _ s h0] at h; exact absurd h h0
theorem rdText_bad {s : RS} (h : s.err ≠ 0) : (Vm s).2 = s := by unfold Vm Yh; rw [if_pos h]
theorem Zq3 {s : RS} (h : s.err ≠ 0) : (Yh s).2 = s := by unfold Yh; rw [if_pos h]
theorem rdUint_bad {s : RS} (h : s.err ≠ 0) : (Xc s).2 = s := by unfold Xc; rw [if_pos h]
theorem rdWr_bad {s : RS} (h : s.err ≠ 0) : (rdWr s).2 = s := by unfold rdWr; simp only; rw [rdText_bad h, Zq3 h]
def rdC1 (s : RS) : (Int × Int × Int) × RS := (((Yo s).1, (Yo (Yo s).2).1, (Yo (Yo (Yo s).2).2).1), (Yo (Yo (Yo s).2).2).2)
def rdCw (g : RS → List (ByteArray × List UInt8) × RS) (s : RS) : Cmd × RS :=
 (⟨(Yo s).1, (Yo (Yo s).2).1, (Yo (Yo (Yo s).2).2).1, (g (Yo (Yo (Yo s).2).2).2).1, (Yo (g (Yo (Yo (Yo s).2).2).2).2).1, (Yh (Yo (g (Yo (Yo (Yo s).2).2).2).2).2).1⟩, (Yh (Yo (g (Yo (Yo (Yo s).2).2).2).2).2).2)
def Zu2 : RS → Cmd × RS := rdCw (rdList rdWr)
def Zq2 {α : Type} (f : RS → α × RS) (s : RS) : List α × RS := Zd5 f (Ym s).1 (Ym s).2
def Zc6 : RS → Cmd × RS := rdCw (Zq2 rdWr)
theorem rdInt_bad {s : RS} (h : s.err ≠ 0) : (Yo s).2 = s := rdUint_bad h
theorem rdCmdA_snd (s : RS) : (Zc6 s).2 = (Zu2 s).2 := by
 unfold Zc6 Zu2 rdCw Zq2 rdList
 simp only [rdAll_snd (fun s h => rdWr_bad h)]
theorem rdCmdA_eq {s : RS} (h : (Zc6 s).2.err = 0) : Zc6 s = Zu2 s := by
 have hl : (Zq2 rdWr (Yo (Yo (Yo s).2).2).2).2.err = 0 := by
  apply Classical.byContradiction
  intro hn
  unfold Zc6 rdCw at h
  simp only at h
  rw [rdInt_bad hn, Zq3 hn] at h
  exact hn h
 have e : Zq2 rdWr (Yo (Yo (Yo s).2).2).2 = rdList rdWr (Yo (Yo (Yo s).2).2).2 := rdAll_eq (fun s h => rdWr_bad h) _ _ hl
 unfold Zc6 Zu2 rdCw
 rw [e]
theorem writesE_eq (l : List (ByteArray × List UInt8)) : V8 l = l.flatMap wrE := rfl
theorem rds_cmd {c : Cmd} (hc : c.Ok) : Rds Zu2 c (encC c) := by
 have r1 := Zz0 hc.client
 have r2 := Zz0 hc.seq
 have r3 := Zz0 hc.kind
 have r4 := rds_list wrE_pos c.writes fun x _ => rds_wr x
 have r5 := Zz0 hc.replica
 have r6 := rds_bytes c.tag
 intro s r ho he hl hr
 unfold encC Ww at hr ⊢
 rw [writesE_eq] at hr ⊢
 simp only [Zb] at hr
 obtain ⟨s1, e1, o1, t1⟩ := r1 s _ ho he hl hr
 have l1 : s1.data.length < 18446744073709551616 := by rw [J3 t1]; exact hl
 have hr1 := Wx t1 hr
 obtain ⟨s2, e2, o2, t2⟩ := r2 s1 _ o1 t1.err.2 l1 hr1
 have l2 : s2.data.length < 18446744073709551616 := by rw [J3 t2]; exact l1
 have hr2 := Wx t2 hr1
 obtain ⟨s3, e3, o3, t3⟩ := r3 s2 _ o2 t2.err.2 l2 hr2
 have l3 : s3.data.length < 18446744073709551616 := by rw [J3 t3]; exact l2
 have hr3 := Wx t3 hr2
 rw [← Zb (X3 _)] at hr3
 obtain ⟨s4, e4, o4, t4⟩ := r4 s3 _ o3 t3.err.2 l3 hr3
 have l4 : s4.data.length < 18446744073709551616 := by rw [J3 t4]; exact l3
 have hr4 := Wx t4 hr3
 obtain ⟨s5, e5, o5, t5⟩ := r5 s4 _ o4 t4.err.2 l4 hr4
 have l5 : s5.data.length < 18446744073709551616 := by rw [J3 t5]; exact l4
 have hr5 := Wx t5 hr4
 obtain ⟨s6, e6, o6, t6⟩ := r6 s5 _ o5 t5.err.2 l5 hr5
 refine ⟨s6, ?_, o6, ?_⟩
 · unfold Zu2 rdCw; rw [e1]; simp only; rw [e2]; simp only; rw [e3]; simp only; rw [e4]; simp only; rw [e5]; simp only; rw [e6]
 · have := ((((t1.trans t2).trans t3).trans t4).trans t5).trans t6
   simp only [Zb] at this ⊢
   exact this
def zeroC : Cmd := ⟨0, 0, 0, [], 0, []⟩
def decC (b : List UInt8) : Cmd × Int := if (Zu2 ⟨b, 0, 0, 0⟩).2.err = 0 ∧ (Zu2 ⟨b, 0, 0, 0⟩).2.pos = b.length then ((Zu2 ⟨b, 0, 0, 0⟩).1, 0) else (zeroC, 2)
theorem decC_yes {b : List UInt8} {c : Cmd} {s : RS} (h : Zc6 ⟨b, 0, 0, 0⟩ = (c, s)) (he : s.ends = 0) (hp : s.pos ≤ s.data.length) (hd : s.data = b) : decC b = (c, 0) := by
 unfold RS.ends at he
 split at he
 · cases he
 · rename_i hn
   have e := rdCmdA_eq (s := ⟨b, 0, 0, 0⟩) (by rw [h]; exact he)
   unfold decC
   rw [← e, h]
   have : s.pos = b.length := by rw [← hd]; omega
   rw [if_pos ⟨he, this⟩]
theorem decC_no {b : List UInt8} {c : Cmd} {s : RS} (h : Zc6 ⟨b, 0, 0, 0⟩ = (c, s)) (he : ¬ s.ends = 0) (hd : s.data = b) : decC b = (zeroC, 2) := by
 have e : (Zu2 ⟨b, 0, 0, 0⟩).2 = s := by rw [← rdCmdA_snd, h]
 unfold decC
 rw [e, if_neg]
 rintro ⟨h1, h2⟩
 apply he
 unfold RS.ends
 rw [if_neg (by rw [hd]; omega)]; exact h1
theorem newR_ok (b : List UInt8) : RS.Ok ⟨b, 0, 0, 0⟩ := ⟨Zl _, Zh _, .inl rfl⟩
theorem decC_enc {c : Cmd} (hc : c.Ok) : decC (encC c) = (c, 0) := by
 have hl := Zh2 c hc
 obtain ⟨s', e, o, t⟩ := rds_cmd hc ⟨encC c, 0, 0, 0⟩ [] (newR_ok _) rfl (by show (encC c).length < _; omega) (by simp)
 have hd : s'.data = encC c := t.data
 have hp : s'.pos = (encC c).length := by
  have h2 := Wx t (r := []) (by simp)
  have h3 := congrArg List.length h2
  have h4 := o.pos
  rw [Zs, hd] at h3
  rw [hd] at h4
  simp at h3; omega
 unfold decC
 rw [e]
 simp only
 rw [if_pos ⟨t.err.2, hp⟩]
end
section
theorem J6 {h : List Ob} {i : Nat} {ob : Ob} : (h.set i ob).take h.length = h.set i ob := Zi (by simp)
theorem take_set_app {h l : List Ob} {i : Nat} {ob : Ob} : (h.set i ob ++ l).take h.length = h.set i ob := by rw [Zf (by simp)]; exact J6
theorem endS {res : Array ResultVar} {h0 : List Ob} {K : List Ob → D → Prop} {s : S} {ds : List D} {r : D} {i : Nat} {ob : Ob} (hl : lowH h0.length h0) (ho : Zl8 h0.length ob) (h1 : resD Za s res.toList = some ds) (h2 : s.h.take h0.length = h0.set i ob) (h4 : h0.length ≤ s.h.length)
 (h3 : cvD (fun i => decide (h0.length ≤ i)) s.h (outD ds) = r) (h5 : low h0.length r) (hK : K (h0.set i ob) r) : EndD Za res h0.length K s := ⟨ds, h0.length, h1, Zh _, h4, by rw [h2]; exact lowH_set hl ho, by rw [h3]; exact h5, by rw [h2, h3]; exact hK⟩
def Yj (s : RS) : Ob := .cells [.sl 1 (byD s.data), .v (.int .i64 s.pos), .v (.int .i64 s.item), .v (.int .i64 s.err)]
theorem U8 (s : RS) : Yj s = .cells [.sl 1 (byD s.data), .v (.int .i64 s.pos), .v (.int .i64 s.item), .v (.int .i64 s.err)] := rfl
theorem Wb (m : Nat) (s : RS) : Zl8 m (Yj s) := ⟨Yb m _, by simp [lowL, low]⟩
def rawJ (p i acc : Nat) : List UInt8 → D
 | [] => .tup [.v (.int .u64 (0 : Int)), .v (.int .i64 (0 : Int)), .v (.bool false)]
 | b :: t => if 10 ≤ i then .tup [.v (.int .u64 (0 : Int)), .v (.int .i64 (0 : Int)), .v (.bool false)]
   else if i = 9 ∧ 1 < b.toNat then .tup [.v (.int .u64 (0 : Int)), .v (.int .i64 (0 : Int)), .v (.bool false)]
   else if b.toNat < 128 then .tup [.v (.int .u64 ((acc + b.toNat % 128 * 2 ^ (7 * i) : Nat) : Int)), .v (.int .i64 ((p + i + 1 : Nat) : Int)), .v (.bool (decide (b.toNat ≠ 0 ∨ i = 0)))]
   else rawJ p (i + 1) (acc + b.toNat % 128 * 2 ^ (7 * i)) t
def RS.rawN (s : RS) : D := rawJ s.pos 0 0 (s.data.drop s.pos)
theorem Zq7 (p : Nat) : ∀ (l : List UInt8) (i acc : Nat), (match numF i l with
 | none => ∃ a b : Int, rawJ p i acc l = .tup [.v (.int .u64 a), .v (.int .i64 b), .v (.bool false)]
 | some (m, c) => rawJ p i acc l = .tup [.v (.int .u64 ((acc + m * 2 ^ (7 * i) : Nat) : Int)), .v (.int .i64 ((p + i + c : Nat) : Int)), .v (.bool true)])
 | [], i, acc => by rw [Ya5]; exact ⟨_, _, rfl⟩
 | b :: t, i, acc => by
  by_cases hi : 10 ≤ i
  · rw [numF_ge _ hi]; exact ⟨0, 0, by rw [rawJ, if_pos hi]⟩
  by_cases h9 : i = 9 ∧ 1 < b.toNat
  · rw [numF_big _ h9]; exact ⟨0, 0, by rw [rawJ, if_neg hi, if_pos h9]⟩
  by_cases hb : b.toNat < 128
  · rw [Zr2 t (by omega) h9 hb, rawJ, if_neg hi, if_neg h9, if_pos hb]
    by_cases hz : b.toNat = 0 ∧ i ≠ 0
    · rw [if_pos hz, decide_eq_false (by omega)]; exact ⟨_, _, rfl⟩
    · rw [if_neg hz, decide_eq_true (by omega), Nat.mod_eq_of_lt hb]
  · rw [Zr1 t (by omega) h9 hb, rawJ, if_neg hi, if_neg h9, if_neg hb]
    have ih := Zq7 p t (i + 1) (acc + b.toNat % 128 * 2 ^ (7 * i))
    rcases hr : numF (i + 1) t with _ | ⟨m, c⟩
    · rw [hr] at ih; exact ih
    · rw [hr] at ih
      simp only at ih ⊢
      rw [ih]
      have e1 : acc + b.toNat % 128 * 2 ^ (7 * i) + m * 2 ^ (7 * (i + 1)) = acc + (b.toNat % 128 + 128 * m) * 2 ^ (7 * i) := by
       rw [show 7 * (i + 1) = 7 + 7 * i by omega, Nat.pow_add, Nat.add_mul, Nat.add_assoc, show m * (2 ^ 7 * 2 ^ (7 * i)) = 128 * m * 2 ^ (7 * i) by rw [← Nat.mul_assoc, Nat.mul_comm m]]
      rw [e1, show p + (i + 1) + c = p + i + (c + 1) by omega]
theorem Zq6 {s : RS} (q : s.num = none) : ∃ a b : Int, s.rawN = .tup [.v (.int .u64 a), .v (.int .i64 b), .v (.bool false)] := by
 have h := Zq7 s.pos (s.data.drop s.pos) 0 0
 have q : numF 0 (s.data.drop s.pos) = none := q
 rw [q] at h; exact h
theorem Zq5 {s : RS} {n c : Nat} (q : s.num = some (n, c)) : s.rawN = .tup [.v (.int .u64 n), .v (.int .i64 ((s.pos : Int) + (c : Int))), .v (.bool true)] := by
 have h := Zq7 s.pos (s.data.drop s.pos) 0 0
 have q : numF 0 (s.data.drop s.pos) = some (n, c) := q
 rw [q] at h
 simpa [RS.rawN] using h
theorem and_byte : ∀ m : Fin 256, IntKind.u8.wrap ((BitVec.ofInt 8 (m.val : Int) &&& BitVec.ofInt 8 127).toNat : Int) = ((m.val % 128 : Nat) : Int) := by decide +kernel
theorem and_byte' (b : UInt8) : IntKind.u8.wrap ((BitVec.ofInt 8 (b.toNat : Int) &&& BitVec.ofInt 8 127).toNat : Int) = ((b.toNat % 128 : Nat) : Int) := and_byte ⟨b.toNat, b.toNat_lt⟩
theorem shl_step {acc b i : Nat} (ha : acc < 2 ^ (7 * i)) (hi : i < 10) (h9 : ¬ (i = 9 ∧ 1 < b)) (hb : b < 256) :
 b % 128 * 2 ^ (7 * i) < 18446744073709551616 ∧ acc < 18446744073709551616 ∧ acc + b % 128 * 2 ^ (7 * i) < 2 ^ (7 * (i + 1)) := by
 have e : 2 ^ (7 * (i + 1)) = 128 * 2 ^ (7 * i) := by rw [show 7 * (i + 1) = 7 + 7 * i by omega, Nat.pow_add]
 have h3 : b % 128 * 2 ^ (7 * i) ≤ 127 * 2 ^ (7 * i) := Nat.mul_le_mul_right _ (by omega)
 refine ⟨?_, ?_, by omega⟩
 · rcases Nat.lt_or_ge i 9 with h | h
   · have h1 : 2 ^ (7 * i) ≤ 2 ^ 56 := Nat.pow_le_pow_right (by omega) (by omega)
     omega
   · have : i = 9 := by omega
     subst this
     have h2 : b % 128 * 2 ^ (7 * 9) ≤ 1 * 2 ^ 63 := Nat.mul_le_mul (by omega) (Zh _)
     omega
 · have h1 : 2 ^ (7 * i) ≤ 2 ^ 63 := Nat.pow_le_pow_right (by omega) (by omega)
   omega
theorem shl_val {b i : Nat} (h : b % 128 * 2 ^ (7 * i) < 18446744073709551616) (hi : i < 10) : IntKind.u64.wrap (((b % 128 : Nat) : Int) * 2 ^ min (7 * i) 64) = ((b % 128 * 2 ^ (7 * i) : Nat) : Int) := by
 have e : ((b % 128 : Nat) : Int) * 2 ^ min (7 * i) 64 = ((b % 128 * 2 ^ (7 * i) : Nat) : Int) := by
  rw [Nat.min_eq_left (by omega), Int.natCast_mul, Int.natCast_pow]; rfl
 rw [e, IntKind.wrap_u64]; omega
theorem or_val {acc b i : Nat} (ha : acc < 2 ^ (7 * i)) (h1 : acc < 18446744073709551616) (h2 : b % 128 * 2 ^ (7 * i) < 18446744073709551616) : IntKind.u64.wrap ((BitVec.ofInt 64 (acc : Int) ||| BitVec.ofInt 64 ((b % 128 * 2 ^ (7 * i) : Nat) : Int)).toNat : Int) = ((acc + b % 128 * 2 ^ (7 * i) : Nat) : Int) := by
 have h := u64_or_nat acc (b % 128 * 2 ^ (7 * i)) h1 h2
 refine h.trans ?_
 rw [Nat.or_comm, Nat.mul_comm, ← Nat.two_pow_add_eq_or_of_lt ha, Nat.add_comm]
theorem num_val {acc i : Nat} {x : UInt8} (ha : acc < 2 ^ (7 * i)) (hi : i < 10) (h9 : ¬ (i = 9 ∧ 1 < x.toNat)) : IntKind.u64.wrap ((BitVec.ofInt 64 (acc : Int) ||| BitVec.ofInt 64 (IntKind.u64.wrap (IntKind.u64.wrap (IntKind.u8.wrap ((BitVec.ofInt 8 (x.toNat : Int) &&& BitVec.ofInt 8 127).toNat : Int)) * 2 ^ min (7 * i) 64))).toNat : Int) = ((acc + x.toNat % 128 * 2 ^ (7 * i) : Nat) : Int) := by
 obtain ⟨s1, s2, _⟩ := shl_step ha hi h9 x.toNat_lt
 have w8 : IntKind.u64.wrap ((x.toNat % 128 : Nat) : Int) = ((x.toNat % 128 : Nat) : Int) := by rw [IntKind.wrap_u64]; omega
 rw [and_byte', w8, shl_val s1 hi, or_val ha s2 s1]
end
section

end
section

end
section
attribute [local irreducible] on aOp
attribute [local go_sem] decide_true decide_false Ze Zd
attribute [local simp] byD_len
def rawU (p k acc : Nat) : Option (Nat × Nat) → D
 | none => .tup [.v (.int .u64 (0 : Int)), .v (.int .i64 p), .v (.bool false)]
 | some (m, c) => .tup [.v (.int .u64 ((acc + m * 2 ^ (7 * k) : Nat) : Int)), .v (.int .i64 ((p + k + c : Nat) : Int)), .v (.bool true)]
def rawD (l : List UInt8) (p : Nat) : D := rawU p 0 0 (numF 0 (l.drop p))
variable (G : Nat → D) (hG : ∀ g, low 0 (G g))
include hG
end
section
attribute [local irreducible] on aOp
attribute [local go_sem] decide_true decide_false Ze Zd
variable (G : Nat → D) (hG : ∀ g, low 0 (G g))
def inOb (s : RS) : Ob := .cells [.sl 1 (byD s.data), .v (.int .i64 s.pos), .v (.int .i64 s.item), .v (.bool (decide (s.err ≠ 0)))]
include hG
end
section
attribute [local irreducible] on aOp
attribute [local go_sem] decide_true decide_false Ze Zd
variable (G : Nat → D) (hG : ∀ g, low 0 (G g))
include hG
end
section
attribute [local irreducible] on aOp
attribute [local go_sem] decide_true decide_false Ze Zd
variable (G : Nat → D) (hG : ∀ g, low 0 (G g))
include hG
end
section
attribute [local irreducible] on aOp
attribute [local go_sem] decide_true decide_false Ze Zd
variable (G : Nat → D) (hG : ∀ g, low 0 (G g))
include hG
end
section
variable {P : Program} {G : Nat → D} {h : List Ob} {f : FuncId} {args : List D}
theorem Does.drop {K K' : List Ob → D → Prop} (hG : ∀ g, low 0 (G g)) (q : Does P G f h args K) (k : ∀ h' r, K h' r → ∃ m, h.length ≤ m ∧ m ≤ h'.length ∧ lowH m (h'.take m) ∧ low m (cvD (fun i => decide (m ≤ i)) h' r) ∧ K' (h'.take m) (cvD (fun i => decide (m ≤ i)) h' r)) : Does P G f h args K' := fun w hd p vs o ha => by
 refine (q w hd p vs o ha).mono ?_
 rintro e w' ⟨v, hd', h', r, p', rfl, hK, ok, hr, ev⟩
 obtain ⟨m, h2, h3, h4, h5, h6⟩ := k _ _ hK
 obtain ⟨p2, o2, ev2, cv⟩ := ok.give fun i => decide (m ≤ i)
 have htk : (Zd9 (fun i => decide (m ≤ i)) h').take m = h'.take m := by
  apply Zq
  intro i
  rw [Zn, Zn]
  split
  · rename_i hi
    unfold Zd9
    rw [List.getElem?_mapIdx]
    cases h'[i]? with
    | none => rfl
    | some ob => simp [show ¬ m ≤ i by omega]
  · rfl
 have hlk : (Zd9 (fun i => decide (m ≤ i)) h').length = h'.length := by simp [Zd9]
 have o3 := o2.take (m := m) (by rw [htk]; exact h4) fun g => Zm8 (Zl _) _ (hG g)
 have ev3 := (ev.trans ev2).take o h2 (by rw [hlk]; exact h3)
 have q3 := Zp9 (m := m) (by rw [hlk, ok.len]) _ _ h5 (cv _ _ hr)
 rw [htk] at o3 ev3 q3
 exact ⟨v, _, _, _, p2, rfl, h6, o3, q3, ev3⟩
theorem does_new (hG : ∀ g, low 0 (G g)) {e n : Nat} {l : List UInt8} (la : lowL 0 args) (q : Does P G f [] args (fun h' r => h' = [.buf e 1 (byD l)] ∧ r = .buf 0 n)) (h : List Ob) : Does P G f h args (fun h' r => h' = h ++ [.buf e 1 (byD l)] ∧ r = .buf h.length n) := by
 refine Does.holes 1 ?_
 have L : Lies (fun _ => h.length) [] (h ++ holes 1) := ⟨fun i ob q => by simp at q, fun i j q => by simp at q, fun ob q => by simp at q⟩
 have F := Does.frame hG L (args := args) la (K1 := fun h' r => h' = [.buf e 1 (byD l)] ∧ r = .buf 0 n) (by
  rintro _ _ ⟨rfl, _⟩
  refine ⟨fun i j hi hj _ => by simp at hi hj; omega, fun j _ hj => ?_⟩
  simp [holes]) q
 rw [Yt _ _ la] at F
 refine F.mono ?_
 rintro _ _ ⟨_, _, ⟨rfl, rfl⟩, rfl, rfl⟩
 simp [plc, Xv, Zp7, ren, holes]
theorem Zs7 (hG : ∀ g, low 0 (G g)) {e n : Nat} {l : List UInt8} (la : lowL 0 args) (hn : n = l.length) (q : Does P G f [] args (fun h' r => h' = [.buf e 1 (byD l)] ∧ r = .buf 0 n)) (h : List Ob) : Does P G f h args (fun h' r => h' = h ∧ r = .sl 1 (byD l)) := by
 subst hn
 refine Yf G hG la (Yb _ _) (q.drop hG ?_) h
 rintro _ _ ⟨rfl, rfl⟩
 refine ⟨0, Zh _, Zl _, fun x hx => by simp at hx, ?_, ?_⟩
 · simp [cvD, cv1, byD_len, Yb]
 · simp [cvD, cv1, byD_len]
end
section
def w32 (z : Int) : Int := IntKind.u32.wrap z
def Xw (a b : Int) : Int := IntKind.u32.wrap (a + b)
def Zn5 (a b : Int) : Int := IntKind.u32.wrap ((BitVec.ofInt 32 a ^^^ BitVec.ofInt 32 b).toNat : Int)
def and32 (a b : Int) : Int := IntKind.u32.wrap ((BitVec.ofInt 32 a &&& BitVec.ofInt 32 b).toNat : Int)
def or32 (a b : Int) : Int := IntKind.u32.wrap ((BitVec.ofInt 32 a ||| BitVec.ofInt 32 b).toNat : Int)
def not32 (a : Int) : Int := IntKind.u32.wrap ((BitVec.ofInt 32 4294967295 ^^^ BitVec.ofInt 32 a).toNat : Int)
def shr32 (a : Int) (n : Nat) : Int := a.fdiv (2 ^ n)
def shl32 (a : Int) (n : Nat) : Int := IntKind.u32.wrap (a * 2 ^ n)
def Zf0 (x : Int) (n : Nat) : Int := or32 (x.fdiv (2 ^ min n 32)) (IntKind.u32.wrap (x * 2 ^ min (32 - n) 32))
theorem wrap32 (z : Int) : IntKind.u32.wrap z = z % 4294967296 := by simp [IntKind.wrap, IntKind.bits, IntKind.signed]
theorem add32_assoc (a b c : Int) : Xw (Xw a b) c = Xw a (Xw b c) := by
 unfold Xw; simp only [wrap32]; omega
def zD (z : Int) : D := .v (.int .u32 z)
def be4 (a b c d : UInt8) : Int := or32 (or32 (or32 (shl32 (w32 a.toNat) 24) (shl32 (w32 b.toNat) 16)) (shl32 (w32 c.toNat) 8)) (w32 d.toNat)
def sgZ (x15 x2 x7 x16 : Int) : Int :=
 Xw (Xw (Xw (Zn5 (Zn5 (Zf0 x2 17) (Zf0 x2 19)) (shr32 x2 10)) x7) (Zn5 (Zn5 (Zf0 x15 7) (Zf0 x15 18)) (shr32 x15 3))) x16
structure W8 where
 a : Int
 b : Int
 c : Int
 d : Int
 e : Int
 f : Int
 g : Int
 h : Int
def W8.ls (x : W8) : List Int := [x.a, x.b, x.c, x.d, x.e, x.f, x.g, x.h]
def W8.add (x y : W8) : W8 := ⟨Xw x.a y.a, Xw x.b y.b, Xw x.c y.c, Xw x.d y.d, Xw x.e y.e, Xw x.f y.f, Xw x.g y.g, Xw x.h y.h⟩
def t1Z (u : W8) (k w : Int) : Int := Xw (Xw (Xw (Xw u.h (Zn5 (Zn5 (Zf0 u.e 6) (Zf0 u.e 11)) (Zf0 u.e 25))) (Zn5 (and32 u.e u.f) (and32 (not32 u.e) u.g))) k) w
def s0Z (u : W8) : Int := Zn5 (Zn5 (Zf0 u.a 2) (Zf0 u.a 13)) (Zf0 u.a 22)
def majZ (u : W8) : Int := Zn5 (Zn5 (and32 u.a u.b) (and32 u.a u.c)) (and32 u.b u.c)
def rndZ (k w : Int) (u : W8) : W8 := ⟨Xw (t1Z u k w) (Xw (s0Z u) (majZ u)), u.a, u.b, u.c, Xw u.d (t1Z u k w), u.e, u.f, u.g⟩
def sch1 (b : List UInt8) : Nat → List Int → List Int
 | 0, W => W
 | n + 1, W => sch1 b n (W.set (15 - n) (be4 (b.getD (4 * (15 - n)) 0) (b.getD (4 * (15 - n) + 1) 0) (b.getD (4 * (15 - n) + 2) 0) (b.getD (4 * (15 - n) + 3) 0)))
def sch2 : Nat → List Int → List Int
 | 0, W => W
 | n + 1, W => sch2 n (W.set (63 - n) (sgZ (W.getD (63 - n - 15) 0) (W.getD (63 - n - 2) 0) (W.getD (63 - n - 7) 0) (W.getD (63 - n - 16) 0)))
def Zd2 (K W : List Int) : Nat → W8 → W8
 | 0, u => u
 | n + 1, u => Zd2 K W n (rndZ (K.getD (63 - n) 0) (W.getD (63 - n) 0) u)
def shaK : List Int := [0x428a2f98, 0x71374491, 0xb5c0fbcf, 0xe9b5dba5, 0x3956c25b, 0x59f111f1, 0x923f82a4, 0xab1c5ed5,
 0xd807aa98, 0x12835b01, 0x243185be, 0x550c7dc3, 0x72be5d74, 0x80deb1fe, 0x9bdc06a7, 0xc19bf174,
 0xe49b69c1, 0xefbe4786, 0x0fc19dc6, 0x240ca1cc, 0x2de92c6f, 0x4a7484aa, 0x5cb0a9dc, 0x76f988da,
 0x983e5152, 0xa831c66d, 0xb00327c8, 0xbf597fc7, 0xc6e00bf3, 0xd5a79147, 0x06ca6351, 0x14292967,
 0x27b70a85, 0x2e1b2138, 0x4d2c6dfc, 0x53380d13, 0x650a7354, 0x766a0abb, 0x81c2c92e, 0x92722c85,
 0xa2bfe8a1, 0xa81a664b, 0xc24b8b70, 0xc76c51a3, 0xd192e819, 0xd6990624, 0xf40e3585, 0x106aa070,
 0x19a4c116, 0x1e376c08, 0x2748774c, 0x34b0bcb5, 0x391c0cb3, 0x4ed8aa4a, 0x5b9cca4f, 0x682e6ff3,
 0x748f82ee, 0x78a5636f, 0x84c87814, 0x8cc70208, 0x90befffa, 0xa4506ceb, 0xbef9a3f7, 0xc67178f2]
def J8 : W8 := ⟨0x6a09e667, 0xbb67ae85, 0x3c6ef372, 0xa54ff53a, 0x510e527f, 0x9b05688c, 0x1f83d9ab, 0x5be0cd19⟩
def schZ (b : List UInt8) : List Int := sch2 48 (sch1 b 16 (Zj 64 0))
def blkZ (v : W8) (b : List UInt8) : W8 := (Zd2 shaK (schZ b) 64 v).add v
def Wt (v : W8) (l : List UInt8) : W8 := if l.length < 64 then v else Wt (blkZ v (l.take 64)) (l.drop 64)
termination_by l.length
decreasing_by simp; omega
def zc (m : Nat) : Nat := (119 - m % 64) % 64
def be8 (n : Nat) : List UInt8 := (List.range 8).map fun j => UInt8.ofNat (n / 2 ^ (56 - 8 * j))
def padZ (b : List UInt8) (n : Nat) : List UInt8 := b ++ [128] ++ Zj (zc b.length) 0 ++ be8 (8 * n)
def byZ (z : Int) : UInt8 := UInt8.ofNat (IntKind.u8.wrap z).toNat
def outW (z : Int) : List UInt8 := [byZ (z.fdiv (2 ^ 24)), byZ (z.fdiv (2 ^ 16)), byZ (z.fdiv (2 ^ 8)), byZ z]
def outZ (v : W8) : List UInt8 := (v.ls.map outW).flatten
def sumZ (b : List UInt8) : List UInt8 := outZ (Wt J8 (padZ b b.length))
theorem W3 (b : List UInt8) : (sumZ b).length = 32 := rfl
theorem Zx6 (z : Int) : IntKind.u8.wrap z = z % 256 := by simp [IntKind.wrap, IntKind.bits, IntKind.signed]
theorem byZ_eq (z : Int) : ((byZ z).toNat : Int) = IntKind.u8.wrap z := by
 unfold byZ; rw [Zx6]; simp; omega
theorem Zh5 {v : W8} {l : List UInt8} (h : l.length < 64) : Wt v l = v := by rw [Wt, if_pos h]
theorem Zh6 {v : W8} {l : List UInt8} (h : 64 ≤ l.length) : Wt v l = Wt (blkZ v (l.take 64)) (l.drop 64) := by rw [Wt, if_neg (by omega)]
theorem Zt4 : ∀ (n : Nat) (v : W8) (x y : List UInt8), x.length = 64 * n → Wt v (x ++ y) = Wt (Wt v x) y
 | 0, v, x, y, h => by
   obtain rfl : x = [] := Z9 (by omega)
   rw [Zh5 (l := []) (by simp)]; rfl
 | n + 1, v, x, y, h => by
   rw [Zh6 (l := x ++ y) (by simp; omega), Zh6 (l := x) (by omega), Zf (by omega), List.drop_append_of_le_length (by omega)]
   exact Zt4 n _ _ _ (by simp; omega)
def U3 (b : List UInt8) : List UInt8 := b.drop (64 * (b.length / 64))
theorem sumZ_cut (b : List UInt8) : sumZ b = outZ (Wt (Wt J8 b) (padZ (U3 b) b.length)) := by
 unfold sumZ
 have e : padZ b b.length = b.take (64 * (b.length / 64)) ++ padZ (U3 b) b.length := by
  unfold padZ
  have hz : zc b.length = zc (U3 b).length := by unfold zc U3; rw [Zs]; congr 2; omega
  rw [hz, ← Zb, ← Zb, ← Zb]
  congr 3
  exact (List.take_append_drop _ _).symm
 have e2 : Wt J8 b = Wt J8 (b.take (64 * (b.length / 64))) := by
  conv => lhs; rw [← List.take_append_drop (64 * (b.length / 64)) b]
  rw [Zt4 (b.length / 64) _ _ _ (by simp; omega)]
  exact Zh5 (by simp; omega)
 rw [e, Zt4 (b.length / 64) _ _ _ (by simp; omega), e2]
/-! Keyed digests. -/
def keyZ (k : List UInt8) : List UInt8 := let k' := if 64 < k.length then sumZ k else k
 k' ++ Zj (64 - k'.length) 0
def xorB (x : UInt8) (k : List UInt8) : List UInt8 := k.map (· ^^^ x)
def tagZ (k m : List UInt8) : List UInt8 := sumZ (xorB 0x5c (keyZ k) ++ sumZ (xorB 0x36 (keyZ k) ++ m))
theorem tagZ_len (k m : List UInt8) : (tagZ k m).length = 32 := rfl
theorem Zm9 (k : List UInt8) : (keyZ k).length = 64 := by
 unfold keyZ
 split
 · rfl
 · simp; omega
attribute [irreducible] schZ Zd2 blkZ sumZ tagZ
end
section
variable {P : Program} {G : Nat → D} {n : Nat} {e : Nat → D} {h : List Ob} {ops : Array Oper} {rest : List Oper} {Q : S → Prop}
theorem tri_soundE {B : Base} {a : Act} {w : World} {o : Oper} {K : Act → World → Prop} {KD : List Ob → D → Prop} {R : Exit → Act → World → Prop} (q : OpTri P G o ((opds o.op).map (ev G e)) h KD) (r : Sit G B ⟨n, e, h⟩ a w) (k : ∀ h' d, KD h' d → ∀ a' w', Sit G B ⟨n, putE n e o.dst d, h'⟩ a' w' → K a' w') : o.wp P a w K R := by
 obtain ⟨hd, p, r⟩ := r
 refine Oper.wp_mono ?_ (q a w hd p R r.defers r.ok (Zj0 r _))
 rintro a' w' ⟨v, rfl, hd', h'', d', p', hk, o', q', ev'⟩
 have := r.put o' ev' q' o.dst
 rw [Ua] at this
 exact k _ _ hk _ _ ⟨hd', p', this⟩
theorem ao_ex {o : Oper} {KD : List Ob → D → Prop} (hw : Yc ops o.guard e = some true) (q : OpTri P G o ((opds o.op).map (ev G e)) h KD) (k : ∀ h' d, KD h' d → ao P G ops rest Q ⟨n, putE n e o.dst d, h'⟩) : ao P G ops (o :: rest) Q ⟨n, e, h⟩ := by
 rintro B a w r R hR
 obtain ⟨hd, p, r'⟩ := id r
 unfold wpList
 rw [if_pos (Yu (o := o) r' hw)]
 exact .inl (tri_soundE q r fun h' d hk a' w' r2 => k h' d hk B a' w' r2 R hR)
end
section
section
variable {P : Program} {G : Nat → D} {n m0 : Nat} {e : Nat → D} {h : List Ob} {ops : Array Oper} {rest : List Oper} {Q : (Nat → D) → List Ob → Prop} {done : List Eff} {t : Nat} {ty : TypeId} {pos : String} {aft : Array Edge} {gd : Option (Nat × Bool)}
end
end
section
theorem Jd {W : List Int} {k : Nat} {z : Int} (h : k < W.length) : putL (W.map zD) k [zD z] = (W.set k z).map zD := by
 apply Zq
 intro i
 rw [Zf7 (by simp; omega), Zg, Zg, List.getElem?_set]
 by_cases hi : i = k
 · subst hi; simp [h]
 · rw [if_neg (by simp; omega), if_neg (fun e => hi e.symm)]
theorem Ve {P : Program} {G : Nat → D} {e : Nat → D} {h : List Ob} {K : List Ob → D → Prop} {u : TypeId} {x y : Operand} {i o k l el : Nat} {κ : IntKind} (hx : ev G e x = .ptr i o) (hy : ev G e y = .v (.int κ (k : Int))) (ha : arrT P u = some (l, el)) (hz : szT P el = some 1) (hk : k < l) (q : K h (.ptr i (o + k))) : aOp P G e h K (.indexAddr u x y) := by
 rw [aOp_iaddr, hx, hy]
 exact ⟨l, el, 1, ha, hz, by omega, by omega, by simpa using q⟩
theorem Yy {P : Program} {G : Nat → D} {e : Nat → D} {h : List Ob} {K : List Ob → D → Prop} {u : TypeId} {x : Operand} {i o : Nat} {ds : List D} {d : D} (hx : ev G e x = .ptr i o) (hi : h[i]? = some (.cells ds)) (hg : getD P u ds o = some d) (q : K h d) : aOp P G e h K (.load u x) := by
 rw [aOp_load, hx]
 simp only [U4, hi, hg]
 rw [on_some]; exact q
theorem Ze1 {P : Program} {u k : Nat} {W : List Int} {x : Int} (ha : aggT P u = some false) (hx : W[k]? = some x) : getD P u (W.map zD) (0 + k) = some (.v (.int .u32 x)) := by
 rw [getD_one ha, Nat.zero_add, Zg, hx]; rfl
theorem putL_set0 {W : List Int} {k : Nat} {z : Int} (h : k < W.length) : putL (W.map zD) (0 + k) [.v (.int .u32 z)] = (W.set k z).map zD := by
 rw [Nat.zero_add]; exact Jd h
theorem Zn4 {P : Program} {G : Nat → D} {e : Nat → D} {h : List Ob} {K : List Ob → D → Prop} {u : TypeId} {x y : Operand} {i o l el : Nat} {κ : IntKind} {z : Int} (hx : ev G e x = .ptr i o) (hy : ev G e y = .v (.int κ z)) (ha : arrT P u = some (l, el)) (hz : szT P el = some 1) (h0 : 0 ≤ z) (hk : z < (l : Int)) (q : K h (.ptr i (o + z.toNat))) : aOp P G e h K (.indexAddr u x y) := by
 rw [aOp_iaddr, hx, hy]
 exact ⟨l, el, 1, ha, hz, h0, hk, by simpa using q⟩
theorem aOp_irp {P : Program} {G : Nat → D} {e : Nat → D} {h : List Ob} {K : List Ob → D → Prop} {u : TypeId} {x y : Operand} {ds : List D} {k l el : Nat} {κ : IntKind} (hx : ev G e x = .rp ds) (hy : ev G e y = .v (.int κ (k : Int))) (ha : arrT P u = some (l, el)) (hz : szT P el = some 1) (hk : k < l) (q : K h (.rp (ds.drop k))) : aOp P G e h K (.indexAddr u x y) := by
 rw [aOp_iaddr, hx, hy]
 exact ⟨l, el, 1, ha, hz, by omega, by omega, by simpa using q⟩
theorem aOp_lrp {P : Program} {G : Nat → D} {e : Nat → D} {h : List Ob} {K : List Ob → D → Prop} {u : TypeId} {x : Operand} {ds : List D} {d : D} (hx : ev G e x = .rp ds) (hg : getD P u ds 0 = some d) (q : K h d) : aOp P G e h K (.load u x) := by
 rw [aOp_load, hx, loadD_rp, hg, on_some]; exact q
theorem getD_zd {P : Program} {u k : Nat} {W : List Int} {x : Int} (ha : aggT P u = some false) (hx : W[k]? = some x) : getD P u ((W.map zD).drop k) 0 = some (.v (.int .u32 x)) := by
 rw [getD_one ha, List.getElem?_drop, Nat.add_zero, Zg, hx]; rfl
theorem Jk {P : Program} {u : TypeId} {v : W8} (ha : aggT P u = some true) (hs : szT P u = some 8) : getD P u (v.ls.map zD) 0 = some (.agg (v.ls.map zD)) := by
 rw [Yb4 ha hs (Zh _)]; rfl
theorem Yd3 {P : Program} {G : Nat → D} {e : Nat → D} {h : List Ob} {K : List Ob → D → Prop} {u : TypeId} {x y : Operand} {i : Nat} {ds es : List D} (hx : ev G e x = .ptr i 0) (hi : h[i]? = some (.cells ds)) (hy : ev G e y = .agg es) (hc : (es.all D.one && szT P u == some es.length) = true) (hl : es.length = ds.length) (q : K (h.set i (.cells es)) (.v undef)) : aOp P G e h K (.store u x y) := by
 rw [aOp_store, hx, hy]
 have e1 : Vk P h u (.ptr i 0) (.agg es) = some (h.set i (.cells es)) := by
  simp only [Vk, D.cells, hi, hc, if_true]
  rw [if_pos (by omega)]
  congr 3
  simp [putL, hl]
 rw [e1]; exact q
theorem aOp_lz {P : Program} {G : Nat → D} {e : Nat → D} {h : List Ob} {K : List Ob → D → Prop} {u : TypeId} {x : Operand} {i o : Nat} {ds : List D} {z : Int} (hx : ev G e x = .ptr i o) (hi : h[i]? = some (.cells ds)) (hg : getD P u ds o = some (zD z)) (q : K h (.v (.int .u32 z))) : aOp P G e h K (.load u x) := Yy hx hi hg q
theorem aOp_unx {P : Program} {G : Nat → D} {e : Nat → D} {h : List Ob} {K : List Ob → D → Prop} {u : TypeId} {x : Operand} {z : Int} (hx : ev G e x = .v (.int .u32 z)) (q : K h (.v (.int .u32 (not32 z)))) : aOp P G e h K (.unOp .xor u x) := by
 have e1 : aOp P G e h K (.unOp .xor u x) = on (unD P .xor (ev G e x)) (K h) := rfl
 rw [e1, hx]
 exact q
theorem cv1_zs (S : Nat → Bool) (h : List Ob) : ∀ l : List Int, (l.map zD).map (cv1 S h) = l.map zD
 | [] => rfl
 | a :: l => by rw [Zk, Zk, cv1_zs S h l]; rfl
theorem cvD_zs (S : Nat → Bool) (h : List Ob) (l : List Int) : cvD S h (.agg (l.map zD)) = .agg (l.map zD) := by
 simp only [cvD, cv1_zs]
theorem Zi9 {P : Program} {s : S} {c t i o : Nat} {ds : List D} {d : D} (hx : s.env c = .ptr i o) (hi : s.h[i]? = some (.cells ds)) (hg : getD P t ds o = some d) : resD P s [.cell c t] = some [d] := by
 simp [resD, hx, U4, hi, hg]
theorem all_zs : ∀ l : List Int, (l.map zD).all D.one = true
 | [] => rfl
 | a :: l => by rw [Zk, List.all_cons, all_zs l]; rfl
theorem Ze4 {P : Program} {G : Nat → D} {e : Nat → D} {h : List Ob} {K : List Ob → D → Prop} {u : TypeId} {x y : Operand} {i : Nat} {ds : List D} {v : W8} (hx : ev G e x = .ptr i 0) (hi : h[i]? = some (.cells ds)) (hy : ev G e y = .agg (v.ls.map zD)) (hs : szT P u = some 8) (hl : ds.length = 8) (q : K (h.set i (.cells (v.ls.map zD))) (.v undef)) : aOp P G e h K (.store u x y) :=
 Yd3 hx hi hy (by rw [all_zs, hs]; rfl) (by rw [hl]; rfl) q
def addJ (V : List Int) : Nat → List Int → List Int
 | 0, U => U
 | n + 1, U => addJ V n (U.set (7 - n) (Xw (U.getD (7 - n) 0) (V.getD (7 - n) 0)))
theorem addJ_eq (u v : W8) : addJ v.ls 8 u.ls = (u.add v).ls := rfl
theorem low_zs (m : Nat) : ∀ l : List Int, lowL m (l.map zD)
 | [] => by rw [List.map_nil, lowL]; trivial
 | a :: l => by rw [Zk, lowL]; exact ⟨by rw [zD, low]; trivial, low_zs m l⟩
theorem Zl0 (m : Nat) (v : W8) : low m (.agg (v.ls.map zD)) := by rw [low]; exact low_zs m _
end
section
section
variable {P : Program} {G : Nat → D} {n : Nat} {e : Nat → D} {h : List Ob} {ops : Array Oper} {rest : List Oper} {Q : S → Prop} {t : Nat} {ty : TypeId} {pos : String} {aft : Array Edge} {gd : Option (Nat × Bool)}
theorem ao_make {u el k by' : Nat} {x y : Operand} {m : Nat} {zs : List D} (hw : Yc ops gd e = some true) (ht : decide (t < n) = true) (hx : ev G e x = .v (.int .i64 m)) (hy : ev G e y = .v (.int .i64 m)) (ha : apT P u = some (el, k, by')) (hz : Xs P el = some zs) (hk : zs.length = k) (hb : (by' : Int) * m ≤ 281474976710656) (hm : m ≤ 1000000)
 (q : ao P G ops rest Q ⟨n, upd e t (.buf h.length m), h ++ [.buf el k (Zj m zs)]⟩) : ao P G ops (⟨some t, .makeSlice u x y, ty, pos, aft, gd⟩ :: rest) Q ⟨n, e, h⟩ := by
 have hN : nF P G e h (.makeSlice u x y) = some (h ++ [.buf el k (Zj m zs)], .buf h.length m) := by
  show makF P h u (ev G e x) (ev G e y) = _
  rw [hx, hy]
  have c1 : decide ((0 : Int) ≤ (m : Int)) = true := decide_eq_true (by omega)
  have c2 : decide ((m : Int) ≤ (m : Int)) = true := decide_eq_true (by omega)
  have c3 : decide ((by' : Int) * (m : Int) ≤ 281474976710656) = true := decide_eq_true hb
  have c4 : decide ((m : Int) ≤ 281474976710656) = true := decide_eq_true (by omega)
  have c5 : decide (zs.length = k) = true := decide_eq_true hk
  simp only [makF, ha, hz, c1, c2, c3, c4, c5, Bool.and_self, cond_true, Zp]
 refine Zx3 hw (Zg3 hN) ?_
 unfold putE
 simp only [if_pos (of_decide_eq_true ht)]
 exact q
end
end
section
section
variable {P : Program} {G : Nat → D} {e : Nat → D} {h : List Ob}
theorem sl_news {k : Nat} {W : World} {hd : List Value} {ys : List (List D)} {u : Value} (q : rd hd h W (.sl k ys) u) : ∃ ad cap news, u = .slice ad ys.length cap ∧ (ad = none → cap = 0 ∧ ys = []) ∧ rdL hd h W ys.flatten news ∧ news.length = ys.length * k ∧ ys.length ≤ cap ∧ ∀ a, ad = some a → ys ≠ [] → a.spot = none ∧ ∀ (j : Nat) v, news[j]? = some v → W.cell? ⟨a.block, a.off + j, none⟩ = some v := by
 rw [rd] at q
 obtain ⟨ad, cap, rfl, ⟨h1, h1'⟩, h2, h3⟩ := q
 obtain ⟨news, n1, n2, n3⟩ := Zp4 ad ys 0 h3
 refine ⟨ad, cap, news, rfl, fun h => ⟨h1 h, Z9 (by have := h1 h; omega)⟩, n1, n2, h1', fun a ha hne => ?_⟩
 subst ha
 cases ys with
 | nil => exact absurd rfl hne
 | cons row t =>
  rw [X5] at h3
  obtain ⟨⟨b, q0, e, _⟩, _⟩ := h3
  cases e
  exact ⟨rfl, fun j v hj => by have := n3 b q0 rfl j v hj; simpa using this⟩
theorem Yd2 {a : Addr} (h : a.spot = none) (n : Nat) : a.add n = ⟨a.block, a.off + n, none⟩ := by
 unfold Addr.add
 split
 · rename_i h0; subst h0; cases a; simp_all
 · rfl
theorem tri_cpArr {dst : Option Nat} {t u ty : TypeId} {x y : Operand} {pos : String} {aft : Array Edge} {gd : Option (Nat × Bool)} {i o n c : Nat} {ds : List D} {ys : List (List D)}
 (hx : ev G e x = .arr i o n c 1) (hy : ev G e y = .sl 1 ys) (he : (elT P t).bind (szT P) = some 1) (hi : h[i]? = some (.cells ds)) (hn : ys.length ≤ n) (hf : o + n ≤ ds.length) (ho : X9 1 ys) :
 OpTri P G ⟨dst, .call ⟨.builtin .copy, #[x, y], #[t, u]⟩, ty, pos, aft, gd⟩ ((opds (.call ⟨.builtin .copy, #[x, y], #[t, u]⟩)).map (ev G e)) h (fun h' r => h' = h.set i (.cells (putL ds o ys.flatten)) ∧ r = .v (.int .i64 ys.length)) :=
 Xu fun a w hd p ok ha => by
 have hox : opds (.call ⟨.builtin .copy, #[x, y], #[t, u]⟩) = [x, y] := by simp [opds, Op.operands, Call.operands]
 have q1 := ha x (by rw [hox]; simp)
 have q2 := ha y (by rw [hox]; simp)
 rw [hx, rd] at q1
 obtain ⟨B, hB, e1⟩ := q1
 rw [hy] at q2
 obtain ⟨ad, cap, news, e2, g1, g2, g3, g4, g5⟩ := sl_news q2
 obtain ⟨B', cs, tt, hB', o2, o3, o4⟩ := ok.ob i _ _ hi hB
 cases hB'
 obtain ⟨el, h1, h2⟩ := Jn he
 have hu := Vr h1
 have hs : (P.info? el).map (·.size) = some 1 := by
  unfold szT at h2; exact h2
 have hl3 : ds.length = cs.size := by simpa using Xz o3
 have hnl : news.length = ys.length := by omega
 have ones := Va ho
 have hones := U9 g2 ones
 have hfl : ys.flatten.length = ys.length := by rw [Xz g2, hnl]
 have res := ok.repl (w' := w.setRow B (putL cs.toList o news).toArray) (ob' := .cells (putL ds o ys.flatten)) (u' := .pointer (some ⟨B, 0, none⟩)) hi hB rfl Ye.1 Ye.2.1 Ye.2.2.1 (Nat.le_of_eq Ye.2.2.2.1.symm) (fun b _ hb => Ye.2.2.2.2 b fun e => hb (by rw [e]; rfl)) (fun b hb => .inl hb) (fun _ _ => rfl) (fun _ _ _ e => by cases e) fun c sb => by
  exact ⟨B, _, tt, rfl, Za1 o2, Yw c sb _ _ (Zf6 o3 g2 o), by simp [o4]⟩
 rw [show hd.set i (Value.pointer (some ⟨B, 0, none⟩)) = hd.set i (Value.pointer (some ⟨B, 0, none⟩)) from rfl] at res
 refine ⟨goInt ys.length, _, .inl (?_ : (execOp a.eval _).run P w = .ok (.value (goInt ys.length)) (w.setRow B (putL cs.toList o news).toArray)), _, _, _, _, ⟨rfl, rfl⟩, res.1, by rw [rd]; rfl, res.2⟩
 have hrun : (Builtin.copy_ #[t, u] ty #[.slice (some ⟨B, o, none⟩) n c, .slice ad ys.length cap]).run P w = .ok (goInt ys.length) (w.setRow B (putL cs.toList o news).toArray) := by
  cases ad with
  | none =>
   obtain ⟨rfl, rfl⟩ := g1 rfl
   obtain rfl : news = [] := Z9 (by simpa using g3)
   have e0 : (putL cs.toList o ([] : List Value)).toArray = cs := by simp [putL]
   rw [e0, setRow_self w B cs tt (0, 0) o2]
   exact run_copy_nil P w t u ty el _ n c hu (by rw [hs]; rfl)
  | some a =>
   cases hys : ys with
   | nil =>
    subst hys
    obtain rfl : news = [] := Z9 (by simpa using g3)
    have := run_copy_row (P := P) w t u ty el B o n c a 0 cap cs tt [] hu hs o2 (by simp) (by simp) (by simp; omega) (by simp)
    simpa [putL] using this
   | cons row tl =>
    rw [← hys]
    obtain ⟨k1, k2⟩ := g5 a rfl (by rw [hys]; simp)
    have := run_copy_row (P := P) w t u ty el B o n c a ys.length cap cs tt news hu hs o2 (by rw [hnl]; exact (Nat.min_eq_left hn).symm) (fun j v hj => by
     rw [Yd2 k1]
     have := k2 j v hj
     rw [Wa] at this
     split at this
     · exact this
     · cases this) (by omega) hones
    rw [hnl] at this
    unfold putL
    rw [hnl]
    exact this
 simp [execOp, resolve, invoke, builtin, e1, e2, hrun]
theorem tri_apArr {dst : Option Nat} {t ty E by' : TypeId} {x y : Operand} {pos : String} {aft : Array Edge} {gd : Option (Nat × Bool)} {i o n : Nat} {ds : List D} {ys : List (List D)}
 (hx : ev G e x = .arr i o n n 1) (hy : ev G e y = .sl 1 ys) (ha : apT P t = some (E, 1, by')) (hi : h[i]? = some (.cells ds)) (h0 : ys ≠ []) (hf : o + n ≤ ds.length) (ho : X9 1 ys) (hb : (n + ys.length) * (by' + 1) ≤ 140737488355328) :
 OpTri P G ⟨dst, .call ⟨.builtin .append, #[x, y], #[t, t]⟩, ty, pos, aft, gd⟩ ((opds (.call ⟨.builtin .append, #[x, y], #[t, t]⟩)).map (ev G e)) h (fun h' r => h' = h ++ [.buf E 1 (((ds.drop o).take n).map (fun d => [d]) ++ ys)] ∧ r = .buf h.length (n + ys.length)) :=
 Xu fun a w hd p ok hh => by
 have hox : opds (.call ⟨.builtin .append, #[x, y], #[t, t]⟩) = [x, y] := by simp [opds, Op.operands, Call.operands]
 have q1 := hh x (by rw [hox]; simp)
 have q2 := hh y (by rw [hox]; simp)
 rw [hx, rd] at q1
 obtain ⟨B, hB, e1⟩ := q1
 rw [hy] at q2
 obtain ⟨ad, cap, news, e2, g1, g2, g3, g4, g5⟩ := sl_news q2
 obtain ⟨B', cs, tt, hB', o2, o3, o4⟩ := ok.ob i _ _ hi hB
 cases hB'
 obtain ⟨hu, inf, z, hinf, hz, hsz, hby, hzs, hpos⟩ := Zc1 ha
 have hnl : news.length = ys.length := by omega
 have hl3 : ds.length = cs.size := by simpa using Xz o3
 cases ad with
 | none => exact absurd (g1 rfl).2 h0
 | some ad =>
 obtain ⟨k1, k2⟩ := g5 ad rfl h0
 have hol : ((cs.toList.drop o).take n).length = n := by simp; omega
 have hy0 : 0 < ys.length := List.length_pos_iff.2 h0
 have hbs : n + ys.length ≤ 140737488355328 := Nat.le_trans (Nat.le_mul_of_pos_right _ (Nat.succ_pos _)) hb
 have hrun := run_append_grow (P := P) w t ty E inf z hu hinf hz ⟨B, o, none⟩ n n ((cs.toList.drop o).take n) (by rw [hol, hsz]; omega) (fun j v hj => by
   rw [Yd2 rfl]
   rw [Zn] at hj
   split at hj
   · rw [List.getElem?_drop] at hj
     simp [World.cell?, o2]
     simpa using hj
   · cases hj) ad ys.length cap news (by rw [hnl, hsz]; omega) (fun j v hj => by
   rw [Yd2 k1]
   have := k2 j v hj
   rw [Wa] at this
   split at this
   · exact this
   · cases this) (by omega) (by omega) (growslice_fits (by omega) (by rw [hby]; exact Nat.le_trans (Nat.mul_le_mul_left _ (Nat.le_succ _)) hb))
 have hrd : rdL hd h (only p w) (((ds.drop o).take n).map (fun d => [d]) ++ ys).flatten ((cs.toList.drop o).take n ++ news) := by
  rw [List.flatten_append, show (((ds.drop o).take n).map (fun d => [d])).flatten = (ds.drop o).take n by
   generalize (ds.drop o).take n = l
   induction l with
   | nil => rfl
   | cons a t ih => simp [ih]]
  exact Xf (Zf5 (Zm4 o3 o) n) g2
 have hge := grownCap_ge w (n + ys.length) n E
 have hcm : grownCap w (n + ys.length) n E ≤ maxLen := grownCap_le_maxLen w (n + ys.length) n E (by simp only [maxLen]; omega)
 have res := ok.grow (w' := w.drew.alloc (.cells (((cs.toList.drop o).take n).toArray ++ news.toArray ++ Builtin.zeroCells z.cells (grownCap w (n + ys.length) n E - (n + ys.length))) E)) (ob := .buf E 1 (((ds.drop o).take n).map (fun d => [d]) ++ ys)) (u := .slice (some ⟨w.heap.size, 0, none⟩) (n + ys.length) (grownCap w (n + ys.length) n E)) (h1 := rfl) (h2 := rfl) (h3 := rfl) (h0 := Zk4 hrun) (by simp) (fun b hb => Xa w.drew _ hb) (fun b hb => by cases hb; rfl)
  (fun c sb => ⟨(cs.toList.drop o).take n ++ news, ⟨by simp only [Z0, List.length_map, hol, hnl]; simp; omega, .inr ⟨w.heap.size, _, _, by simp; omega, Zl _, heap_alloc_new w.drew _, by simp; omega, hcm, by
    simp only [Array.size_append, List.size_toArray, size_zeroCells, hzs, hol, hnl]; omega, by
    simp only [Array.toList_append, Zb]
    rw [← Zb, Zf (by simp; omega), Zi (by simp; omega)]⟩⟩, Yw c sb _ _ hrd, fun row hr => by
    rcases List.mem_append.1 hr with hr | hr
    · obtain ⟨d, _, rfl⟩ := List.mem_map.1 hr; rfl
    · exact (ho row hr).1, fun g hg => by cases hg; simp⟩)
 refine ⟨_, _, .inl (by simp [execOp, resolve, invoke, builtin, e1, e2, hrun]; rfl), _, _, _, _, ⟨rfl, rfl⟩, res.1, ?_, res.2⟩
 rw [rd]
 refine ⟨⟨_, _, rfl⟩, .of (ob := .buf E 1 (((ds.drop o).take n).map (fun d => [d]) ++ ys)) (by simp) rfl, fun e' k' xs' hx' => ?_⟩
 simp at hx'
 obtain ⟨rfl, rfl, rfl⟩ := hx'
 exact ⟨by simp; omega, fun _ => by rw [← ok.len]; simp⟩
theorem tri_cpBuf {dst : Option Nat} {t u ty E : TypeId} {x y : Operand} {pos : String} {aft : Array Edge} {gd : Option (Nat × Bool)} {i n : Nat} {xs ys : List (List D)}
 (hx : ev G e x = .buf i n) (hy : ev G e y = .sl 1 ys) (he : (elT P t).bind (szT P) = some 1) (hi : h[i]? = some (.buf E 1 xs)) (hxs : xs.length = n) (hn : ys.length = n) (ho : X9 1 ys) :
 OpTri P G ⟨dst, .call ⟨.builtin .copy, #[x, y], #[t, u]⟩, ty, pos, aft, gd⟩ ((opds (.call ⟨.builtin .copy, #[x, y], #[t, u]⟩)).map (ev G e)) h (fun h' r => h' = h.set i (.buf E 1 ys) ∧ r = .v (.int .i64 n)) :=
 Xu fun a w hd p ok ha => by
 have hox : opds (.call ⟨.builtin .copy, #[x, y], #[t, u]⟩) = [x, y] := by simp [opds, Op.operands, Call.operands]
 have q1 := ha x (by rw [hox]; simp)
 have q2 := ha y (by rw [hox]; simp)
 rw [hx, rd] at q1
 obtain ⟨_, _, q1⟩ := q1
 have hv := (q1 E 1 xs hi).2 hxs
 rw [hy] at q2
 obtain ⟨ad, cap, news, e2, g1, g2, g3, g4, g5⟩ := sl_news q2
 obtain ⟨el, h1, h2⟩ := Jn he
 have hu := Vr h1
 have hs : (P.info? el).map (·.size) = some 1 := by unfold szT at h2; exact h2
 obtain ⟨cs, o1, o2, o3, o4⟩ := ok.ob i _ _ hi hv
 rw [hxs] at o1
 have hnl : news.length = n := by omega
 have hones := U9 g2 (Va ho)
 obtain ⟨inf, hinf, hisz⟩ : ∃ inf, P.info? el = some inf ∧ inf.size = 1 := by
  cases hq : P.info? el with
  | none => rw [hq] at hs; cases hs
  | some inf => rw [hq] at hs; exact ⟨inf, rfl, by simpa using hs⟩
 by_cases hn0 : n = 0
 · subst hn0
   obtain rfl : ys = [] := Z9 hn
   obtain rfl : xs = [] := Z9 hxs
   obtain rfl : news = [] := Z9 hnl
   have hset : h.set i (.buf E 1 []) = h := by
    apply Zq
    intro j
    by_cases hij : i = j
    · subst hij; rw [List.getElem?_set_self (Zo.1 hi).1, hi]
    · rw [List.getElem?_set_ne hij]
   refine ⟨goInt 0, w, .inl ?_, .same ok ⟨hset.symm, rfl⟩ (d := .v (.int .i64 0)) (by rw [rd]; rfl)⟩
   have hrun : (Builtin.copy_ #[t, u] ty #[a.eval x, .slice ad 0 cap]).run P w = .ok (goInt 0) w := by
    obtain ⟨a0, c0, e1⟩ : ∃ a0 c0, a.eval x = .slice a0 0 c0 := Vb o1
    rw [e1]
    cases a0 <;> cases ad <;> simp [Builtin.copy_, run_underlying hu, Builtin.lenOf, Builtin.firstCells, sizeOf, typeInfo, hinf, storeCells, loadCells, loadCellsFrom]
   have e3 : a.eval y = .slice ad 0 cap := e2
   simp [execOp, resolve, invoke, builtin, e3, hrun]
 · rcases id o1.2 with ⟨_, hz⟩ | ⟨g, cap', cur, h5, hb0, hg, hnc, hcm, hcs, htake⟩
   · exact absurd hz hn0
   cases ad with
   | none =>
    have := (g1 rfl).2
    subst this
    exact absurd hn.symm hn0
   | some aa =>
   obtain ⟨k1, k2⟩ := g5 aa rfl (by intro h; subst h; exact hn0 hn.symm)
   have hrun := run_copy_row (P := P) w t u ty el g 0 n cap' aa ys.length cap cur E news hu hs hg (by rw [hnl, hn]; exact (Nat.min_self n).symm) (fun j v hj => by
    rw [Yd2 k1]
    have := k2 j v hj
    rw [Wa] at this
    split at this
    · exact this
    · cases this) (by rw [hnl, hcs]; omega) hones
   rw [hnl] at hrun
   have e0 : (cur.toList.take 0 ++ news ++ cur.toList.drop (0 + n)) = putL cur.toList 0 news := by unfold putL; rw [hnl]
   rw [e0] at hrun
   have hfl : ys.flatten.length = n := by rw [Xz g2, hnl]
   have res := ok.repl (w' := w.setRow g (putL cur.toList 0 news).toArray) (ob' := .buf E 1 ys) (u' := a.eval x) hi hv rfl Ye.1 Ye.2.1 Ye.2.2.1 (Nat.le_of_eq Ye.2.2.2.1.symm) (fun b _ hb => Ye.2.2.2.2 b fun e => hb (by rw [h5, e]; rfl)) (fun b hb => .inl hb) (fun _ _ => rfl)
    (fun e' k' xs' e => by cases e; exact ⟨E, xs, rfl, by omega, fun _ => rfl⟩) fun c sb => ⟨news, ⟨by rw [hnl, hn]; omega, .inr ⟨g, cap', _, by rw [h5, hn], hb0, Za1 hg, by omega, hcm, by rw [List.size_toArray, Zb7 (by simp; omega)]; simpa using hcs, by
      rw [List.toList_toArray, hn, ← hnl]; simp [putL]⟩⟩, Yw c sb _ _ g2, fun row hr => (ho row hr).1, fun g' hg' => by have := o4 g' hg'; simp [this]⟩
   refine ⟨goInt n, _, .inl ?_, _, _, _, _, ⟨rfl, rfl⟩, res.1, by rw [rd]; rfl, res.2⟩
   have e3 : a.eval x = .slice (some ⟨g, 0, none⟩) n cap' := h5
   simp [execOp, resolve, invoke, builtin, e3, e2, hrun]
theorem Zi6 {dst : Option Nat} {t ty el k n : Nat} {x : Operand} {pos : String} {aft : Array Edge} {gd : Option (Nat × Bool)} {i o : Nat}
 (hx : ev G e x = .ptr i o) (ha : arrT P t = some (n, el)) (hs : szT P el = some k) :
 OpTri P G ⟨dst, .slice t x none none none, ty, pos, aft, gd⟩ ((opds (.slice t x none none none)).map (ev G e)) h (fun h' r => h' = h ∧ r = .arr i o n n k) :=
 Vw fun a w hd p ok hh => by
 have hox : opds (.slice t x none none none) = [x] := by simp [opds, Op.operands]
 have q1 := hh x (by rw [hox]; simp)
 rw [hx, rd] at q1
 obtain ⟨B, hB, e1⟩ := q1
 have hu : P.underlying t = some (.array n el) := by
  unfold arrT at ha
  split at ha
  · rename_i e0; cases ha; exact e0
  · cases ha
 refine ⟨.slice (some ⟨B, o, none⟩) n n, ?_, by rw [rd]; exact ⟨B, hB, rfl⟩⟩
 have h0 : (⟨B, o, none⟩ : Addr).add (0 * k) = ⟨B, o, none⟩ := by rw [Nat.zero_mul]; rfl
 simp [execOp, e1, Instr.sliceAt, run_underlying hu, Instr.sureAddr, Instr.sliceBounds, Xt hs]
 intro _; rfl
theorem cvL {hd : List Value} {w w' : World} {p p' : Nat → Bool} {h h' : List Ob} {g : D → D} (c : ∀ d u, rd hd h (only p w) d u → rd hd h' (only p' w') (g d) u) {ds : List D} {us : List Value} (q : rdL hd h (only p w) ds us) : rdL hd h' (only p' w') (ds.map g) us := by
 obtain ⟨h1, h2⟩ := (Yk _ _).1 q
 refine (Yk _ _).2 ⟨by simpa using h1, fun j d hd' => ?_⟩
 rw [Zg, Option.map_eq_some_iff] at hd'
 obtain ⟨d0, hd0, rfl⟩ := hd'
 obtain ⟨u, hu, hr⟩ := h2 j d0 hd0
 exact ⟨u, hu, c _ _ hr⟩
theorem Does.gaveIn {f : FuncId} {args : List D} {K K' : List Ob → D → Prop} (q : Does P G f h args K) (c : ∀ h' r, K h' r → ∃ i j ds, i ≠ j ∧ h'[i]? = some (.cells ds) ∧ K' ((h'.set j .dead).set i (.cells (ds.map (cvD (fun x => x == j) h')))) r) : Does P G f h args K' := fun w hd p vs o ha => by
 refine (q w hd p vs o ha).mono ?_
 rintro e w' ⟨v, hd', h', r, p', rfl, hK, ok, hr, ev⟩
 obtain ⟨i, j, ds, hij, hi, hk⟩ := c _ _ hK
 obtain ⟨p2, o2, ev2, cv⟩ := ok.give (fun x => x == j)
 rw [Zg6] at o2 ev2 cv
 have hil := (Zo.1 hi).1
 have hil' : i < hd'.length := by rw [ok.len]; exact hil
 have hu : hd'[i]? = some hd'[i] := Zr hil'
 have hi2 : (h'.set j .dead)[i]? = some (.cells ds) := by rw [List.getElem?_set_ne (Ne.symm hij)]; exact hi
 obtain ⟨B, cs, t, e1, e2, e3, e4⟩ := ok.ob i _ _ hi hu
 have e5 := o2.ob i _ _ hi2 hu
 obtain ⟨B', cs', t', e1', e2', e3', e4'⟩ := e5
 have hBB : B' = B := by rw [e1] at e1'; cases e1'; rfl
 subst hBB
 have e6 := cvL cv e3
 have res := o2.repl (w' := w') (ob' := .cells (ds.map (cvD (fun x => x == j) h'))) (u' := hd'[i]) hi2 hu rfl rfl rfl rfl (Zh _) (fun _ _ _ => rfl) (fun b hb => .inl hb) (fun _ _ => rfl) (fun _ _ _ e => by cases e) fun c sb => ⟨B', cs, t, e1, e2, Yw c sb _ _ e6, by simp [e4']⟩
 have ev3 := ev2.trans res.2
 exact ⟨v, _, _, r, _, rfl, hk, res.1, ev3.rd ok hr, ev.trans ev3⟩
end
end
section
variable {P : Program} {G : Nat → D} {f : FuncId} {h : List Ob} {args : List D}
theorem Does.reown {K K' : List Ob → D → Prop} (q : Does P G f h args K) (c : ∀ h' r, K h' r → K' h' r ∨ ∃ i n b E k xs, h'[i]? = some (.buf E k xs) ∧ xs.length = n ∧ b ≤ n ∧ r = .win i n 0 b ∧ K' (h'.set i .dead ++ [.buf E k (xs.take b)]) (.buf h'.length b)) : Does P G f h args K' := fun w hd p vs o ha => by
 refine (q w hd p vs o ha).mono ?_
 rintro e w' ⟨v, hd', h', r, p', rfl, hK, ok, hr, ev⟩
 rcases c _ _ hK with hk | ⟨i, n, b, E, k, xs, hi, hn, hb, rfl, hk⟩
 · exact ⟨v, hd', h', r, p', rfl, hk, ok, hr, ev⟩
 · obtain ⟨o2, ev2, hr2⟩ := ok.reown hi hn hb hr
   exact ⟨v, _, _, _, _, rfl, hk, o2, hr2, ev.trans ev2⟩
mutual
theorem rnO_low0 (R : List Nat) : ∀ d, low 0 d → rnO R d = some d
 | .any, _ => by rw [rnO]
 | .v _, _ => by rw [rnO]
 | .e0, _ => by rw [rnO]
 | .sl k xs, l => by rw [low] at l; rw [rnO, Zm0 R xs l]
 | .agg ds, l => by rw [low] at l; rw [rnO, Zb5 R ds l]
 | .tup ds, l => by rw [low] at l; rw [rnO, Zb5 R ds l]
 | .rp ds, l => by rw [low] at l; rw [rnO, Zb5 R ds l]
 | .fn f ds, l => by rw [low] at l; rw [rnO, Zb5 R ds l]
 | .ptr i o, l => by rw [low] at l; omega
 | .buf i n, l => by rw [low] at l; omega
 | .bp i n r c, l => by rw [low] at l; omega
 | .win i n a b, l => by rw [low] at l; omega
 | .arr i o n c k, l => by rw [low] at l; omega
 | .mp i, l => by rw [low] at l; omega
theorem Zb5 (R : List Nat) : ∀ d, lowL 0 d → rnL R d = some d
 | [], _ => by rw [rnL]
 | d :: t, l => by rw [lowL] at l; rw [rnL, rnO_low0 R d l.1, Zb5 R t l.2]
theorem Zm0 (R : List Nat) : ∀ d, lowR 0 d → rnR R d = some d
 | [], _ => by rw [rnR]
 | d :: t, l => by rw [lowR] at l; rw [rnR, Zb5 R d l.1, Zm0 R t l.2]
end
end
end Go.Proofs.YtgkjcmglcnhpaaaGreatDoor
