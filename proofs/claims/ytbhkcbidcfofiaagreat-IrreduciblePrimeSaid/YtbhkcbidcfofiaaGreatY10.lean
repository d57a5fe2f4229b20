/-
  What the statements of the chapter share, part 10: WR1, WR2, WR3, E1, E2, E3, E4, E5, E6, E7, E8, E9, N1, N2.
-/
import Derived.Test.YtbhkcbidcfofiaaGreatY08
import Derived.Test.YtbhkcbidcfofiaaGreatY09
import Derived.Laws.BitsAllLaws
import Derived.Lib.Zigzag
set_option linter.unusedVariables false
set_option linter.unusedSimpArgs false
set_option maxRecDepth 100000
set_option maxHeartbeats 8000000
namespace Go.Proofs.YtbhkcbidcfofiaaGreat
open _root_.Bool renaming not_false → Z3, not_true → Z4
open _root_.List renaming map_cons → Z2
open _root_.Nat renaming le_of_ble_eq_true → Z1
open _root_.Go.Proofs.Tryz renaming prog → Z0
open Go.RowKit
section
attribute [local irreducible] on aOp
attribute [local go_sem] decide_true decide_false Z4 Z3
attribute [local simp] byD_len
variable (G : Nat → D) (hG : ∀ g, low 0 (G g))
def wG (n : Nat) (rows : List (List D)) (T : List Ob) : List Ob := .cells [.buf 1 n] :: .buf 5 1 rows :: T
def wH (l : List UInt8) : List Ob := wG l.length (byD l) []
theorem wH_eq (l : List UInt8) : wH l = wG l.length (byD l) [] := rfl
section
variable {n m : Nat} {rows r2 : List (List D)} {T l : List Ob}
theorem wG_0 : (wG n rows T)[0]? = some (.cells [.buf 1 n]) := rfl
theorem wG_1 : (wG n rows T)[1]? = some (.buf 5 1 rows) := rfl
theorem wG_s0 : (wG n rows T).set 0 (.cells [.buf 1 m]) = wG m rows T := rfl
theorem wG_s1 : (wG n rows T).set 1 (.buf 5 1 r2) = wG n r2 T := rfl
theorem wG_a0 : (wG n rows T ++ l)[0]? = some (.cells [.buf 1 n]) := rfl
theorem wG_a1 : (wG n rows T ++ l)[1]? = some (.buf 5 1 rows) := rfl
theorem wG_b0 : (wG n rows T ++ l).set 0 (.cells [.buf 1 m]) = wG m rows (T ++ l) := rfl
theorem wG_b1 : (wG n rows T ++ l).set 1 (.buf 5 1 r2) = wG n r2 (T ++ l) := rfl
end
theorem wG_eq {a b : Nat} {x y : List (List D)} (T : List Ob) (h : a = b) (k : x = y) : wG a x T = wG b y T := by rw [h, k]
theorem wG_low' (l l2 : List UInt8) : lowH (wH l).length (wH l2) := by
 intro x hx
 unfold wH wG at hx
 have : (wH l).length = 2 := rfl
 rw [this]
 simp at hx
 rcases hx with rfl | rfl
 · simp [Yf1, lowL, low]
 · exact Ze0 2 l2
theorem endW {res : Array ResultVar} {K : List Ob → D → Prop} {l l2 : List UInt8} {n : Nat} {rows : List (List D)} {T : List Ob} {s : S} (h1 : resD Z0 s res.toList = some []) (h2 : s.h = wG n rows T) (h3 : n = l2.length) (h4 : rows = byD l2) (hK : K (wH l2) (.tup [])) : EndD Z0 res (wH l).length K s := by
 subst h3 h4
 have e : s.h.take (wH l).length = wH l2 := by rw [h2]; rfl
 refine ⟨[], _, h1, Nat.le_refl _, by rw [h2]; exact Nat.le_add_left 2 T.length, by rw [e]; exact wG_low' l l2, ?_, ?_⟩
 · simp [outD, cvD, low, lowL]
 · rw [e]; simpa [outD, cvD] using hK
theorem or_byte : ∀ m : Fin 256, IntKind.u8.wrap ((BitVec.ofInt 8 (m.val : Int) ||| BitVec.ofInt 8 128).toNat : Int) = ((m.val % 128 + 128 : Nat) : Int) := by decide +kernel
theorem u8_wrap (m : Nat) : IntKind.u8.wrap (m : Int) = ((m % 256 : Nat) : Int) := by simp [IntKind.wrap, IntKind.bits, IntKind.signed]
theorem byte_lo (m : Nat) (h : m < 256) : ((UInt8.ofNat m).toNat : Int) = (m : Int) := by simp; omega
theorem byte_hi (m : Nat) : IntKind.u8.wrap ((BitVec.ofInt 8 (IntKind.u8.wrap (m : Int)) ||| BitVec.ofInt 8 128).toNat : Int) = ((UInt8.ofNat (m % 128 + 128)).toNat : Int) := by
 have h := or_byte ⟨m % 256, Nat.mod_lt _ (by omega)⟩
 rw [u8_wrap m, byte_lo _ (by omega)]
 refine h.trans ?_
 show ((m % 256 % 128 + 128 : Nat) : Int) = _
 omega
theorem byD_one (l : List UInt8) (b : UInt8) {z : Int} (h : z = (b.toNat : Int)) : byD l ++ [[.v (.int .u8 z)]] = byD (l ++ [b]) := by subst h; simp [byD]
theorem fdiv128 (m : Nat) : (m : Int).fdiv (2 ^ min (Int.toNat 7) 64) = ((m / 128 : Nat) : Int) := by
 rw [show (2 : Int) ^ min (Int.toNat 7) 64 = 128 by decide, Int.fdiv_eq_ediv_of_nonneg _ (by omega)]; omega
include hG
attribute [local go_sem] Int.reduceEq Int.reduceLE Int.reduceLT Nat.reduceAdd Nat.reduceBEq Nat.reduceEqDiff Nat.reduceLeDiff Nat.reduceMul wG_0 wG_1 wG_a0 wG_a1 wG_b0 wG_b1 wG_s0 wG_s1 wH_eq
attribute [local go_sem ↓] reduceIte
theorem wUint_d (l : List UInt8) (n : Nat) (hn : n < 18446744073709551616) (hl : l.length ≤ 100000000) :
 Does Z0 G 163 (wH l) [.ptr 0 0, .v (.int .u64 n)] (fun h' r => h' = wH (l ++ W9 n) ∧ r = .tup []) := by
 refine Y6 Tryz.func163 rfl (Z1 rfl) hG fun hl0 _ => ?_
 simp only [Tryz.ntmps163]
 repeat' first
  | refine sA rfl ?_
 refine Yh (fun m e h' => ∃ (k : Nat) (cur : List UInt8) (T : List Ob), m = k ∧ k < 18446744073709551616 ∧ cur ++ W9 k = l ++ W9 n ∧ h' = wG cur.length (byD cur) T ∧ e 0 = .ptr 0 0 ∧ e 1 = .v (.int .u64 k)) n ⟨n, l, [], rfl, hn, rfl, rfl, rfl, rfl⟩ ?_
 rintro m e h' ⟨k, cur, T, rfl, hk, hE, rfl, e0, e1⟩
 have hc : cur.length ≤ 100000010 := by
  have h1 := congrArg List.length hE
  rw [List.length_append, List.length_append] at h1
  have := (Zx5 n hn).1
  omega
 repeat' first
  | refine sA rfl ?_ | refine sI rfl rfl ?_ | refine sT rfl ?_
  | refine Yn ?_
  | (refine ao1 rfl rfl fun K HK => ?_; simp only [go_sem, e0, e1]; (first | refine Ym (fun hq => ?_) (fun hq => ?_) | skip) <;> (refine HK _ _ ?_; clear HK K))
  | refine Xy rfl rfl rfl rfl (by (simp only [go_sem, e0, e1]; rfl)) (by simp) (by simp only [go_sem]; rfl) (by (simp only [go_sem, e0, e1]; rfl)) (by simp) (by (simp [Yz, D.one, Value.oneCell']; done)) (by (simp; omega)) ?_
  | (refine ao1' rfl fun K HK => ?_; simp only [go_sem, e0, e1]; refine HK _ _ ?_; clear HK K)
 · have e4 := fun T' => wG_eq T' (show cur.length + 1 = (cur ++ [UInt8.ofNat (m % 128 + 128)]).length by simp) (byD_one cur _ (byte_hi m))
   refine ⟨rfl, m / 128, by omega, m / 128, cur ++ [UInt8.ofNat (m % 128 + 128)], _, rfl, by omega, ?_, e4 _, ?_, ?_⟩
   · rw [List.append_assoc, ← hE, Zv7 (n := m) (by omega)]; rfl
   · simp [upd, e0]
   · simp only [upd, fdiv128]; rfl
 · refine ⟨.inl rfl, endW (l2 := l ++ W9 n) rfl rfl ?_ ?_ ⟨rfl, rfl⟩⟩
   · rw [← hE, Zn6 (by omega)]; simp
   · rw [← hE, Zn6 (by omega), byD_one _ (UInt8.ofNat m)]
     rw [u8_wrap, byte_lo _ (by omega)]; omega
omit hG
theorem lenU {a : Nat} (h : a ≤ 100000000) : IntKind.u64.wrap (a : Int) = (a : Int) := by rw [IntKind.wrap_u64]; omega
include hG
theorem wText_d (l : List UInt8) (s : ByteArray) (hs : s.size ≤ 10000000) (hl : l.length ≤ 80000000) :
 Does Z0 G 164 (wH l) [.ptr 0 0, .v (.string s)] (fun h' r => h' = wH (l ++ U8 s) ∧ r = .tup []) := by
 have hu := (Zx5 s.size (by omega)).1
 refine Y6 Tryz.func164 rfl (Z1 rfl) hG fun hl0 _ => ?_
 simp only [Tryz.ntmps164]
 repeat' first
  | refine sA rfl ?_
  | refine Yn ?_
  | (refine ao1 rfl rfl fun K HK => ?_; simp only [go_sem, lenU (a := s.size) (by omega)] <;> (refine HK _ _ ?_; clear HK K))
  | refine Ye4 rfl rfl rfl (by (simp only [go_sem, lenU (a := s.size) (by omega)]; rfl)) (by simp) (by simp only [go_sem]; rfl) rfl (by exact Xe _) (by (simp; omega)) ?_
  | (refine ao2 rfl rfl rfl ent_163 (wUint_d G hG l _ (by omega) (by omega)) ?_; rintro _ _ ⟨rfl, rfl⟩)
  | (refine ao1' rfl fun K HK => ?_; simp only [go_sem, lenU (a := s.size) (by omega)]; refine HK _ _ ?_; clear HK K)
 exact ⟨.inl rfl, endW (l2 := l ++ U8 s) rfl rfl (by simp [U8]; try omega) (by rw [byD_app, List.append_assoc]; rfl) ⟨rfl, rfl⟩⟩
theorem wData_d (l : List UInt8) (hl : l.length ≤ 100000000) :
 Does Z0 G 100 (wH l) [.ptr 0 0] (fun h' r => h' = wH l ∧ r = .sl 1 (byD l)) := by
 refine Y6 Tryz.func100 rfl (Z1 rfl) hG fun hl0 _ => ?_
 simp only [Tryz.ntmps100]
 repeat' first
  | refine sA rfl ?_
  | refine Yn ?_
  | (refine ao1 rfl rfl fun K HK => ?_; simp only [go_sem] <;> (refine HK _ _ ?_; clear HK K))
  | refine Xy rfl rfl rfl rfl (by (simp only [go_sem]; rfl)) (by simp) (by simp only [go_sem]; rfl) (by (simp only [go_sem]; rfl)) (by simp) (by exact Xe _) (by (simp; omega)) ?_
 have e : ((wG l.length (byD l) [] ++ [Ob.buf 5 1 (byD l)]).take (wH l).length) = wH l := rfl
 refine ⟨.inr rfl, [.buf 2 l.length], 2, rfl, Nat.le_refl _, by simp [wG], ?_, ?_, ?_⟩
 · show lowH 2 ((wG l.length (byD l) [] ++ [Ob.buf 5 1 (byD l)]).take (wH l).length)
   rw [e]; exact hl0
 · simp [outD, cvD, cv1, wG, Ze0]
 · refine ⟨e, ?_⟩
   simp [outD, cvD, cv1, wG]
end
section
attribute [local irreducible] on aOp
attribute [local go_sem] decide_true decide_false Z4 Z3
attribute [local simp] byD_len
theorem renR_by (π : Nat → Nat) (l : List UInt8) : renR π (byD l) = byD l := by
 have := J3 π (.sl 1 (byD l)) (Ze0 0 l)
 rw [ren] at this
 exact (D.sl.inj this).2
variable (G : Nat → D) (hG : ∀ g, low 0 (G g))
include hG
theorem w_at {l l2 : List UInt8} {f : FuncId} {xs : List D} {r0 : D} (lx : lowL 0 xs) (lr : low 0 r0) (q : Does Z0 G f (wH l) (.ptr 0 0 :: xs) (fun h' r => h' = wH l2 ∧ r = r0)) {h : List Ob} {i j : Nat} (hi : h[i]? = some (.cells [.buf j l.length])) (hj : h[j]? = some (.buf 5 1 (byD l))) :
 Does Z0 G f h (.ptr i 0 :: xs) (fun h' r => h' = (h.set i (.cells [.buf j l2.length])).set j (.buf 5 1 (byD l2)) ∧ r = r0) := by
 have hij : i ≠ j := fun e => by subst e; rw [hi] at hj; cases hj
 have L : Lies (fun k => if k = 0 then i else j) (wH l) h := by
  refine ⟨fun k ob hk => ?_, fun a b ha hb hab => ?_, wG_low' l l⟩
  · rcases k with _ | _ | k
    · cases hk; simp only [Ve, renL, ren]; simpa using hi
    · cases hk; simp only [Ve, renR_by]; simpa using hj
    · cases hk
  · have ha : a < 2 := ha
    have hb : b < 2 := hb
    have hab : (if a = 0 then i else j) = (if b = 0 then i else j) := hab
    split at hab <;> split at hab <;> omega
 have F := Does.frame hG L (args := .ptr 0 0 :: xs) (by rw [lowL, low]; exact ⟨Nat.zero_lt_succ _, Uk (Nat.zero_le _) _ lx⟩) (K1 := fun h' r => h' = wH l2 ∧ r = r0) (by
  rintro _ _ ⟨rfl, _⟩
  refine ⟨fun a b ha hb hab => ?_, fun k h1 h2 => ?_⟩
  · have ha : a < 2 := ha
    have hb : b < 2 := hb
    have hab : (if a = 0 then i else j) = (if b = 0 then i else j) := hab
    split at hab <;> split at hab <;> omega
  · have h1 : 2 ≤ k := h1
    have h2 : k < 2 := h2
    omega) q
 rw [renL, ren, W0 _ _ lx] at F
 refine F.mono ?_
 rintro _ _ ⟨_, _, ⟨rfl, rfl⟩, rfl, rfl⟩
 refine ⟨?_, J3 _ _ lr⟩
 simp only [wH, wG, Z2, List.map_nil, plc, Ve, renL, ren, renR_by]
 rfl
theorem w_tail {l l2 : List UInt8} {f : FuncId} {xs : List D} {r0 : D} (lx : lowL 0 xs) (lr : low 0 r0) (q : Does Z0 G f (wH l) (.ptr 0 0 :: xs) (fun h' r => h' = wH l2 ∧ r = r0)) {n : Nat} {T : List Ob} (hn : n = l.length) :
 Does Z0 G f (wG n (byD l) T) (.ptr 0 0 :: xs) (fun h' r => h' = wG l2.length (byD l2) T ∧ r = r0) := by
 subst hn
 exact w_at G hG lx lr q (i := 0) (j := 1) rfl rfl
omit hG
structure Cmd where
 client : Int
 seq : Int
 kind : Int
 writes : List (ByteArray × List UInt8)
 replica : Int
 tag : List UInt8
def wrX (x : ByteArray × List UInt8) : List D := [.v (.string x.1), .sl 1 (byD x.2)]
def cmdX (c : Cmd) : List D := [.v (.int .i64 c.client), .v (.int .i64 c.seq), .v (.int .i64 c.kind), .sl 2 (c.writes.map wrX), .v (.int .i64 c.replica), .sl 1 (byD c.tag)]
structure Cmd.Ok (c : Cmd) : Prop where
 client : I64 c.client
 seq : I64 c.seq
 kind : I64 c.kind
 replica : I64 c.replica
 many : c.writes.length ≤ 3000
 each : ∀ x ∈ c.writes, x.1.size ≤ 10000 ∧ x.2.length ≤ 10000
 tag : c.tag.length ≤ 10000
def writesE (l : List (ByteArray × List UInt8)) : List UInt8 := l.flatMap fun x => U8 x.1 ++ bytesE x.2
def writeC (c : Cmd) : List UInt8 := intE c.client ++ intE c.seq ++ intE c.kind ++ W9 c.writes.length ++ writesE c.writes ++ intE c.replica
def encC (c : Cmd) : List UInt8 := writeC c ++ bytesE c.tag
def wB (n : Nat) (rows : List (List D)) (b : Ob) (T : List Ob) : List Ob := wG n rows (b :: T)
section
variable {n m : Nat} {rows r2 : List (List D)} {T : List Ob} {b x y : Ob}
theorem wB_len : (wB n rows b T).length = T.length + 3 := rfl
theorem wH_box {l : List UInt8} : wH l ++ [x] = wB l.length (byD l) x [] := rfl
theorem wH_len {l : List UInt8} : (wH l).length = 2 := rfl
end
include hG
theorem w_b {l l2 : List UInt8} {f : FuncId} {xs : List D} {r0 : D} (lx : lowL 0 xs) (lr : low 0 r0) (q : Does Z0 G f (wH l) (.ptr 0 0 :: xs) (fun h' r => h' = wH l2 ∧ r = r0)) {n : Nat} {b : Ob} {T : List Ob} (hn : n = l.length) :
 Does Z0 G f (wB n (byD l) b T) (.ptr 0 0 :: xs) (fun h' r => h' = wB l2.length (byD l2) b T ∧ r = r0) := w_tail G hG lx lr q hn
end
section
attribute [local irreducible] on aOp
attribute [local go_sem] decide_true decide_false Z4 Z3
attribute [local simp] byD_len
variable (G : Nat → D) (hG : ∀ g, low 0 (G g))
def hE (c : Cmd) (n : Nat) (rows : List (List D)) : List Ob := [.cells (cmdX c), .cells [.buf 2 n], .buf 5 1 rows]
include hG
theorem Y9 {P : Program} {f : FuncId} {args : List D} {r : D} (la : lowL 0 args) (lr : low 0 r) (q : Does P G f [] args (fun h' r' => h' = [] ∧ r' = r)) (h : List Ob) : Does P G f h args (fun h' r' => h' = h ∧ r' = r) := by
 have L : Lies (fun i => i) [] h := ⟨fun i ob q => by simp at q, fun i j q => by simp at q, fun ob q => by simp at q⟩
 have F := Does.frame hG L (args := args) la (K1 := fun h1 r1 => h1 = [] ∧ r1 = r) (by
  rintro _ _ ⟨rfl, _⟩
  exact ⟨fun i j hi => by simp at hi, fun j _ hj => by simp at hj⟩) q
 rw [W0 _ _ la] at F
 refine F.mono ?_
 rintro _ _ ⟨_, _, ⟨rfl, rfl⟩, rfl, rfl⟩
 exact ⟨rfl, J3 _ _ lr⟩
omit hG in
omit hG in
end
section
def unBy : List (List D) → Option (List UInt8)
 | [] => some []
 | [.v (.int .u8 n)] :: t => if 0 ≤ n ∧ n < 256 then (unBy t).map (UInt8.ofNat n.toNat :: ·) else none
 | _ => none
def rowsOkB (k : Nat) (ys : List (List D)) : Bool := ys.all fun row => row.length == k && row.all D.one
end
section
section
variable (P : Program) (G : Nat → D) (env : Nat → D) (h : List Ob)
def idxF (t : TypeId) (x i : D) : Option D := match i with
 | .v (.int _ n) => match x with
  | .sl k xs => if ((elT P t).bind (szT P)) = some k ∧ 0 ≤ n ∧ n < (xs.length : Int) then (xs[n.toNat]?).map .rp else none
  | .buf i m => match h[i]? with
   | some (.buf _ k xs) => if xs.length = m ∧ ((elT P t).bind (szT P)) = some k ∧ 0 ≤ n ∧ n < (m : Int) then some (.bp i m n.toNat 0) else none
   | _ => none
  | .ptr i o => match arrT P t with
   | some (l, e) => match szT P e with
    | some z => if 0 ≤ n ∧ n < (l : Int) then some (.ptr i (o + n.toNat * z)) else none
    | none => none
   | none => none
  | .rp ds => match arrT P t with
   | some (l, e) => match szT P e with
    | some z => if 0 ≤ n ∧ n < (l : Int) then some (.rp (ds.drop (n.toNat * z))) else none
    | none => none
   | none => none
  | _ => none
 | _ => none
end
end
section
section
variable (P : Program) (h : List Ob)
def slcF (t : TypeId) (x : D) (lo hi : Option D) : Option D := match x with
 | .v (.string s) => match bndD 0 lo, bndD s.size hi with
  | some l, some r => if strT P t = true ∧ 0 ≤ l ∧ l ≤ r ∧ r ≤ s.size then some (.v (.string (s.extract l.toNat r.toNat))) else none
  | _, _ => none
 | .sl k xs => match bndD 0 lo, bndD xs.length hi with
  | some l, some r => if (elT P t).bind (szT P) = some k ∧ 0 ≤ l ∧ l ≤ r ∧ r ≤ xs.length then some (.sl k ((xs.take r.toNat).drop l.toNat)) else none
  | _, _ => none
 | _ => none
end
end
section
section
variable (P : Program) (h : List Ob)
def apF (t u : TypeId) (x y : D) : Option (List Ob × D) := match apT P t, srcD P h t u y with
 | some (e, k, by'), some ys => if rowsOkB k ys = true then match x with
   | .buf i n => match h[i]? with
     | some (.buf e2 k2 xs) => if e2 = e ∧ k2 = k ∧ xs.length = n ∧ (n + ys.length) * (by' + 1) ≤ 140737488355328 then some (h.set i (.buf e k (xs ++ ys)), .buf i (n + ys.length)) else none
     | _ => none
   | .v (.slice none 0 0) => if ys.length * (by' + 1) ≤ 140737488355328 then some (h ++ [.buf e k ys], .buf h.length ys.length) else none
   | _ => none
  else none
 | _, _ => none
end
end
section
section
variable (P : Program) (h : List Ob)
def indF (t : TypeId) (x i : D) : Option D := match x, i with
 | .v (.string s), .v (.int _ n) => if strT P t = true ∧ 0 ≤ n ∧ n < (s.size : Int) then (s.data[n.toNat]?).map fun b => .v (.int .u8 b.toNat) else none
 | .agg ds, .v (.int _ n) => match arrT P t with
  | some (l, e) => match szT P e with
   | some z => if 0 ≤ n ∧ n < (l : Int) then getD P e ds (n.toNat * z) else none
   | none => none
  | none => none
 | _, _ => none
end
end
section
section
variable (P : Program) (h : List Ob)
def bstF (a b : TypeId) (x : D) : Option D := if byT P a = true ∧ strT P b = true then match x with
 | .sl _ xs => (unBy xs).map fun bs => .v (.string ⟨bs.toArray⟩)
 | .buf i n => match h[i]? with
  | some (.buf _ k xs) => if k = 1 ∧ xs.length = n then (unBy xs).map fun bs => .v (.string ⟨bs.toArray⟩) else none
  | _ => none
 | .v (.slice none 0 0) => some (.v (.string ⟨#[]⟩))
 | _ => none
 else none
end
end
section
section
variable (P : Program) (G : Nat → D) (env : Nat → D) (h : List Ob)
def cvF (t u : TypeId) (x : D) : Option D := match x with
 | .v (.int κ n) => convD P t u (.v (.int κ n))
 | .v (.string s) => if byT P u = true ∧ (P.underlying t).isSome = true ∧ s.size ≤ 140737488355328 then some (.sl 1 (byD s.data.toList)) else if strT P u = true ∧ (P.underlying t).isSome = true then some (.v (.string s)) else none
 | x => bstF P h t u x
end
end
section
section
variable (P : Program) (G : Nat → D) (env : Nat → D) (h : List Ob)
def Zj9 (o : Option D) : Option (List Ob × D) := o.map fun d => (h, d)
def biF (b : Builtin) (tys : List TypeId) (args : List D) : Option (List Ob × D) := match b, tys, args with
 | .len, [t], [x] => Zj9 h (lenD P t x)
 | .append, [t, u], [x, y] => apF P h t u x y
 | _, _, _ => none
def aF : Op → Option (List Ob × D)
 | .move x | .assign x => some (h, ev G env x)
 | .pick c x y => match ev G env c with
  | .v (.bool t) => some (h, if t then ev G env x else ev G env y)
  | _ => none
 | .binOp op t x y _ => Zj9 h (binD P op t x y (ev G env x) (ev G env y))
 | .unOp op _ x => Zj9 h (unD P op (ev G env x))
 | .convert t u x => Zj9 h (cvF P h t u (ev G env x))
 | .extract x i => Zj9 h (extrD i (ev G env x))
 | .field t x f => Zj9 h (fieldD P t f (ev G env x))
 | .load t x => Zj9 h (Zb1 P h t (ev G env x))
 | .store t x y => (Zd8 P h t (ev G env x) (ev G env y)).map fun h' => (h', .v undef)
 | .fieldAddr t x f => Zj9 h (Yi1 P t f (ev G env x))
 | .indexAddr t x i => Zj9 h (idxF P h t (ev G env x) (ev G env i))
 | .nilCheck x => if isPtr (ev G env x) = true then some (h, ev G env x) else none
 | .box _ x => (ev G env x).cells.map fun ds => (h ++ [.cells ds], .ptr h.length 0)
 | .alloc e => (Uj P e).map fun ds => (h ++ [.cells ds], .ptr h.length 0)
 | .build t parts => (Zv1 P t (parts.toList.map fun q => (q.1, ev G env q.2))).map fun ds => (h, .agg ds)
 | .buildSlice t len parts => (litD P t len (parts.toList.map fun q => (q.1, ev G env q.2))).map fun r => (h ++ [.buf r.1 r.2.1 r.2.2], .buf h.length len)
 | .slice t x lo hi none => Zj9 h (slcF P t (ev G env x) (lo.map (ev G env)) (hi.map (ev G env)))
 | .index t x i => Zj9 h (indF P t (ev G env x) (ev G env i))
 | .call ⟨.builtin b, args, tys⟩ => biF P h b tys.toList (args.toList.map (ev G env))
 | _ => none
end
end
section
variable {P : Program} {G : Nat → D} {e : Nat → D} {h : List Ob}
end
section
variable {P : Program} {G : Nat → D} {e : Nat → D} {h : List Ob}
theorem rdL_mem {a : Act} {hd : List Value} {W : World} : ∀ {l : List Operand}, rdL hd h W (l.map (ev G e)) (l.map a.eval) → ∀ x ∈ l, rd hd h W (ev G e x) (a.eval x)
 | [], _, x, hx => by simp at hx
 | y :: t, q, x, hx => by
  rw [Z2, Z2, rdL] at q
  obtain ⟨u, v, e0, q1, q2⟩ := q
  cases e0
  rcases List.mem_cons.1 hx with rfl | hx
  · exact q1
  · exact rdL_mem q2 x hx
theorem tri_intro {o : Oper} {K : List Ob → D → Prop} (H : ∀ (a : Act) w hd p, Ok G w hd h p → (∀ x ∈ opds o.op, rd hd h (only p w) (ev G e x) (a.eval x)) → ∃ v w', ((execOp a.eval o).run P w = .ok (.value v) w' ∨ ((execOp a.eval o).run P w = .ok .skip w' ∧ v = undef)) ∧ Post G w hd h p K v w') : OpTri P G o ((opds o.op).map (ev G e)) h K := fun a w hd p R hdf ok ha => by
 obtain ⟨v, w', hr, q⟩ := H a w hd p ok (rdL_mem ha)
 unfold Oper.wp
 rcases hr with hr | ⟨hr, rfl⟩
 · rw [hr]; exact ⟨v, rfl, q⟩
 · rw [hr]; exact ⟨_, rfl, q⟩
theorem Post.same {w : World} {hd : List Value} {p : Nat → Bool} {K : List Ob → D → Prop} {d : D} {v : Value} (o : Ok G w hd h p) (k : K h d) (q : rd hd h (only p w) d v) : Post G w hd h p K v w := ⟨hd, h, d, p, k, o, q, .refl _ _ _ _⟩
theorem tri_val {o : Oper} {d : D} (H : ∀ (a : Act) w hd p, Ok G w hd h p → (∀ x ∈ opds o.op, rd hd h (only p w) (ev G e x) (a.eval x)) → ∃ v, (execOp a.eval o).run P w = .ok (.value v) w ∧ rd hd h (only p w) d v) : OpTri P G o ((opds o.op).map (ev G e)) h (fun h' r => h' = h ∧ r = d) := tri_intro fun a w hd p ok ha => by
 obtain ⟨v, hr, q⟩ := H a w hd p ok ha
 exact ⟨v, w, .inl hr, .same ok ⟨rfl, rfl⟩ q⟩
section
variable (P : Program) (G : Nat → D) (e : Nat → D) (h : List Ob)
def sliF (t : TypeId) (x : D) (lo hi : Option D) : Option D := match x with
 | .buf i n => match h[i]? with
  | some (.buf _ k xs) => match bndD 0 lo, bndD n hi with
   | some l, some r => bif decide (xs.length = n) && decide ((elT P t).bind (szT P) = some k) && decide (0 ≤ l) && decide (l ≤ r) && decide (r ≤ n) then some (.win i n l.toNat r.toNat) else none
   | _, _ => none
  | _ => none
 | .win i n a b => match h[i]? with
  | some (.buf _ k xs) => match bndD 0 lo, bndD (b - a : Nat) hi with
   | some l, some r => bif decide (xs.length = n) && decide ((elT P t).bind (szT P) = some k) && decide (0 ≤ l) && decide (l ≤ r) && decide (r ≤ (b - a : Nat)) then some (.win i n (a + l.toNat) (a + r.toNat)) else none
   | _, _ => none
  | _ => none
 | .arr i o n c k => match bndD 0 lo, bndD n hi with
  | some l, some r => bif decide ((elT P t).bind (szT P) = some k) && decide (0 ≤ l) && decide (l ≤ r) && decide (r ≤ n) && decide (n ≤ c) then some (.arr i (if c = l.toNat then o else o + l.toNat * k) (r.toNat - l.toNat) (c - l.toNat) k) else none
  | _, _ => none
 | .ptr i o => match P.underlying t with
  | some (.pointer a) => match arrT P a with
   | some (n, el) => match szT P el, bndD 0 lo, bndD n hi with
    | some k, some l, some r => bif decide (0 ≤ l) && decide (l ≤ r) && decide (r ≤ n) then some (.arr i (if n = l.toNat then o else o + l.toNat * k) (r.toNat - l.toNat) (n - l.toNat) k) else none
    | _, _, _ => none
   | none => none
  | _ => none
 | .v (.slice none 0 0) => match (elT P t).bind (szT P), bndD 0 lo, bndD 0 hi with
  | some _, some l, some r => bif decide (l = 0) && decide (r = 0) then some (.v (.slice none 0 0)) else none
  | _, _, _ => none
 | .e0 => match (elT P t).bind (szT P), bndD 0 lo, bndD 0 hi with
  | some _, some l, some r => bif decide (l = 0) && decide (r = 0) then some .e0 else none
  | _, _, _ => none
 | _ => none
end
end
section
variable {P : Program} {G : Nat → D} {e : Nat → D} {h : List Ob}
section
variable (P : Program) (h : List Ob)
def makF (t : TypeId) (x y : D) : Option (List Ob × D) := match x, y with
 | .v (.int _ l), .v (.int _ c) => match apT P t with
  | some (el, k, by') => match Uj P el with
   | some zs => bif decide (0 ≤ l) && decide (l ≤ c) && decide ((by' : Int) * c ≤ 281474976710656) && decide (c ≤ 281474976710656) && decide (zs.length = k) then some (h ++ [.buf el k (List.replicate l.toNat zs)], .buf h.length l.toNat) else none
   | none => none
  | none => none
 | _, _ => none
def idxN (t : TypeId) (x i : D) : Option D := match i with
 | .v (.int _ m) => match x with
  | .win i n a b => match h[i]? with
   | some (.buf _ k xs) => bif decide (xs.length = n) && decide ((elT P t).bind (szT P) = some k) && decide (0 ≤ m) && decide (m < (b - a : Nat)) then some (.bp i n (a + m.toNat) 0) else none
   | _ => none
  | .arr i o n _ k => bif decide ((elT P t).bind (szT P) = some k) && decide (0 ≤ m) && decide (m < (n : Nat)) then some (.ptr i (o + m.toNat * k)) else none
  | _ => none
 | _ => none
def nonNil (x : D) : Bool := match x with
 | .buf i n => match h[i]? with
  | some (.buf _ _ xs) => decide (xs.length = n) && decide (0 < n)
  | _ => false
 | .win i n a b => match h[i]? with
  | some (.buf _ _ xs) => decide (xs.length = n) && decide (a < b)
  | _ => false
 | .arr _ _ _ _ _ => true
 | .sl _ (_ :: _) => true
 | _ => false
def nilF (op : BinOp) (t : TypeId) (x y : D) : Option D := match y with
 | .v (.slice none 0 0) => bif slT P t && nonNil h x then (match op with
  | .eql => some (.v (.bool false))
  | .neq => some (.v (.bool true))
  | _ => none) else none
 | _ => none
def binI (op : BinOp) (k : IntKind) (a b : Int) : Option Value := match op with
 | .eql => some (.bool (decide (a = b)))
 | .neq => some (.bool (!decide (a = b)))
 | .lss => some (.bool (decide (a < b)))
 | .leq => some (.bool (decide (a ≤ b)))
 | .gtr => some (.bool (decide (b < a)))
 | .geq => some (.bool (decide (b ≤ a)))
 | .add => some (.int k (k.wrap (a + b)))
 | .sub => some (.int k (k.wrap (a - b)))
 | .mul => some (.int k (k.wrap (a * b)))
 | _ => none
def lessB : List UInt8 → List UInt8 → Bool
 | _, [] => false
 | [], _ :: _ => true
 | a :: s, b :: t => bif Nat.blt a.toNat b.toNat then true else bif Nat.beq a.toNat b.toNat then lessB s t else false
def binS (op : BinOp) (a b : ByteArray) : Option Value := match op with
 | .eql => some (.bool (decide (a.data.toList = b.data.toList)))
 | .neq => some (.bool (!decide (a.data.toList = b.data.toList)))
 | .lss => some (.bool (lessB a.data.toList b.data.toList))
 | .geq => some (.bool (!lessB a.data.toList b.data.toList))
 | .gtr => some (.bool (lessB b.data.toList a.data.toList))
 | .leq => some (.bool (!lessB b.data.toList a.data.toList))
 | _ => none
def binN (op : BinOp) (x y : D) : Option D := match x, y with
 | .v (.int j a), .v (.int k b) => bif decide (j = k) then (binI op j a b).map .v else none
 | .v (.string a), .v (.string b) => (binS op a b).map .v
 | _, _ => none
def lenN (t : TypeId) (x : D) : Option D := match x with
 | .win _ _ a b => bif slT P t then some (.v (.int .i64 (b - a : Nat))) else none
 | .arr _ _ n _ _ => bif slT P t then some (.v (.int .i64 n)) else none
 | .e0 => bif slT P t then some (.v (.int .i64 0)) else none
 | _ => none
def capN (t : TypeId) (x : D) : Option D := match x with
 | .v (.slice none 0 0) | .e0 => bif slT P t then some (.v (.int .i64 0)) else none
 | .arr _ _ _ c _ => bif slT P t then some (.v (.int .i64 c)) else none
 | _ => none
end
section
variable {P : Program} {G : Nat → D} {e : Nat → D} {h : List Ob} {dst : Option Nat} {t f : Nat} {x y : Operand} {ty : TypeId} {pos : String} {aft : Array Edge} {gd : Option (Nat × Bool)} {caps : Array Operand}
theorem tri_mkf : OpTri P G ⟨dst, .makeFunc (.func f) #[] caps, ty, pos, aft, gd⟩ ((opds (.makeFunc (.func f) #[] caps)).map (ev G e)) h (fun h1 d1 => h1 = h ∧ d1 = .fn f (caps.toList.map (ev G e))) := by
 refine tri_val fun a w hd p ok ha => ⟨.func (.func f) #[] (caps.map a.eval), by simp [execOp, Instr.makeFunc], ?_⟩
 rw [rd]
 refine ⟨_, rfl, ?_⟩
 have ho : opds (.makeFunc (.func f) #[] caps) = caps.toList := by simp [opds, Op.operands]
 have ha : ∀ x ∈ caps.toList, rd hd h (only p w) (ev G e x) (a.eval x) := fun x hx => ha x (by rw [ho]; exact hx)
 rw [Array.toList_map]
 generalize caps.toList = l at ha
 induction l with
 | nil => rw [List.map_nil, List.map_nil, rdL]
 | cons x t ih => rw [Z2, Z2, rdL]; exact ⟨_, _, rfl, ha x (by simp), ih fun y hy => ha y (by simp [hy])⟩
end
end
end Go.Proofs.YtbhkcbidcfofiaaGreat
