/-
  What the statements of the chapter share, part 27: RI0, RI1, RI2, RI3, RI4, RN1, RD2, TK1, TK2, TK3.
-/
import Derived.Test.YtmdjnaobllajmaaGreatDoorY14
import Derived.Test.YtmdjnaobllajmaaGreatDoorY15
import Derived.Test.YtmdjnaobllajmaaGreatDoorY17
import Derived.Test.YtmdjnaobllajmaaGreatDoorY23
import Derived.Test.YtmdjnaobllajmaaGreatDoorY26
set_option linter.unusedVariables false
set_option linter.unusedSimpArgs false
set_option maxRecDepth 100000
set_option maxHeartbeats 8000000
namespace Go.Proofs.YtmdjnaobllajmaaGreatDoor
open _root_.And renaming intro → Zb
open _root_.Bool renaming not_false → Zc, not_true → Zd
open _root_.Int renaming reduceEq → Z8, reduceLE → Z9, reduceLT → Za, toNat_natCast → Zi, tmod_eq_emod_of_nonneg → Zr
open _root_.List renaming getElem?_eq_some_iff → Z2, length_map → Z5, getElem?_eq_getElem → Zf, getElem?_set_self → Zg, map_nil → Zh, reverse_cons → Zj, length_cons → Zk, reverse_nil → Zm, cons_append → Zn, length_nil → Zo, nil_append → Zq, drop_eq_getElem_cons → Zs, getElem?_append_left → Zt, map_cons → Zu, drop_zero → Zv
open _root_.Nat renaming reduceEqDiff → Z0, reduceLeDiff → Z1, reduceAdd → Z3, le_of_ble_eq_true → Z4, reduceBEq → Z6, reduceMul → Z7
open _root_.Option renaming bind_some → Zl, map_some → Zp
open _root_.Go.Proofs.Tryz renaming prog → Ze
open Go.RowKit
section
attribute [local irreducible] on aOp
attribute [local go_sem] decide_true decide_false Zd Zc
attribute [local simp] byD_len
def rawU (p k acc : Nat) : Option (Nat × Nat) → D
 | none => .tup [.v (.int .u64 (0 : Int)), .v (.int .i64 p), .v (.bool false)]
 | some (m, c) => .tup [.v (.int .u64 ((acc + m * 2 ^ (7 * k) : Nat) : Int)), .v (.int .i64 ((p + k + c : Nat) : Int)), .v (.bool true)]
def rawD (l : List UInt8) (p : Nat) : D := rawU p 0 0 (numF 0 (l.drop p))
theorem rawU_more (p k acc b : Nat) (o : Option (Nat × Nat)) : rawU p k acc (match o with
 | none => none
 | some (n, c) => some (b % 128 + 128 * n, c + 1)) = rawU p (k + 1) (acc + b % 128 * 2 ^ (7 * k)) o := by
 rcases o with _ | ⟨m, c⟩
 · rfl
 · simp only [rawU]
   have e1 : acc + b % 128 * 2 ^ (7 * k) + m * 2 ^ (7 * (k + 1)) = acc + (b % 128 + 128 * m) * 2 ^ (7 * k) := by
    rw [show 7 * (k + 1) = 7 + 7 * k by omega, Nat.pow_add, Nat.add_mul, Nat.add_assoc, show m * (2 ^ 7 * 2 ^ (7 * k)) = 128 * m * 2 ^ (7 * k) by rw [← Nat.mul_assoc, Nat.mul_comm m]]
   rw [e1, show p + (k + 1) + c = p + k + (c + 1) by omega]
variable (G : Nat → D) (hG : ∀ g, low 0 (G g))
include hG
attribute [local go_sem] Bool.false_eq_true Z8 Z9 Za Zi Z3 Z6 Z0 Z1 Z7
attribute [local go_sem ↓] reduceIte
theorem raw_d (l : List UInt8) (p : Nat) (hl : l.length ≤ 1000000000) (hp : p ≤ l.length) (h : List Ob) :
 Does Ze G 136 h [.sl 1 (byD l), .v (.int .i64 p)] (fun h' r => h' = h ∧ r = rawD l p) := by
 refine Y5 Tryz.func136 rfl (Z4 rfl) hG fun hl0 _ => ?_
 simp only [Tryz.ntmps136]
 repeat' first
  | refine sA rfl ?_
  | refine Yr ?_
  | (refine ao1 rfl rfl fun K HK => ?_; simp only [go_sem] <;> (refine HK _ _ ?_; clear HK K))
 refine Yn (fun m e h' => ∃ (k acc : Nat), m = 10 - k ∧ k ≤ 10 ∧ acc < 2 ^ (7 * k) ∧ rawU p k acc (numF k (l.drop (p + k))) = rawD l p ∧ h' = h ∧ e 0 = .sl 1 (byD l) ∧ e 1 = .v (.int .i64 p) ∧ e 4 = .v (.int .u64 acc) ∧ e 7 = .v (.int .i64 k)) 10 ⟨0, 0, rfl, by omega, by decide, rfl, rfl, rfl, rfl, rfl, rfl⟩ ?_
 rintro m e h' ⟨k, acc, rfl, hk, ha, hJ, rfl, e0, e1, e4, e7⟩
 have w1 : IntKind.i64.wrap ((p : Int) + (k : Int)) = ((p + k : Nat) : Int) := IntWalk.i64_in _ (by omega)
 by_cases hend : k = 10 ∨ ¬ p + k < l.length
 · have hN : numF k (l.drop (p + k)) = none := by
    rcases hend with rfl | hend
    · exact numF_ge _ (by omega)
    · rw [List.drop_eq_nil_of_le (by omega)]; exact Zs4 _
   rw [hN] at hJ
   repeat' first
    | refine sA rfl ?_ | refine sI rfl rfl ?_ | refine sT rfl ?_ | refine sB rfl ?_
    | refine Yr ?_
    | (refine ao1 rfl rfl fun K HK => ?_; (first | refine Yh rfl ?_ | skip); simp only [go_sem, e0, e1, e4, e7, w1]; (first | refine X1 (fun hq => ?_) (fun hq => ?_) | (refine ⟨by omega, by omega, ?_⟩; intro row hrow; obtain ⟨x, hx, rfl⟩ := Ui hrow; clear hrow) | skip) <;> (refine HK _ _ ?_; clear HK K))
    | refine ao0 rfl rfl ?_
    | (exfalso; omega)
   all_goals first
   | (exfalso; omega)
   | exact ⟨.inr rfl, endD (r := .tup [.v (.int .u64 (0 : Int)), .v (.int .i64 p), .v (.bool false)]) hl0 rfl (by simp) (by simp) rfl (by simp [low, lowL]) ⟨rfl, hJ⟩⟩
 have hlt : p + k < l.length := by omega
 have hx : l[p + k]? = some l[p + k] := Zf hlt
 rw [Zs hlt] at hJ
 generalize l[p + k] = x at hx hJ
 have hxl := x.toNat_lt
 by_cases h9 : k = 9 ∧ 1 < x.toNat
 · rw [Yi1 _ h9] at hJ
   obtain ⟨rfl, h9⟩ := h9
   repeat' first
    | refine sA rfl ?_ | refine sI rfl rfl ?_ | refine sT rfl ?_ | refine sB rfl ?_
    | refine Yr ?_
    | (refine ao1 rfl rfl fun K HK => ?_; (first | refine Yh rfl ?_ | skip); simp only [go_sem, e0, e1, e4, e7, w1]; (first | refine X1 (fun hq => ?_) (fun hq => ?_) | (refine ⟨by omega, by omega, ?_⟩; refine W9 (by assumption) ?_) | skip) <;> (refine HK _ _ ?_; clear HK K))
    | refine ao0 rfl rfl ?_
    | (exfalso; omega)
   all_goals first
   | (exfalso; omega)
   | exact ⟨.inr rfl, endD (r := .tup [.v (.int .u64 (0 : Int)), .v (.int .i64 p), .v (.bool false)]) hl0 rfl (by simp) (by simp) rfl (by simp [low, lowL]) ⟨rfl, hJ⟩⟩
 obtain ⟨s1, s2, s3⟩ := Yf5 ha (by omega) h9 hxl
 have s4 : acc + x.toNat % 128 * 2 ^ (7 * k) < 18446744073709551616 := by
  rcases Nat.lt_or_ge k 9 with h | h
  · have : 2 ^ (7 * (k + 1)) ≤ 2 ^ 63 := Nat.pow_le_pow_right (by omega) (by omega)
    omega
  · have : k = 9 := by omega
    subst this
    have h2 : x.toNat % 128 * 2 ^ (7 * 9) ≤ 1 * 2 ^ 63 := Nat.mul_le_mul (by omega) (Nat.le_refl _)
    have h3 : (2 : Nat) ^ (7 * 9) = 2 ^ 63 := rfl
    omega
 have wk : IntKind.u64.wrap (k : Int) = (k : Int) := by rw [IntKind.wrap_u64]; omega
 have w2 : IntKind.u64.wrap (7 * (k : Int)) = ((7 * k : Nat) : Int) := by rw [IntKind.wrap_u64]; omega
 have w3 : decide (0 ≤ ((7 * k : Nat) : Int)) = true := decide_eq_true (by omega)
 have wr : (x.toNat : Int).tmod 128 = ((x.toNat % 128 : Nat) : Int) := by rw [Zr (by omega)]; rfl
 have w8 : IntKind.u64.wrap ((x.toNat % 128 : Nat) : Int) = ((x.toNat % 128 : Nat) : Int) := by rw [IntKind.wrap_u64]; omega
 have w4 := shl_val s1 (by omega)
 have w5 : IntKind.u64.wrap ((acc : Int) + ((x.toNat % 128 * 2 ^ (7 * k) : Nat) : Int)) = ((acc + x.toNat % 128 * 2 ^ (7 * k) : Nat) : Int) := by rw [IntKind.wrap_u64]; omega
 have w6 : IntKind.i64.wrap (((p + k : Nat) : Int) + 1) = ((p + k + 1 : Nat) : Int) := IntWalk.i64_in _ (by omega)
 have w7 : IntKind.i64.wrap ((k : Int) + 1) = ((k + 1 : Nat) : Int) := IntWalk.i64_in _ (by omega)
 repeat' first
  | refine sA rfl ?_ | refine sI rfl rfl ?_ | refine sT rfl ?_ | refine sB rfl ?_
  | refine Yr ?_
  | (refine ao1 rfl rfl fun K HK => ?_; (first | refine Yh rfl ?_ | skip); simp only [go_sem, e0, e1, e4, e7, w1, wk, w2, w3, wr, w8, w4, w5, w6, w7, Int.reduceBEq]; (first | refine X1 (fun hq => ?_) (fun hq => ?_) | (refine ⟨by omega, by omega, ?_⟩; refine W9 (by assumption) ?_) | skip) <;> (refine HK _ _ ?_; clear HK K))
  | refine ao0 rfl rfl ?_
  | (exfalso; omega)
 all_goals first
 | (exfalso; omega)
 | (rw [Zd3 _ (by omega) h9 (by omega), if_pos (by omega)] at hJ
    exact ⟨.inr rfl, endD (r := .tup [.v (.int .u64 (0 : Int)), .v (.int .i64 p), .v (.bool false)]) hl0 rfl (by simp) (by simp) rfl (by simp [low, lowL]) ⟨rfl, hJ⟩⟩)
 | (rw [Zd3 _ (by omega) h9 (by omega), if_neg (by omega)] at hJ
    have hm : x.toNat % 128 = x.toNat := Nat.mod_eq_of_lt (by omega)
    exact ⟨.inr rfl, endD (r := .tup [.v (.int .u64 ((acc + x.toNat % 128 * 2 ^ (7 * k) : Nat) : Int)), .v (.int .i64 ((p + k + 1 : Nat) : Int)), .v (.bool true)]) hl0 rfl (by simp) (by simp) rfl (by simp [low, lowL]) ⟨rfl, by rw [hm]; exact hJ⟩⟩)
 | (rw [Zl4 _ (by omega) h9 (by omega)] at hJ
    have hJ := (rawU_more p k acc x.toNat _).symm.trans hJ
    exact ⟨rfl, 10 - (k + 1), by omega, k + 1, acc + x.toNat % 128 * 2 ^ (7 * k), rfl, by omega, s3, hJ, rfl, by simp [upd, e0], by simp [upd, e1], rfl, rfl⟩)
end
section
attribute [local irreducible] on aOp
attribute [local go_sem] decide_true decide_false Zd Zc
variable (G : Nat → D) (hG : ∀ g, low 0 (G g))
def inOb (s : RS) : Ob := .cells [.sl 1 (byD s.data), .v (.int .i64 s.pos), .v (.int .i64 s.item), .v (.bool (decide (s.err ≠ 0)))]
theorem Zw0 {s : RS} (q : s.num = none) : rawD s.data s.pos = .tup [.v (.int .u64 (0 : Int)), .v (.int .i64 s.pos), .v (.bool false)] := by
 have q : numF 0 (s.data.drop s.pos) = none := q
 unfold rawD; rw [q]; rfl
theorem Zv9 {s : RS} {n c : Nat} (q : s.num = some (n, c)) : rawD s.data s.pos = .tup [.v (.int .u64 n), .v (.int .i64 ((s.pos : Int) + (c : Int))), .v (.bool true)] := by
 have q : numF 0 (s.data.drop s.pos) = some (n, c) := q
 unfold rawD; rw [q]; simp [rawU]
theorem Wz (s : RS) : inOb s = .cells [.sl 1 (byD s.data), .v (.int .i64 s.pos), .v (.int .i64 s.item), .v (.bool (decide (s.err ≠ 0)))] := rfl
theorem Xe (m : Nat) (s : RS) : Zx1 m (inOb s) := ⟨Ja m _, by simp [lowL, low]⟩
include hG
theorem raw_e {l : List UInt8} {p : Nat} {d : D} (q : rawD l p = d) (h : List Ob) (hl : l.length ≤ 1000000000) (hp : p ≤ l.length) : Does Ze G 136 h [.sl 1 (byD l), .v (.int .i64 p)] (fun h' r => h' = h ∧ r = d) := q ▸ raw_d G hG l p hl hp h
attribute [local go_sem] Z8 Z9 Za Z3 Z6 Z0 Z1 Z7
attribute [local go_sem ↓] reduceIte
theorem inUint_d (i : Nat) (s : RS) (h : List Ob) (hi : h[i]? = some (inOb s)) (ho : s.Ok) (hl : s.data.length ≤ 1000000000) :
 Does Ze G 135 h [.ptr i 0] (fun h' r => h' = h.set i (inOb (Yq s).2) ∧ r = .v (.int .u64 (Yq s).1)) := by
 have hil := (Z2.1 hi).1
 have g1 := fun ob => Zg (a := ob) hil
 have hi0 := hi
 rw [Wz] at hi
 refine Y5 Tryz.func135 rfl (Z4 rfl) hG fun hl0 _ => ?_
 simp only [Tryz.ntmps135]
 by_cases hb : s.err = 0
 rotate_left
 · rw [decide_eq_true hb] at hi
   repeat' first
    | (with_reducible first | refine sA rfl ?_ | refine sI rfl rfl ?_ | refine sT rfl ?_)
    | (with_reducible refine Y7 ?_; first | refine Yr ?_ | (refine ao1 rfl rfl fun K HK => ?_; simp only [go_sem, hi, g1] <;> (refine HK _ _ ?_; clear HK K)))
   refine ⟨by simp, endS (i := i) (ob := inOb s) (r := .v _) hl0 (Xe _ _) rfl (by simp [Wc hi0]) (by simp) rfl (by rw [low]; trivial) ⟨?_, ?_⟩⟩
   · unfold Yq; rw [if_pos hb]
   · unfold Yq; rw [if_pos hb]; rfl
 rw [decide_eq_false (fun h => h hb)] at hi
 rcases hN : s.num with _ | ⟨m, c⟩
 · have hr := Zw0 hN
   repeat' first
    | (with_reducible first | refine sA rfl ?_ | refine sI rfl rfl ?_ | refine sT rfl ?_)
    | (with_reducible refine Yj ?_; first | refine Yb mixd (by kernel_rfl) ?_)
    | (with_reducible refine Y7 ?_; first | refine Yr ?_ | (refine ao1 rfl rfl fun K HK => ?_; simp only [go_sem, hi, g1] <;> (refine HK _ _ ?_; clear HK K)) | (refine ao1' rfl fun K HK => ?_; simp only [go_sem, hi, g1]; refine HK _ _ ?_; clear HK K))
    | (with_reducible refine W2 ?_; first | (refine aq1 rfl rfl fun K HK => ?_; simp only [go_sem, hi, g1] <;> (refine HK _ _ rfl ?_; clear HK K)) | refine Jd ?_ | refine aq2 rfl rfl rfl Zi1 (raw_e G hG hr _ hl ho.pos) ?_)
   have hR : Yq s = (0, s.bad) := by unfold Yq; rw [if_neg (fun h => h hb), hN]
   refine ⟨by simp, endS (i := i) (ob := inOb s.bad) (r := .v _) hl0 (Xe _ _) rfl (by simp [inOb, RS.bad, putL_succ, putL_zero, Yd, Yc]) (by simp) rfl (by rw [low]; trivial) ⟨by rw [hR], by rw [hR]; rfl⟩⟩
 · have hr := Zv9 hN
   repeat' first
    | (with_reducible first | refine sA rfl ?_ | refine sI rfl rfl ?_ | refine sT rfl ?_)
    | (with_reducible refine Yj ?_; first | refine Yb mixd (by kernel_rfl) ?_)
    | (with_reducible refine Y7 ?_; first | refine Yr ?_ | (refine ao1 rfl rfl fun K HK => ?_; simp only [go_sem, hi, g1] <;> (refine HK _ _ ?_; clear HK K)) | (refine ao1' rfl fun K HK => ?_; simp only [go_sem, hi, g1]; refine HK _ _ ?_; clear HK K))
    | (with_reducible refine W2 ?_; first | (refine aq1 rfl rfl fun K HK => ?_; simp only [go_sem, hi, g1] <;> (refine HK _ _ rfl ?_; clear HK K)) | refine Jd ?_ | refine aq2 rfl rfl rfl Zi1 (raw_e G hG hr _ hl ho.pos) ?_)
   have hR : Yq s = (m, s.go c) := by unfold Yq; rw [if_neg (fun h => h hb), hN]
   refine ⟨by simp, endS (i := i) (ob := inOb (s.go c)) (r := .v _) hl0 (Xe _ _) rfl (by simp [inOb, RS.go, hb, putL_succ, putL_zero, Yd, Yc]) (by simp) rfl (by rw [low]; trivial) ⟨by rw [hR], by rw [hR]⟩⟩
theorem inFail_d (i : Nat) (s : RS) (h : List Ob) (hi : h[i]? = some (inOb s)) :
 Does Ze G 138 h [.ptr i 0] (fun h' r => h' = h.set i (inOb s.fail) ∧ r = .tup []) := by
 have hil := (Z2.1 hi).1
 have g1 := fun ob => Zg (a := ob) hil
 have hi0 := hi
 rw [Wz] at hi
 refine Y5 Tryz.func138 rfl (Z4 rfl) hG fun hl0 _ => ?_
 simp only [Tryz.ntmps138]
 by_cases hb : s.err = 0
 · rw [decide_eq_false (fun h => h hb)] at hi
   repeat' first
    | (with_reducible first | refine sA rfl ?_ | refine sI rfl rfl ?_ | refine sT rfl ?_)
    | (with_reducible refine Y7 ?_; first | refine Yr ?_ | (refine ao1 rfl rfl fun K HK => ?_; simp only [go_sem, hi, g1] <;> (refine HK _ _ ?_; clear HK K)) | (refine ao1' rfl fun K HK => ?_; simp only [go_sem, hi, g1]; refine HK _ _ ?_; clear HK K))
   have hR : s.fail = ⟨s.data, s.item, s.item, 2⟩ := by unfold RS.fail; rw [if_pos hb]
   refine ⟨by simp, endS (i := i) (ob := inOb s.fail) (r := .tup []) hl0 (Xe _ _) rfl (by simp [hR, inOb, putL_succ, putL_zero, Yd, Yc]) (by simp) rfl (by rw [low, lowL]; trivial) ⟨rfl, rfl⟩⟩
 · rw [decide_eq_true hb] at hi
   repeat' first
    | (with_reducible first | refine sA rfl ?_ | refine sI rfl rfl ?_ | refine sT rfl ?_)
    | (with_reducible refine Y7 ?_; first | refine Yr ?_ | (refine ao1 rfl rfl fun K HK => ?_; simp only [go_sem, hi, g1] <;> (refine HK _ _ ?_; clear HK K)))
   have hR : s.fail = s := by unfold RS.fail; rw [if_neg hb]
   refine ⟨by simp, endS (i := i) (ob := inOb s.fail) (r := .tup []) hl0 (Xe _ _) rfl (by simp [hR, Wc hi0]) (by simp) rfl (by rw [low, lowL]; trivial) ⟨rfl, rfl⟩⟩
theorem inEnd_d (i : Nat) (s : RS) (h : List Ob) (hi : h[i]? = some (inOb s)) :
 Does Ze G 57 h [.ptr i 0] (fun h' r => h' = h ∧ r = .v (.bool (decide (s.err = 0 ∧ s.pos = s.data.length)))) := by
 rw [Wz] at hi
 refine Y5 Tryz.func57 rfl (Z4 rfl) hG fun hl0 _ => ?_
 simp only [Tryz.ntmps57]
 by_cases hb : s.err = 0
 · rw [decide_eq_false (fun h => h hb)] at hi
   repeat' first
    | (with_reducible first | refine sA rfl ?_ | refine sT rfl ?_)
    | (with_reducible refine Yj ?_; first | refine Yb mixd (by kernel_rfl) ?_)
    | (with_reducible refine Y7 ?_; first | refine Yr ?_ | (refine ao1 rfl rfl fun K HK => ?_; (first | refine Yh rfl ?_ | skip); simp only [go_sem, hi]; (first | refine X1 (fun hq => ?_) (fun hq => ?_) | skip) <;> (refine HK _ _ ?_; clear HK K)))
    | (with_reducible refine W2 ?_; first | (refine aq1 rfl rfl fun K HK => ?_; (first | refine Yh rfl ?_ | skip); simp only [go_sem, hi]; (first | refine X1 (fun hq => ?_) (fun hq => ?_) | skip) <;> (refine HK _ _ rfl ?_; clear HK K)) | refine Jd ?_)
   all_goals
    refine ⟨by simp, endV hl0 rfl rfl ⟨rfl, ?_⟩⟩
    have hq' : (s.pos = s.data.length) = _ := propext ⟨fun h => (by omega : (s.pos : Int) = s.data.length), fun h => (by omega : s.pos = s.data.length)⟩
    simp [hb, hq', hq]
 · rw [decide_eq_true hb] at hi
   repeat' first
    | (with_reducible first | refine sA rfl ?_ | refine sT rfl ?_)
    | (with_reducible refine Yj ?_; first | refine Yb mixd (by kernel_rfl) ?_)
    | (with_reducible refine Y7 ?_; first | refine Yr ?_ | (refine ao1 rfl rfl fun K HK => ?_; (first | refine Yh rfl ?_ | skip); simp only [go_sem, hi] <;> (refine HK _ _ ?_; clear HK K)))
    | (with_reducible refine W2 ?_; first | (refine aq1 rfl rfl fun K HK => ?_; (first | refine Yh rfl ?_ | skip); simp only [go_sem, hi] <;> (refine HK _ _ rfl ?_; clear HK K)) | refine aq0 rfl rfl ?_ | refine Jd ?_)
   refine ⟨by simp, endV hl0 rfl rfl ⟨rfl, by simp [hb]⟩⟩
theorem inInt_d (i : Nat) (s : RS) (h : List Ob) (hi : h[i]? = some (inOb s)) (ho : s.Ok) (hl : s.data.length ≤ 1000000000) :
 Does Ze G 96 h [.ptr i 0] (fun h' r => h' = h.set i (inOb (Wy s).2) ∧ r = .v (.int .i64 (Wy s).1)) := by
 refine Y5 Tryz.func96 rfl (Z4 rfl) hG fun hl0 _ => ?_
 simp only [Tryz.ntmps96]
 have hlt := (Us ho).2.2
 have hc := inUint_d G hG i s h hi ho hl
 have hI : Wy s = (unzz (Yq s).1, (Yq s).2) := rfl
 rw [hI]
 generalize Yq s = ru at hc hlt ⊢
 obtain ⟨m, t⟩ := ru
 simp only at hc hlt ⊢
 have hw : IntKind.i64.wrap (((m : Nat) : Int) / 2) = (m : Int) / 2 := IntWalk.i64_in _ (by omega)
 have hw0 : IntKind.u64.wrap ((m : Int) / 2) = (m : Int) / 2 := by rw [IntKind.wrap_u64]; omega
 have hw2 : IntKind.i64.wrap (0 - ((m : Int) / 2)) = 0 - ((m : Int) / 2) := IntWalk.i64_in _ (by omega)
 have hw3 : IntKind.i64.wrap (0 - ((m : Int) / 2) - 1) = 0 - ((m : Int) / 2) - 1 := IntWalk.i64_in _ (by omega)
 have ht : (m : Int).tmod 2 = (m : Int) % 2 := by rw [Zr (by omega)]
 have hv : (m : Int).tdiv 2 = (m : Int) / 2 := by rw [Int.tdiv_eq_ediv_of_nonneg (by omega)]
 repeat' first
  | (with_reducible first | refine sA rfl ?_ | refine sI rfl rfl ?_ | refine sT rfl ?_)
  | (with_reducible refine Y7 ?_; first | refine Yr ?_ | (refine ao1 rfl rfl fun K HK => ?_; simp only [go_sem, hw, hw0, hw2, hw3, ht, hv, Int.reduceBEq]; (first | refine X1 (fun hq => ?_) (fun hq => ?_) | skip) <;> (refine HK _ _ ?_; clear HK K)) | (refine ao2 rfl rfl rfl ent_135 (hc) ?_; rintro _ _ ⟨rfl, rfl⟩))
 all_goals
  refine ⟨by simp, endS (i := i) (ob := inOb t) (r := .v _) hl0 (Xe _ _) rfl (by simp [Yd]) (by simp) rfl (by rw [low]; trivial) ⟨rfl, ?_⟩⟩
  congr 2
  unfold unzz
  split <;> omega
end
section
attribute [local irreducible] on aOp
attribute [local go_sem] decide_true decide_false Zd Zc
variable (G : Nat → D) (hG : ∀ g, low 0 (G g))
include hG
attribute [local go_sem] Z8 Z9 Za Zi Z3 Z6 Z0 Z1 Z7
attribute [local go_sem ↓] reduceIte
theorem inBool_d (i : Nat) (s : RS) (h : List Ob) (hi : h[i]? = some (inOb s)) (ho : s.Ok) (hl : s.data.length ≤ 1000000000) :
 Does Ze G 95 h [.ptr i 0] (fun h' r => h' = h.set i (inOb (Yx s).2) ∧ r = .v (.bool (Yx s).1)) := by
 have hil := (Z2.1 hi).1
 have hi0 := hi
 rw [Wz] at hi
 obtain ⟨g1, g2, g3, g4, g5⟩ := Wf hi
 refine Y5 Tryz.func95 rfl (Z4 rfl) hG fun hl0 _ => ?_
 simp only [Tryz.ntmps95]
 have hp := ho.pos
 by_cases hb : s.err = 0
 rotate_left
 · rw [decide_eq_true hb] at hi
   repeat' first
    | refine sA rfl ?_ | refine sI rfl rfl ?_ | refine sT rfl ?_
    | refine Yr ?_
    | (refine ao1 rfl rfl fun K HK => ?_; simp only [go_sem, hi, g1] <;> (refine HK _ _ ?_; clear HK K))
   have hR : Yx s = (false, s) := by unfold Yx; rw [if_pos hb]
   exact ⟨by simp, endS (i := i) (ob := inOb s) (r := .v _) hl0 (Xe _ _) rfl (by simp [Wc hi0]) (by simp) rfl (by rw [low]; trivial) ⟨by rw [hR], by rw [hR]⟩⟩
 rw [decide_eq_false (fun h => h hb)] at hi
 by_cases hlt : s.pos < s.data.length
 rotate_left
 · have hR : Yx s = (false, s.bad) := by unfold Yx; rw [if_neg (fun h => h hb), List.getElem?_eq_none (by omega)]
   repeat' first
    | refine sA rfl ?_ | refine sI rfl rfl ?_ | refine sT rfl ?_
    | refine Yr ?_
    | ((first | refine ao1 rfl rfl fun K HK => ?_ | refine aq1 rfl rfl fun K HK => ?_); (first | refine Yh rfl ?_ | skip); simp only [go_sem, hi, g1]; (first | refine X1 (fun hq => ?_) (fun hq => ?_) | (refine ⟨by omega, by omega, ?_⟩; intro row hrow; obtain ⟨x, hx, rfl⟩ := Ui hrow; clear hrow) | skip) <;> ((first | refine HK _ _ ?_ | refine HK _ _ rfl ?_); clear HK K))
    | refine aq0 rfl rfl ?_
    | refine Jd ?_
    | (refine Yb mixd (by kernel_rfl) ?_)
    | (refine ao1' rfl fun K HK => ?_; simp only [go_sem, hi, g1]; refine HK _ _ ?_; clear HK K)
    | (exfalso; omega)
   exact ⟨by simp, endS (i := i) (ob := inOb s.bad) (r := .v _) hl0 (Xe _ _) rfl (by simp [inOb, RS.bad, putL_succ, putL_zero, Yd]) (by simp) rfl (by rw [low]; trivial) ⟨by rw [hR], by rw [hR]⟩⟩
 have hx : s.data[s.pos]? = some s.data[s.pos] := Zf hlt
 generalize s.data[s.pos] = x at hx
 have w1 : IntKind.i64.wrap ((s.pos : Int) + 1) = (s.pos : Int) + 1 := IntWalk.i64_in _ (by omega)
 have w2 : IntKind.i64.wrap ((s.pos : Int) + 1 - 1) = (s.pos : Int) := by rw [show (s.pos : Int) + 1 - 1 = (s.pos : Int) by omega]; exact IntWalk.i64_in _ (by omega)
 repeat' first
  | refine sA rfl ?_ | refine sI rfl rfl ?_ | refine sT rfl ?_
  | refine Yr ?_
  | ((first | refine ao1 rfl rfl fun K HK => ?_ | refine aq1 rfl rfl fun K HK => ?_); (first | refine Yh rfl ?_ | skip); simp only [go_sem, hi, g1, w1, w2]; (first | refine X1 (fun hq => ?_) (fun hq => ?_) | (refine ⟨by omega, by omega, ?_⟩; refine W9 (by assumption) ?_) | skip) <;> ((first | refine HK _ _ ?_ | refine HK _ _ rfl ?_); clear HK K))
  | refine aq0 rfl rfl ?_
  | refine Jd ?_
  | (refine Yb mixd (by kernel_rfl) ?_)
  | (refine ao1' rfl fun K HK => ?_; simp only [go_sem, hi, g1, w1, w2]; refine HK _ _ ?_; clear HK K)
  | (exfalso; omega)
 all_goals
  have hR : Yx s = (if 1 < x.toNat then (false, s.bad) else (decide (x.toNat = 1), s.go 1)) := by unfold Yx; rw [if_neg (fun h => h hb), hx]
  first
  | (have hR2 : Yx s = (false, s.bad) := by (rw [hR, if_pos (by omega)])
     exact ⟨by simp, endS (i := i) (ob := inOb s.bad) (r := .v _) hl0 (Xe _ _) rfl (by simp [inOb, RS.bad, putL_succ, putL_zero, Yd]) (by simp) rfl (by rw [low]; trivial) ⟨by rw [hR2], by rw [hR2]⟩⟩)
  | (have hR2 : Yx s = (true, s.go 1) := by (rw [hR, if_neg (by omega), decide_eq_true (by omega)])
     exact ⟨by simp, endS (i := i) (ob := inOb (s.go 1)) (r := .v _) hl0 (Xe _ _) rfl (by simp [inOb, RS.go, hb, putL_succ, putL_zero, Yd]) (by simp) rfl (by rw [low]; trivial) ⟨by rw [hR2], by rw [hR2]⟩⟩)
  | (have hR2 : Yx s = (false, s.go 1) := by (rw [hR, if_neg (by omega), decide_eq_false (by omega)])
     exact ⟨by simp, endS (i := i) (ob := inOb (s.go 1)) (r := .v _) hl0 (Xe _ _) rfl (by simp [inOb, RS.go, hb, putL_succ, putL_zero, Yd]) (by simp) rfl (by rw [low]; trivial) ⟨by rw [hR2], by rw [hR2]⟩⟩)
theorem Zm2 (i : Nat) (s : RS) (h : List Ob) (hi : h[i]? = some (inOb s)) (ho : s.Ok) (hl : s.data.length ≤ 1000000000) :
 Does Ze G 97 h [.ptr i 0] (fun h' r => h' = h.set i (inOb (Y6 s).2) ∧ r = .v (.int .i64 ((Y6 s).1 : Nat))) := by
 have hil := (Z2.1 hi).1
 have hi0 := hi
 rw [Wz] at hi
 obtain ⟨g1, g2, g3, g4, g5⟩ := Wf hi
 refine Y5 Tryz.func97 rfl (Z4 rfl) hG fun hl0 _ => ?_
 simp only [Tryz.ntmps97]
 have hp := ho.pos
 by_cases hb : s.err = 0
 rotate_left
 · rw [decide_eq_true hb] at hi
   repeat' first
    | refine sA rfl ?_ | refine sI rfl rfl ?_ | refine sT rfl ?_
    | refine Yr ?_
    | (refine ao1 rfl rfl fun K HK => ?_; simp only [go_sem, hi, g1] <;> (refine HK _ _ ?_; clear HK K))
   have hR : Y6 s = (0, s) := by unfold Y6; rw [if_pos hb]
   exact ⟨by simp, endS (i := i) (ob := inOb s) (r := .v _) hl0 (Xe _ _) rfl (by simp [Wc hi0]) (by simp) rfl (by rw [low]; trivial) ⟨by rw [hR], by rw [hR]; rfl⟩⟩
 rw [decide_eq_false (fun h => h hb)] at hi
 rcases hN : s.num with _ | ⟨m, c⟩
 · have hr := Zw0 hN
   have hR : Y6 s = (0, s.bad) := by unfold Y6; rw [if_neg (fun h => h hb), hN]
   repeat' first
    | refine sA rfl ?_ | refine sI rfl rfl ?_ | refine sT rfl ?_
    | refine Yr ?_
    | ((first | refine ao1 rfl rfl fun K HK => ?_ | refine aq1 rfl rfl fun K HK => ?_); (first | refine Yh rfl ?_ | skip); simp only [go_sem, hi, g1] <;> ((first | refine HK _ _ ?_ | refine HK _ _ rfl ?_); clear HK K))
    | (refine Yb mixd (by kernel_rfl) ?_)
    | refine ao0 rfl rfl ?_
    | refine aq2 rfl rfl rfl Zi1 (raw_e G hG hr _ hl ho.pos) ?_
    | (refine ao1' rfl fun K HK => ?_; simp only [go_sem, hi, g1]; refine HK _ _ ?_; clear HK K)
   exact ⟨by simp, endS (i := i) (ob := inOb s.bad) (r := .v _) hl0 (Xe _ _) rfl (by simp [inOb, RS.bad, putL_succ, putL_zero, Yd]) (by simp) rfl (by rw [low]; trivial) ⟨by rw [hR], by rw [hR]; rfl⟩⟩
 · have hr := Zv9 hN
   obtain ⟨hn1, hn2, hn3, hn4⟩ := RS.num_some hN hp
   have w1 : IntKind.i64.wrap ((s.data.length : Int) - ((s.pos : Int) + (c : Int))) = (s.data.length : Int) - ((s.pos : Int) + (c : Int)) := IntWalk.i64_in _ (by omega)
   have w2 : IntKind.u64.wrap ((s.data.length : Int) - ((s.pos : Int) + (c : Int))) = (s.data.length : Int) - ((s.pos : Int) + (c : Int)) := by rw [IntKind.wrap_u64]; omega
   have w3 : m ≤ 1000000000 → IntKind.i64.wrap (m : Int) = (m : Int) := fun h => IntWalk.i64_in _ (by omega)
   have hR : Y6 s = (if s.data.length - (s.pos + c) < m then (0, s.bad) else (m, s.go c)) := by unfold Y6; rw [if_neg (fun h => h hb), hN]
   repeat' first
    | refine sA rfl ?_ | refine sI rfl rfl ?_ | refine sT rfl ?_
    | refine Yr ?_
    | ((first | refine ao1 rfl rfl fun K HK => ?_ | refine aq1 rfl rfl fun K HK => ?_); (first | refine Yh rfl ?_ | skip); simp only [go_sem, hi, g1, w1, w2]; (first | refine X1 (fun hq => ?_) (fun hq => ?_) | skip) <;> ((first | refine HK _ _ ?_ | refine HK _ _ rfl ?_); clear HK K))
    | (refine Yb mixd (by kernel_rfl) ?_)
    | refine aq2 rfl rfl rfl Zi1 (raw_e G hG hr _ hl ho.pos) ?_
    | (refine ao1' rfl fun K HK => ?_; simp only [go_sem, hi, g1, w1, w2]; refine HK _ _ ?_; clear HK K)
   all_goals
    first
    | (have hR2 : Y6 s = (0, s.bad) := by (rw [hR, if_pos (by omega)])
       exact ⟨by simp, endS (i := i) (ob := inOb s.bad) (r := .v _) hl0 (Xe _ _) rfl (by simp [inOb, RS.bad, putL_succ, putL_zero, Yd]) (by simp) rfl (by rw [low]; trivial) ⟨by rw [hR2], by rw [hR2]; rfl⟩⟩)
    | (have hR2 : Y6 s = (m, s.go c) := by (rw [hR, if_neg (by omega)])
       exact ⟨by simp, endS (i := i) (ob := inOb (s.go c)) (r := .v _) hl0 (Xe _ _) rfl (by simp [inOb, RS.go, hb, putL_succ, putL_zero, Yd]) (by simp) rfl (by rw [low]; trivial) ⟨by rw [hR2], by rw [hR2, w3 (by omega)]⟩⟩)
end
section
attribute [local irreducible] on aOp
attribute [local go_sem] decide_true decide_false Zd Zc
variable (G : Nat → D) (hG : ∀ g, low 0 (G g))
include hG
attribute [local go_sem] Z8 Z9 Za Z3 Z6 Z0 Z1 Z7
attribute [local go_sem ↓] reduceIte
theorem inBytes_d (i : Nat) (s : RS) (h : List Ob) (hi : h[i]? = some (inOb s)) (ho : s.Ok) (hl : s.data.length ≤ 1000000000) :
 Does Ze G 137 h [.ptr i 0] (fun h' r => h' = h.set i (inOb (X3 s).2) ∧ r = .sl 1 (byD (X3 s).1)) := by
 have hil := (Z2.1 hi).1
 have hi0 := hi
 rw [Wz] at hi
 obtain ⟨g1, g2, g3, g4, g5⟩ := Wf hi
 apply Does.weak
 refine Y5 Tryz.func137 rfl (Z4 rfl) hG fun hl0 _ => ?_
 simp only [Tryz.ntmps137]
 have hp := ho.pos
 by_cases hb : s.err = 0
 rotate_left
 · rw [decide_eq_true hb] at hi
   have F : _ ∧ _ := ⟨hi, g1⟩
   repeat' first
    | refine g0 ?_
    | fail
   have hR : X3 s = ([], s) := by unfold X3; rw [if_pos hb]
   exact ⟨by simp, endS (i := i) (ob := inOb s) (r := .v _) hl0 (Xe _ _) rfl (by simp [Wc hi0]) (by simp) rfl (by rw [low]; trivial) ⟨_, ⟨by rw [hR], by rw [hR]; rfl⟩, Zw7⟩⟩
 rw [decide_eq_false (fun h => h hb)] at hi
 rcases hN : s.num with _ | ⟨m, c⟩
 · have hr := Zw0 hN
   have hR : X3 s = ([], s.bad) := by unfold X3; rw [if_neg (fun h => h hb), hN]
   have F : _ ∧ _ := ⟨hi, g1⟩
   repeat' first
    | (with_reducible refine Yj ?_; refine Yb mixd (by kernel_rfl) ?_)
    | refine g0 ?_
    | (with_reducible refine W2 ?_; refine aq2 rfl rfl rfl Zi1 (raw_e G hG hr _ hl ho.pos) ?_)
   exact ⟨by simp, endS (i := i) (ob := inOb s.bad) (r := .v _) hl0 (Xe _ _) rfl (by simp [inOb, RS.bad, putL_succ, putL_zero, Yd]) (by simp) rfl (by rw [low]; trivial) ⟨_, ⟨by rw [hR], by rw [hR]; rfl⟩, Zw7⟩⟩
 · have hr := Zv9 hN
   obtain ⟨hn1, hn2, hn3, hn4⟩ := RS.num_some hN hp
   have w1 : IntKind.i64.wrap ((s.data.length : Int) - ((s.pos : Int) + (c : Int))) = (s.data.length : Int) - ((s.pos : Int) + (c : Int)) := IntWalk.i64_in _ (by omega)
   have w2 : IntKind.u64.wrap ((s.data.length : Int) - ((s.pos : Int) + (c : Int))) = (s.data.length : Int) - ((s.pos : Int) + (c : Int)) := by rw [IntKind.wrap_u64]; omega
   have hR : X3 s = (if s.data.length - (s.pos + c) < m then ([], s.bad) else ((s.data.drop (s.pos + c)).take m, s.go (c + m))) := by unfold X3; rw [if_neg (fun h => h hb), hN]
   by_cases hm : s.data.length - (s.pos + c) < m
   · have hR2 : X3 s = ([], s.bad) := by rw [hR, if_pos hm]
     have F : _ ∧ _ ∧ _ ∧ _ := ⟨hi, g1, w1, w2⟩
     repeat' first
      | (with_reducible refine Yj ?_; refine Yb mixd (by kernel_rfl) ?_)
      | refine g ?_
      | refine Two.mk (fun hq => ?_) fun hq => ?_
      | (with_reducible refine W2 ?_; refine aq2 rfl rfl rfl Zi1 (raw_e G hG hr _ hl ho.pos) ?_)
      | (exfalso; omega)
     exact ⟨by simp, endS (i := i) (ob := inOb s.bad) (r := .v _) hl0 (Xe _ _) rfl (by simp [inOb, RS.bad, putL_succ, putL_zero, Yd]) (by simp) rfl (by rw [low]; trivial) ⟨_, ⟨by rw [hR2], by rw [hR2]; rfl⟩, Zw7⟩⟩
   · have w3 : IntKind.i64.wrap (m : Int) = (m : Int) := IntWalk.i64_in _ (by omega)
     have w4 : IntKind.i64.wrap ((s.pos : Int) + (c : Int) + (m : Int)) = (s.pos : Int) + (c : Int) + (m : Int) := IntWalk.i64_in _ (by omega)
     have hR2 : X3 s = ((s.data.drop (s.pos + c)).take m, s.go (c + m)) := by rw [hR, if_neg hm]
     have F : _ ∧ _ ∧ _ ∧ _ ∧ _ ∧ _ ∧ _ ∧ _ ∧ _ ∧ _ := ⟨hi, g1, g2, g3, g4, g5, w1, w2, w3, w4⟩
     repeat' first
      | (with_reducible refine Yj ?_; refine X7 mixd (by kernel_rfl) ?_)
      | ((with_reducible refine Uc ?_); first | (refine aS1 rfl rfl fun K HK => ?_; (first | refine Yh rfl ?_ | skip); simp only [go_sem, F]; (first | refine X1 (fun hq => ?_) (fun hq => ?_) | (refine Ya8 (by simp only [go_sem, F]) rfl rfl (by first | omega | simp) (by first | omega | simp) (by simp only [go_sem, F]; omega) ?_) | skip) <;> (refine HK _ _ rfl ?_; clear HK K)) | refine Xg rfl rfl rfl (by (first | assumption | (simp only [go_sem, F]; rfl))) (by rw [getD_one (by simp only [go_sem, F])]; rfl) ?_ | refine Vn rfl rfl (by simp only [litD, Xf, go_sem, Zk, Zo, Zp, Zl, and_self, ↓reduceIte, Z0, Z3, Z1, Z6, Z7, Z8, Za, Z9, hi, g1, g2, g3, g4, g5, w1, w2, w3, w4]; rfl) ?_ | refine aS_appR rfl rfl rfl (by (first | assumption | (simp only [go_sem, F]; rfl))) (by simp) (by simp only [go_sem, F]; rfl) rfl (by (rw [Zp3]; exact Zc7 _)) (by (simp; omega)) ?_ | refine V4 (by simp only [Zj, Zm, Zq, Zn, W5, chk1]; repeat' (first | exact trivial | refine Zb ?_ ?_ | exact .inr X2 | exact .inr X4 | exact .inr Xj | (refine .inr ?_; simp [compat, Xw, Wa, Ws, nop] <;> omega) | exact .inl (by kernel_rfl))) ?_ | refine Wr rfl rfl rfl Zi1 (fun h2 => raw_e G hG hr _ hl ho.pos) ?_)
      | refine g ?_
      | refine Two.mk (fun hq => ?_) fun hq => ?_
      | (exfalso; omega)
     have e2 : ((s.pos : Int) + (c : Int) + (m : Int)).toNat = s.pos + c + m := by omega
     have e1 : ((s.pos : Int) + (c : Int)).toNat = s.pos + c := by omega
     refine ⟨by simp, endS (i := i) (ob := inOb (s.go (c + m))) (r := .sl 1 _) hl0 (Xe _ _) rfl (by simp [inOb, RS.go, hb, putL_succ, putL_zero, Yd, Yc, Int.add_assoc]) (by simp) (by simp [outD, cvD, cv1, upd_app]; rfl) ?_ ⟨_, ⟨by rw [hR2], rfl⟩, ?_⟩⟩
     · rw [Zp3, e1, e2]; exact Ja _ _
     · rw [Zp3, e1, e2, hR2, show (s.data.take (s.pos + c + m)).drop (s.pos + c) = (s.data.drop (s.pos + c)).take m by rw [List.drop_take]; congr 1; omega]
       exact fun _ _ _ _ h => h
end
section
attribute [local irreducible] on aOp
attribute [local go_sem] decide_true decide_false Zd Zc
variable (G : Nat → D) (hG : ∀ g, low 0 (G g))
include hG
attribute [local go_sem] Z8 Z9 Za Z3 Z6 Z0 Z1 Z7
attribute [local go_sem ↓] reduceIte
theorem Zb0 (i : Nat) (s : RS) (h : List Ob) (hi : h[i]? = some (inOb s)) (ho : s.Ok) (hl : s.data.length ≤ 1000000000) :
 Does Ze G 98 h [.ptr i 0] (fun h' r => h' = h.set i (inOb (Y9 s).2) ∧ r = .v (.string (Y9 s).1)) := by
 have hil := (Z2.1 hi).1
 refine Y5 Tryz.func98 rfl (Z4 rfl) hG fun hl0 _ => ?_
 simp only [Tryz.ntmps98]
 have F := hi
 repeat' first
  | refine g0 ?_
  | (with_reducible refine Y7 ?_; refine gc rfl rfl rfl ent_137 (inBytes_d G hG _ _ _ hi ho hl) ?_)
 refine ao1 rfl rfl fun K HK => ?_
 simp only [go_sem]
 refine bst_by (by simp only [go_sem]) (by simp only [go_sem]) ?_
 refine HK _ _ ?_; clear HK K
 have F := hi
 repeat' first
  | refine g0 ?_
  | fail
 exact ⟨by simp, endS (i := i) (ob := inOb (X3 s).2) (r := .v _) hl0 (Xe _ _) rfl (by simp [Yd]) (by simp) rfl (by rw [low]; trivial) ⟨rfl, rfl⟩⟩
end
section
attribute [local irreducible] on aOp
attribute [local go_sem] decide_true decide_false Zd Zc
variable (G : Nat → D) (hG : ∀ g, low 0 (G g))
def rdN (s : RS) : Nat × RS := Yp 9223372036854775807 s
include hG
theorem Zf7 (i : Nat) (s : RS) (h : List Ob) (hi : h[i]? = some (inOb s)) (ho : s.Ok) (hl : s.data.length ≤ 1000000000) :
 Does Ze G 99 h [.ptr i 0] (fun h' r => h' = h.set i (inOb (rdN s).2) ∧ r = .v (.int .i64 ((rdN s).1 : Nat))) := by
 have hil := (Z2.1 hi).1
 obtain ⟨g1, g2, g3, g4, g5⟩ := Wf hi
 have hR : rdN s = (if 9223372036854775807 < (Yq s).1 then 0 else (Yq s).1, if 9223372036854775807 < (Yq s).1 then (Yq s).2.fail else (Yq s).2) := rfl
 obtain ⟨_, _, hb⟩ := Us ho
 refine Y5 Tryz.func99 rfl (Z4 rfl) hG fun hl0 _ => ?_
 simp only [Tryz.ntmps99]
 have F : _ ∧ _ := ⟨hi, g1⟩
 repeat' first
  | refine g ?_
  | refine Two.mk (fun hq => ?_) fun hq => ?_
  | (with_reducible refine Y7 ?_; first | refine gc rfl rfl rfl ent_135 (inUint_d G hG _ _ _ hi ho hl) ?_ | refine gc rfl rfl rfl ent_138 (inFail_d G hG _ _ _ (g1 _)) ?_)
 · have hR2 : rdN s = (0, (Yq s).2.fail) := by (rw [hR, if_pos (by omega), if_pos (by omega)])
   exact ⟨by simp, endS (i := i) (ob := inOb (Yq s).2.fail) (r := .v _) hl0 (Xe _ _) rfl (by simp [Yd]) (by simp) rfl (by rw [low]; trivial) ⟨by rw [hR2], by rw [hR2]; rfl⟩⟩
 · have hR2 : rdN s = (Yq s) := by (rw [hR, if_neg (by omega), if_neg (by omega)])
   have w1 : IntKind.i64.wrap ((Yq s).1 : Int) = ((Yq s).1 : Int) := IntWalk.i64_in _ (by omega)
   exact ⟨by simp, endS (i := i) (ob := inOb (Yq s).2) (r := .v _) hl0 (Xe _ _) rfl (by simp [Yd]) (by simp) rfl (by rw [low]; trivial) ⟨by rw [hR2], by rw [hR2, w1]⟩⟩
end
section
def Jm (s : RS) : Tk × RS := (⟨((rdN s).1 : Nat), ((rdN (rdN s).2).1 : Nat)⟩, (rdN (rdN s).2).2)
def Zn4 (s : RS) : List Tk × RS := Yi Jm (Y6 s).1 (Y6 s).2
def Wn (s : RS) : En × RS := (⟨(Zn4 s).1, (Y9 (Zn4 s).2).1⟩, (Y9 (Zn4 s).2).2)
mutual
def Yg : Lat → RS → Val × RS
 | .mk k _ _ _ ps _, s =>
   if k = 1 then (.mk (if (Yx s).1 then 1 else 0) [] [] [], (Yx s).2)
   else if k = 2 ∨ k = 3 then (.mk (Wy s).1 [] [] [], (Wy s).2)
   else if k = 4 ∨ k = 10 then (.mk 0 (Yi Y9 (Y6 s).1 (Y6 s).2).1 [] [], (Yi Y9 (Y6 s).1 (Y6 s).2).2)
   else if k = 5 then (.mk 0 ((Yf3 ps (Y6 s).1 (Y6 s).2).1.map Prod.fst) ((Yf3 ps (Y6 s).1 (Y6 s).2).1.map Prod.snd) [], (Yf3 ps (Y6 s).1 (Y6 s).2).2)
   else if k = 8 then (if (rdN s).1 = 1 then (.mk 1 [(Y9 (rdN s).2).1] [] [], (Y9 (rdN s).2).2) else (.mk ((rdN s).1 : Nat) [] [] [], (rdN s).2))
   else if k = 9 then (.mk 0 [] [] (Yi Wn (Y6 s).1 (Y6 s).2).1, (Yi Wn (Y6 s).1 (Y6 s).2).2)
   else if k = 6 ∨ k = 7 then (.mk 0 [] (Ym ps s).1 [], (Ym ps s).2)
   else (.mk 0 [] [] [], s)
def Yf3 : List Lat → Nat → RS → List (ByteArray × Val) × RS
 | [], _, s => ([], s)
 | p :: _, n, s => Yi (Xn (Yg p)) n s
def Ym : List Lat → RS → List Val × RS
 | [], s => ([], s)
 | p :: ps, s => if s.err = 0 then ((Yg p s).1 :: (Ym ps (Yg p s).2).1, (Ym ps (Yg p s).2).2) else ([], s)
end
theorem takeV_1 {lo hi : Int} {ns : List ByteArray} {ps : List Lat} {rs : List Rl} (s : RS) : Yg (.mk 1 lo hi ns ps rs) s = (.mk (if (Yx s).1 then 1 else 0) [] [] [], (Yx s).2) := by rw [Yg, if_pos rfl]
theorem Yf1 {k lo hi : Int} {ns : List ByteArray} {ps : List Lat} {rs : List Rl} (hk : k = 2 ∨ k = 3) (s : RS) : Yg (.mk k lo hi ns ps rs) s = (.mk (Wy s).1 [] [] [], (Wy s).2) := by
 rw [Yg, if_neg (by omega), if_pos hk]
theorem Zu0 {k lo hi : Int} {ns : List ByteArray} {ps : List Lat} {rs : List Rl} (hk : k = 4 ∨ k = 10) (s : RS) : Yg (.mk k lo hi ns ps rs) s = (.mk 0 (Yi Y9 (Y6 s).1 (Y6 s).2).1 [] [], (Yi Y9 (Y6 s).1 (Y6 s).2).2) := by
 rw [Yg, if_neg (by omega), if_neg (by omega), if_pos hk]
theorem takeV_5 {lo hi : Int} {ns : List ByteArray} {p : Lat} {rs : List Rl} (s : RS) : Yg (.mk 5 lo hi ns [p] rs) s = (.mk 0 ((Yi (Xn (Yg p)) (Y6 s).1 (Y6 s).2).1.map Prod.fst) ((Yi (Xn (Yg p)) (Y6 s).1 (Y6 s).2).1.map Prod.snd) [], (Yi (Xn (Yg p)) (Y6 s).1 (Y6 s).2).2) := by
 rw [Yg, if_neg (by omega), if_neg (by omega), if_neg (by omega), if_pos rfl, Yf3]
theorem takeV_8 {lo hi : Int} {ns : List ByteArray} {ps : List Lat} {rs : List Rl} (s : RS) : Yg (.mk 8 lo hi ns ps rs) s = if (rdN s).1 = 1 then (.mk 1 [(Y9 (rdN s).2).1] [] [], (Y9 (rdN s).2).2) else (.mk ((rdN s).1 : Nat) [] [] [], (rdN s).2) := by
 rw [Yg, if_neg (by omega), if_neg (by omega), if_neg (by omega), if_neg (by omega), if_pos rfl]
theorem takeV_9 {lo hi : Int} {ns : List ByteArray} {ps : List Lat} {rs : List Rl} (s : RS) : Yg (.mk 9 lo hi ns ps rs) s = (.mk 0 [] [] (Yi Wn (Y6 s).1 (Y6 s).2).1, (Yi Wn (Y6 s).1 (Y6 s).2).2) := by
 rw [Yg, if_neg (by omega), if_neg (by omega), if_neg (by omega), if_neg (by omega), if_neg (by omega), if_pos rfl]
theorem Yf0 {k lo hi : Int} {ns : List ByteArray} {ps : List Lat} {rs : List Rl} (hk : k = 6 ∨ k = 7) (s : RS) : Yg (.mk k lo hi ns ps rs) s = (.mk 0 [] (Ym ps s).1 [], (Ym ps s).2) := by
 rw [Yg, if_neg (by omega), if_neg (by omega), if_neg (by omega), if_neg (by omega), if_neg (by omega), if_neg (by omega), if_pos hk]
end
section
attribute [local irreducible] on aOp
attribute [local go_sem] decide_true decide_false Zd Zc
theorem Xr (m : Nat) (l : List Val) : low m (.sl 4 (l.map vaX)) := by rw [low, ← Ye2]; exact Yi5 m l
variable (G : Nat → D) (hG : ∀ g, low 0 (G g))
def Zz7 (l : Lat) : Prop := ∀ (i : Nat) (s : RS) (h : List Ob), h[i]? = some (inOb s) → s.Ok → s.data.length ≤ 1000000 →
 Does Ze G 56 h [.ptr i 0, .agg (latX l)] (fun h' r => h' = h.set i (inOb (Yg l s).2) ∧ r = .agg (vaX (Yg l s).1))
include hG
attribute [local go_sem] Z8 Z9 Za Z3 Z6 Z0 Z1 Z7
attribute [local go_sem ↓] reduceIte
theorem take_23 (l : Lat) (hk : l.kind = 2 ∨ l.kind = 3) : Zz7 G l := fun i s h hi ho hl => by
 have hil := (Z2.1 hi).1
 obtain ⟨g1, g2, g3, g4, g5⟩ := Wf hi
 have hR : Yg l s = (.mk (Wy s).1 [] [] [], (Wy s).2) := by cases l; exact Yf1 hk s
 rw [hR, Y4, Ya]
 simp only [Val.n, Val.names, Val.parts, Val.entries, Zh]
 apply Does.weak
 refine Y5 Tryz.func56 rfl (Z4 rfl) hG fun hl0 _ => ?_
 simp only [Tryz.ntmps56]
 rcases hk with hk | hk
 all_goals
  have F : _ ∧ _ ∧ _ ∧ _ ∧ _ ∧ _ ∧ _ := ⟨hi, g1, g2, g3, g4, g5, hk⟩
  repeat' first
   | refine g0 ?_
   | (with_reducible refine Y7 ?_; refine gc rfl rfl rfl ent_96 (inInt_d G hG _ _ _ (g3 _) ho (by omega)) ?_)
 all_goals
  exact ⟨by simp, endS (i := i) (ob := inOb (Wy s).2) (ds := [.agg [.v (.int .i64 (Wy s).1), .v (.slice none 0 0), .v (.slice none 0 0), .v (.slice none 0 0)]]) (r := .agg [.v (.int .i64 (Wy s).1), .v (.slice none 0 0), .v (.slice none 0 0), .v (.slice none 0 0)]) hl0 (Xe _ _) (by simp only [resD, Tryz.results56, go_sem, ↓reduceIte, Z0, Z3, Z1]) (by first | exact Yc | exact Yd | (simp only [Yd, Yc, g4]; done)) (by simp; try omega) (by simp [outD, cvD, cv1]) (by rw [low]; repeat' first | exact trivial | exact Yv _ _ | exact Wq _ _ | exact Xr _ _ | (rw [lowL]; refine Zb ?_ ?_) | (rw [lowL]; done) | (simp [low, lowL, lowR, strX]; done)) ⟨_, ⟨rfl, rfl⟩, V5 (Y8 (Ys _) (Y8 Ye (Y8 Ye (Y8 Ye Xl))))⟩⟩
theorem take_1 (l : Lat) (hk : l.kind = 1) : Zz7 G l := fun i s h hi ho hl => by
 have hil := (Z2.1 hi).1
 obtain ⟨g1, g2, g3, g4, g5⟩ := Wf hi
 have hR : Yg l s = (.mk (if (Yx s).1 then 1 else 0) [] [] [], (Yx s).2) := by cases l; cases hk; exact takeV_1 s
 rw [hR, Y4, Ya]
 simp only [Val.n, Val.names, Val.parts, Val.entries, Zh]
 have HB : ∀ (b : Bool) (t : List Ob), (Yx s).1 = b → Does Ze G 95 (h ++ t) [.ptr i 0] (fun h' r => h' = (h ++ t).set i (inOb (Yx s).2) ∧ r = .v (.bool b)) := fun b t q => by
  have := inBool_d G hG i s (h ++ t) (g3 _) ho (by omega)
  rw [q] at this; exact this
 apply Does.weak
 refine Y5 Tryz.func56 rfl (Z4 rfl) hG fun hl0 _ => ?_
 simp only [Tryz.ntmps56]
 cases hb : (Yx s).1
 · skip
   have F : _ ∧ _ ∧ _ ∧ _ ∧ _ ∧ _ ∧ _ := ⟨hi, g1, g2, g3, g4, g5, hk⟩
   repeat' first
    | refine g0 ?_
    | (with_reducible refine Y7 ?_; refine gc rfl rfl rfl ent_95 (HB _ _ hb) ?_)
   exact ⟨by simp, endS (i := i) (ob := inOb (Yx s).2) (ds := [.agg [.v (.int .i64 0), .v (.slice none 0 0), .v (.slice none 0 0), .v (.slice none 0 0)]]) (r := .agg [.v (.int .i64 0), .v (.slice none 0 0), .v (.slice none 0 0), .v (.slice none 0 0)]) hl0 (Xe _ _) (by simp only [resD, Tryz.results56, go_sem, ↓reduceIte, Z0, Z3, Z1]) (by first | exact Yc | exact Yd | (simp only [Yd, Yc, g4]; done)) (by simp; try omega) (by simp [outD, cvD, cv1]) (by rw [low]; repeat' first | exact trivial | exact Yv _ _ | exact Wq _ _ | exact Xr _ _ | (rw [lowL]; refine Zb ?_ ?_) | (rw [lowL]; done) | (simp [low, lowL, lowR, strX]; done)) ⟨_, ⟨rfl, rfl⟩, V5 (Y8 (Ys _) (Y8 Ye (Y8 Ye (Y8 Ye Xl))))⟩⟩
 · skip
   have F : _ ∧ _ ∧ _ ∧ _ ∧ _ ∧ _ ∧ _ := ⟨hi, g1, g2, g3, g4, g5, hk⟩
   repeat' first
    | refine g0 ?_
    | (with_reducible refine Y7 ?_; refine gc rfl rfl rfl ent_95 (HB _ _ hb) ?_)
   exact ⟨by simp, endS (i := i) (ob := inOb (Yx s).2) (ds := [.agg [.v (.int .i64 1), .v (.slice none 0 0), .v (.slice none 0 0), .v (.slice none 0 0)]]) (r := .agg [.v (.int .i64 1), .v (.slice none 0 0), .v (.slice none 0 0), .v (.slice none 0 0)]) hl0 (Xe _ _) (by simp only [resD, Tryz.results56, go_sem, ↓reduceIte, Z0, Z3, Z1]) (by first | exact Yc | exact Yd | (simp only [Yd, Yc, g4]; done)) (by simp; try omega) (by simp [outD, cvD, cv1]) (by rw [low]; repeat' first | exact trivial | exact Yv _ _ | exact Wq _ _ | exact Xr _ _ | (rw [lowL]; refine Zb ?_ ?_) | (rw [lowL]; done) | (simp [low, lowL, lowR, strX]; done)) ⟨_, ⟨rfl, rfl⟩, V5 (Y8 (Ys _) (Y8 Ye (Y8 Ye (Y8 Ye Xl))))⟩⟩
theorem take_8 (l : Lat) (hk : l.kind = 8) : Zz7 G l := fun i s h hi ho hl => by
 have hil := (Z2.1 hi).1
 obtain ⟨g1, g2, g3, g4, g5⟩ := Wf hi
 have hR : Yg l s = if (rdN s).1 = 1 then (.mk 1 [(Y9 (rdN s).2).1] [] [], (Y9 (rdN s).2).2) else (.mk ((rdN s).1 : Nat) [] [] [], (rdN s).2) := by cases l; cases hk; exact takeV_8 s
 obtain ⟨ho2, hd2⟩ := Xb 9223372036854775807 ho
 rw [hR, Y4]
 apply Does.weak
 refine Y5 Tryz.func56 rfl (Z4 rfl) hG fun hl0 _ => ?_
 simp only [Tryz.ntmps56]
 by_cases hn : (rdN s).1 = 1
 · simp only [if_pos hn, Ya, Val.n, Val.names, Val.parts, Val.entries, Zh, Zu]
   have hn' : ((rdN s).1 : Int) = 1 := by omega
   have F : _ ∧ _ ∧ _ ∧ _ ∧ _ ∧ _ ∧ _ ∧ _ := ⟨hi, g1, g2, g3, g4, g5, hk, hn'⟩
   repeat' first
    | refine g0 ?_
    | (with_reducible refine Y7 ?_; refine gc rfl rfl rfl Yd1 (Zf7 G hG _ _ _ (g3 _) ho (by omega)) ?_)
    | ((with_reducible refine Y7 ?_); first | refine gc rfl rfl rfl Zy3 (Zb0 G hG i (rdN s).2 _ (by simp only [g2, g4]) ho2 (by rw [rdN, hd2]; omega)) ?_)
   exact ⟨by simp, endS (i := i) (ob := inOb (Y9 (rdN s).2).2) (ds := [.agg [.v (.int .i64 1), .buf (h.length + 3) 1, .v (.slice none 0 0), .v (.slice none 0 0)]]) (r := .agg [.v (.int .i64 1), .sl 1 [strX (Y9 (rdN s).2).1], .v (.slice none 0 0), .v (.slice none 0 0)]) hl0 (Xe _ _) (by simp only [resD, Tryz.results56, go_sem, ↓reduceIte, Z0, Z3, Z1, go_sem, strX]) (by first | exact Yc | exact Yd | (simp only [Yd, Yc, g4]; done)) (by simp; try omega) (by simp [outD, cvD, cv1, go_sem, strX]) (by rw [low]; repeat' first | exact trivial | exact Yv _ _ | exact Wq _ _ | exact Xr _ _ | (rw [lowL]; refine Zb ?_ ?_) | (rw [lowL]; done) | (simp [low, lowL, lowR, strX]; done)) ⟨_, ⟨rfl, rfl⟩, V5 (Y8 (Ys _) (Y8 (Ys _) (Y8 Ye (Y8 Ye Xl))))⟩⟩
 · simp only [if_neg hn, Ya, Val.n, Val.names, Val.parts, Val.entries, Zh, Zu]
   have hn' : ¬ ((rdN s).1 : Int) = 1 := by omega
   have F : _ ∧ _ ∧ _ ∧ _ ∧ _ ∧ _ ∧ _ ∧ _ := ⟨hi, g1, g2, g3, g4, g5, hk, hn'⟩
   repeat' first
    | refine g0 ?_
    | (with_reducible refine Y7 ?_; refine gc rfl rfl rfl Yd1 (Zf7 G hG _ _ _ (g3 _) ho (by omega)) ?_)
   exact ⟨by simp, endS (i := i) (ob := inOb (rdN s).2) (ds := [.agg [.v (.int .i64 ((rdN s).1 : Nat)), .v (.slice none 0 0), .v (.slice none 0 0), .v (.slice none 0 0)]]) (r := .agg [.v (.int .i64 ((rdN s).1 : Nat)), .v (.slice none 0 0), .v (.slice none 0 0), .v (.slice none 0 0)]) hl0 (Xe _ _) (by simp only [resD, Tryz.results56, go_sem, ↓reduceIte, Z0, Z3, Z1]) (by first | exact Yc | exact Yd | (simp only [Yd, Yc, g4]; done)) (by simp; try omega) (by simp [outD, cvD, cv1]) (by rw [low]; repeat' first | exact trivial | exact Yv _ _ | exact Wq _ _ | exact Xr _ _ | (rw [lowL]; refine Zb ?_ ?_) | (rw [lowL]; done) | (simp [low, lowL, lowR, strX]; done)) ⟨_, ⟨rfl, rfl⟩, V5 (Y8 (Ys _) (Y8 Ye (Y8 Ye (Y8 Ye Xl))))⟩⟩
end
section
attribute [local irreducible] on aOp
attribute [local go_sem] decide_true decide_false Zd Zc
variable (G : Nat → D) (hG : ∀ g, low 0 (G g))
def NB (m0 : Nat) (T : List Ob) (d : D) (acc : List ByteArray) : Prop := (acc = [] ∧ d = .v (.slice none 0 0)) ∨ ∃ t, T[t]? = some (.buf 9 1 (acc.map strX)) ∧ d = .buf (m0 + (t + 3)) acc.length
theorem Xd {s : RS} (h : s.Ok) : (Y9 s).2.Ok ∧ (Y9 s).2.data = s.data := ⟨(Vb h).1, (Vb h).2.1⟩
theorem LoopAt.next {α : Type} {R : List α × RS} {f : RS → α × RS} {acc : List α} {n : Nat} {s : RS} (h : LoopAt R f acc (n - acc.length) s) (he : s.err = 0) (hlt : acc.length < n) : LoopAt R f (acc ++ [(f s).1]) (n - (acc ++ [(f s).1]).length) (f s).2 := by
 rw [show n - acc.length = (n - (acc ++ [(f s).1]).length) + 1 by simp; omega] at h
 exact h.step he
theorem LoopAt.stop {α : Type} {R : List α × RS} {f : RS → α × RS} {acc : List α} {n : Nat} {s : RS} (h : LoopAt R f acc (n - acc.length) s) (hq : s.err ≠ 0 ∨ n ≤ acc.length) : R = (acc, s) := by
 rcases hq with hq | hq
 · exact h.endE hq
 · rw [show n - acc.length = 0 by omega] at h; exact h.end0
include hG
attribute [local go_sem] Z8 Z9 Za List.map_append Zu Zh Z3 Z6 Z0 Z1 Z7 Wz
attribute [local go_sem ↓] reduceIte
theorem take_410 (l : Lat) (hk : l.kind = 4 ∨ l.kind = 10) : Zz7 G l := fun i s h hi ho hl => by
 have hil := (Z2.1 hi).1
 obtain ⟨g1, g2, g3, g4, g5⟩ := Wf hi
 have hR : Yg l s = (.mk 0 (Yi Y9 (Y6 s).1 (Y6 s).2).1 [] [], (Yi Y9 (Y6 s).1 (Y6 s).2).2) := by cases l; exact Zu0 hk s
 obtain ⟨ho2, hd2, hn2⟩ := We ho
 rw [hR, Y4]
 generalize hRe : Yi Y9 (Y6 s).1 (Y6 s).2 = R at *
 simp only [Ya, Val.n, Val.names, Val.parts, Val.entries, Zh]
 apply Does.weak
 refine Y5 Tryz.func56 rfl (Z4 rfl) hG fun hl0 _ => ?_
 simp only [Tryz.ntmps56]
 rcases hk with hk | hk
 all_goals
  have F : _ ∧ _ ∧ _ ∧ _ ∧ _ ∧ _ ∧ _ := ⟨hi, g1, g2, g3, g4, g5, hk⟩
  repeat' first
   | refine g0 ?_
   | (with_reducible refine Y7 ?_; refine gc rfl rfl rfl ent_97 (Zm2 G hG _ _ _ (g3 _) ho (by omega)) ?_)
  refine Yn (fun m e h' => ∃ (acc : List ByteArray) (s' : RS) (B : Ob) (T : List Ob) (d : D), acc.length ≤ (Y6 s).1 ∧ m = (Y6 s).1 - acc.length ∧ LoopAt R Y9 acc ((Y6 s).1 - acc.length) s' ∧ s'.Ok ∧ s'.data = s.data ∧ NB h.length T d acc ∧
   h' = h.set i (inOb s') ++ (B :: .cells [.v (.int .i64 0), .v (.slice none 0 0), .v (.slice none 0 0), .v (.slice none 0 0)] :: .cells [.v (.int .i64 0), d, .v (.slice none 0 0), .v (.slice none 0 0)] :: T) ∧
   e 0 = .ptr i 0 ∧ e 4 = .ptr (h.length + 1) 0 ∧ e 5 = .ptr (h.length + 2) 0 ∧ e 6 = .v (.int .i64 ((Y6 s).1 : Nat)) ∧ e 7 = .v (.int .i64 (acc.length : Nat))) (Y6 s).1
   ⟨[], (Y6 s).2, _, [], _, Nat.zero_le _, rfl, by rw [← hRe]; exact LoopAt.start _ _ _, ho2, hd2, .inl ⟨rfl, rfl⟩, by first | rfl | (simp only [g4]; rfl), rfl, rfl, rfl, rfl, rfl⟩ ?_
  clear hi g1 g2 g3 g4 g5
  rintro m e h' ⟨acc, s', B, T, d, ha, rfl, hLp, ho', hd', hNB, rfl, e0, e4, e5, e6, e7⟩
  have g1 : ∀ (x : Ob) (l : List Ob), (h.set i x ++ l)[i]? = some x := fun x l => by rw [Zt (by simpa using hil)]; exact Zg hil
  have g2 : ∀ (x y : Ob) (l : List Ob), (h.set i x ++ l).set i y = h.set i y ++ l := fun x y l => by rw [List.set_append_left _ _ (by simpa using hil), List.set_set]
  have hi : (h.set i (inOb s') ++ (B :: .cells [.v (.int .i64 0), .v (.slice none 0 0), .v (.slice none 0 0), .v (.slice none 0 0)] :: .cells [.v (.int .i64 0), d, .v (.slice none 0 0), .v (.slice none 0 0)] :: T))[i]? = some (inOb s') := g1 _ _
  have hl' : s'.data.length ≤ 1000000000 := by rw [hd']; omega
  have wa : IntKind.i64.wrap ((acc.length : Int) + 1) = (acc.length : Int) + 1 := IntWalk.i64_in _ (by omega)
  rcases hNB with ⟨hac, rfl⟩ | ⟨t, ht, rfl⟩
  · skip
    have F : _ ∧ _ ∧ _ ∧ _ ∧ _ ∧ _ ∧ _ ∧ _ := ⟨g1, g2, e0, e4, e5, e6, e7, wa⟩
    repeat' first
     | (with_reducible refine Yj ?_; refine X7 mixd (by kernel_rfl) ?_)
     | ((with_reducible refine Uc ?_); first | (refine aS1 rfl rfl fun K HK => ?_; (first | refine Yh rfl ?_ | skip); simp only [go_sem, F]; (first | refine X1 (fun hq => ?_) (fun hq => ?_) | skip) <;> (refine HK _ _ rfl ?_; clear HK K)) | refine Xg rfl rfl rfl (by (first | assumption | (simp only [go_sem, F]; rfl))) (by rw [getD_one (by simp only [go_sem, F])]; rfl) ?_ | refine V3 rfl rfl (by (first | assumption | (simp only [go_sem, F]; rfl))) rfl (by simp only [go_sem, F]) (by simp) ?_ | refine Vn rfl rfl (by simp only [litD, Xf, go_sem, Zk, Zo, Zp, Zl, and_self, ↓reduceIte, Z0, Z3, Z1, Z6, Z7, Z8, Za, Z9, g1, g2, e0, e4, e5, e6, e7, wa, Wz]; rfl) ?_ | refine Zt2 rfl rfl rfl rfl (by simp only [go_sem, F]; rfl) (by (first | assumption | (simp only [go_sem, F]; rfl))) (by simp) (by (simp [Yz, D.one, Value.oneCell']; done)) (by (simp; done)) ?_ | refine V4 (by simp only [Zj, Zm, Zq, Zn, W5, chk1]; repeat' (first | exact trivial | refine Zb ?_ ?_ | exact .inr X2 | exact .inr X4 | exact .inr (Xi (by omega)) | exact .inr (Wu (by omega)) | (refine .inr ?_; simp [compat, Xw, Wa, Ws, nop] <;> omega) | exact .inl (by kernel_rfl))) ?_ | refine Xt rfl rfl rfl Zy3 (by (first | assumption | (simp only [go_sem, F]; rfl))) (fun h2 k2 => Zb0 G hG i s' h2 k2 ho' hl') ?_)
     | refine g ?_
     | refine Two.mk (fun hq => ?_) fun hq => ?_
    · skip
      obtain rfl := hLp.stop (by omega)
      subst hac
      exact ⟨by simp, endS (i := i) (ob := inOb s') (ds := [.agg [.v (.int .i64 0), .v (.slice none 0 0), .v (.slice none 0 0), .v (.slice none 0 0)]]) (r := .agg [.v (.int .i64 0), .v (.slice none 0 0), .v (.slice none 0 0), .v (.slice none 0 0)]) hl0 (Xe _ _) (by simp only [resD, Tryz.results56, go_sem, ↓reduceIte, Z0, Z3, Z1, go_sem, Z5, e4]) (by first | exact Yc | exact Yd | (simp only [Yd, Yc, g4]; done)) (by simp; try omega) (by simp [outD, cvD, cv1, go_sem, Z5, e4]) (by rw [low]; repeat' first | exact trivial | exact Yv _ _ | exact Wq _ _ | exact Xr _ _ | (rw [lowL]; refine Zb ?_ ?_) | (rw [lowL]; done) | (simp [low, lowL, lowR, strX]; done)) ⟨_, ⟨rfl, rfl⟩, V5 (Y8 (Ys _) (Y8 Ye (Y8 Ye (Y8 Ye Xl))))⟩⟩
    · skip
      refine ⟨rfl, (Y6 s).1 - (acc ++ [(Y9 s').1]).length, by simp; omega, acc ++ [(Y9 s').1], (Y9 s').2, B, T ++ [.buf 9 1 [strX (Y9 s').1], .buf 9 1 [strX (Y9 s').1]], .buf (h.length + (T.length + 1 + 3)) 1, by simp; omega, rfl, hLp.next (by omega) (by omega), (Xd ho').1, (Xd ho').2.trans hd', .inr ⟨T.length + 1, by simp [hac, strX], by simp [hac]⟩, ?_, by simp only [go_sem, g1, g2, e0, e4, e5, e6, e7, wa], by simp only [go_sem, g1, g2, e0, e4, e5, e6, e7, wa], by simp only [go_sem, g1, g2, e0, e4, e5, e6, e7, wa], by simp only [go_sem, g1, g2, e0, e4, e5, e6, e7, wa], by simp only [go_sem, g1, g2, e0, e4, e5, e6, e7, wa]; simp⟩
      simp only [go_sem, g1, g2, e0, e4, e5, e6, e7, wa, strX]
      try rfl
    · skip
      obtain rfl := hLp.stop (by omega)
      subst hac
      exact ⟨by simp, endS (i := i) (ob := inOb s') (ds := [.agg [.v (.int .i64 0), .v (.slice none 0 0), .v (.slice none 0 0), .v (.slice none 0 0)]]) (r := .agg [.v (.int .i64 0), .v (.slice none 0 0), .v (.slice none 0 0), .v (.slice none 0 0)]) hl0 (Xe _ _) (by simp only [resD, Tryz.results56, go_sem, ↓reduceIte, Z0, Z3, Z1, go_sem, Z5, e4]) (by first | exact Yc | exact Yd | (simp only [Yd, Yc, g4]; done)) (by simp; try omega) (by simp [outD, cvD, cv1, go_sem, Z5, e4]) (by rw [low]; repeat' first | exact trivial | exact Yv _ _ | exact Wq _ _ | exact Xr _ _ | (rw [lowL]; refine Zb ?_ ?_) | (rw [lowL]; done) | (simp [low, lowL, lowR, strX]; done)) ⟨_, ⟨rfl, rfl⟩, V5 (Y8 (Ys _) (Y8 Ye (Y8 Ye (Y8 Ye Xl))))⟩⟩
  · skip
    obtain ⟨q1, q2, q3, q4, q5⟩ := Wf ht
    have F : _ ∧ _ ∧ _ ∧ _ ∧ _ ∧ _ ∧ _ ∧ _ ∧ _ ∧ _ ∧ _ ∧ _ ∧ _ := ⟨g1, g2, e0, e4, e5, e6, e7, wa, q1, q2, q3, q4, q5⟩
    repeat' first
     | (with_reducible refine Yj ?_; refine X7 mixd (by kernel_rfl) ?_)
     | ((with_reducible refine Uc ?_); first | (refine aS1 rfl rfl fun K HK => ?_; (first | refine Yh rfl ?_ | skip); simp only [go_sem, F]; (first | refine X1 (fun hq => ?_) (fun hq => ?_) | skip) <;> (refine HK _ _ rfl ?_; clear HK K)) | refine Xg rfl rfl rfl (by (first | assumption | (simp only [go_sem, F]; rfl))) (by rw [getD_one (by simp only [go_sem, F])]; rfl) ?_ | refine V3 rfl rfl (by (first | assumption | (simp only [go_sem, F]; rfl))) rfl (by simp only [go_sem, F]) (by simp) ?_ | refine Vn rfl rfl (by simp only [litD, Xf, go_sem, Zk, Zo, Zp, Zl, and_self, ↓reduceIte, Z0, Z3, Z1, Z6, Z7, Z8, Za, Z9, g1, g2, e0, e4, e5, e6, e7, wa, Wz, q1, q2, q3, q4, q5]; rfl) ?_ | refine Ux rfl rfl rfl rfl (by (first | assumption | (simp only [go_sem, F]; rfl))) (by simp) (by simp only [go_sem, F]; rfl) (by (first | assumption | (simp only [go_sem, F]; rfl))) (by simp) (by (simp [Yz, D.one, Value.oneCell']; done)) (by (simp; omega)) ?_ | refine V4 (by simp only [Zj, Zm, Zq, Zn, W5, chk1]; repeat' (first | exact trivial | refine Zb ?_ ?_ | exact .inr X2 | exact .inr X4 | exact .inr (Xi (by omega)) | exact .inr (Wu (by omega)) | (refine .inr ?_; simp [compat, Xw, Wa, Ws, nop] <;> omega) | exact .inl (by kernel_rfl))) ?_ | refine Xt rfl rfl rfl Zy3 (by (first | assumption | (simp only [go_sem, F]; rfl))) (fun h2 k2 => Zb0 G hG i s' h2 k2 ho' hl') ?_)
     | refine g ?_
     | refine Two.mk (fun hq => ?_) fun hq => ?_
    · skip
      obtain rfl := hLp.stop (by omega)
      exact ⟨by simp, endS (i := i) (ob := inOb s') (ds := [.agg [.v (.int .i64 0), .buf (h.length + (t + 3)) acc.length, .v (.slice none 0 0), .v (.slice none 0 0)]]) (r := .agg [.v (.int .i64 0), .sl 1 (acc.map strX), .v (.slice none 0 0), .v (.slice none 0 0)]) hl0 (Xe _ _) (by simp only [resD, Tryz.results56, go_sem, ↓reduceIte, Z0, Z3, Z1, go_sem, Z5, e4, ht]) (by first | exact Yc | exact Yd | (simp only [Yd, Yc, g4]; done)) (by simp; try omega) (by simp [outD, cvD, cv1, go_sem, Z5, e4, ht]) (by rw [low]; repeat' first | exact trivial | exact Yv _ _ | exact Wq _ _ | exact Xr _ _ | (rw [lowL]; refine Zb ?_ ?_) | (rw [lowL]; done) | (simp [low, lowL, lowR, strX]; done)) ⟨_, ⟨rfl, rfl⟩, V5 (Y8 (Ys _) (Y8 (Ys _) (Y8 Ye (Y8 Ye Xl))))⟩⟩
    · skip
      refine ⟨rfl, (Y6 s).1 - (acc ++ [(Y9 s').1]).length, by simp; omega, acc ++ [(Y9 s').1], (Y9 s').2, B, T.set t (.buf 9 1 ((acc ++ [(Y9 s').1]).map strX)) ++ [.buf 9 1 [strX (Y9 s').1]], .buf (h.length + (t + 3)) (acc ++ [(Y9 s').1]).length, by simp; omega, rfl, hLp.next (by omega) (by omega), (Xd ho').1, (Xd ho').2.trans hd', .inr ⟨t, q2 _ _, rfl⟩, ?_, by simp only [go_sem, g1, g2, e0, e4, e5, e6, e7, wa], by simp only [go_sem, g1, g2, e0, e4, e5, e6, e7, wa], by simp only [go_sem, g1, g2, e0, e4, e5, e6, e7, wa], by simp only [go_sem, g1, g2, e0, e4, e5, e6, e7, wa], by simp only [go_sem, g1, g2, e0, e4, e5, e6, e7, wa]; simp⟩
      simp only [go_sem, g1, g2, e0, e4, e5, e6, e7, wa, q1, q2, q3, q4, q5, strX]
      try rfl
    · skip
      obtain rfl := hLp.stop (by omega)
      exact ⟨by simp, endS (i := i) (ob := inOb s') (ds := [.agg [.v (.int .i64 0), .buf (h.length + (t + 3)) acc.length, .v (.slice none 0 0), .v (.slice none 0 0)]]) (r := .agg [.v (.int .i64 0), .sl 1 (acc.map strX), .v (.slice none 0 0), .v (.slice none 0 0)]) hl0 (Xe _ _) (by simp only [resD, Tryz.results56, go_sem, ↓reduceIte, Z0, Z3, Z1, go_sem, Z5, e4, ht]) (by first | exact Yc | exact Yd | (simp only [Yd, Yc, g4]; done)) (by simp; try omega) (by simp [outD, cvD, cv1, go_sem, Z5, e4, ht]) (by rw [low]; repeat' first | exact trivial | exact Yv _ _ | exact Wq _ _ | exact Xr _ _ | (rw [lowL]; refine Zb ?_ ?_) | (rw [lowL]; done) | (simp [low, lowL, lowR, strX]; done)) ⟨_, ⟨rfl, rfl⟩, V5 (Y8 (Ys _) (Y8 (Ys _) (Y8 Ye (Y8 Ye Xl))))⟩⟩
end
section
attribute [local irreducible] on aOp
attribute [local go_sem] decide_true decide_false Zd Zc
variable (G : Nat → D) (hG : ∀ g, low 0 (G g))
def PB (m0 : Nat) (T : List Ob) (d : D) (acc : List Val) : Prop := (acc = [] ∧ d = .v (.slice none 0 0)) ∨ ∃ t, T[t]? = some (.buf 30 4 (acc.map vaX)) ∧ d = .buf (m0 + (t + 3)) acc.length
theorem JoR (v : Val) : Yz 4 [vaX v] := fun row hr => by
 rw [List.mem_singleton.1 hr]
 refine ⟨X8 v, fun d hd => ?_⟩
 rw [Ya] at hd
 simp at hd
 rcases hd with rfl | rfl | rfl | rfl <;> rfl
def PtAt (R : List Val × RS) (ps : List Lat) (acc : List Val) (s : RS) : Prop := R = (acc ++ (Ym (ps.drop acc.length) s).1, (Ym (ps.drop acc.length) s).2)
theorem Yf2 {ps : List Lat} {s : RS} (h : s.err ≠ 0) : Ym ps s = ([], s) := by
 cases ps with
 | nil => rw [Ym]
 | cons p t => rw [Ym, if_neg h]
theorem PtAt.stop {R : List Val × RS} {ps : List Lat} {acc : List Val} {s : RS} (h : PtAt R ps acc s) (hq : s.err ≠ 0 ∨ ps.length ≤ acc.length) : R = (acc, s) := by
 unfold PtAt at h
 rcases hq with hq | hq
 · rw [Yf2 hq, List.append_nil] at h; exact h
 · rw [List.drop_eq_nil_of_le hq, Ym, List.append_nil] at h; exact h
theorem PtAt.next {R : List Val × RS} {ps : List Lat} {acc : List Val} {s : RS} {p : Lat} (h : PtAt R ps acc s) (hp : ps[acc.length]? = some p) (he : s.err = 0) : PtAt R ps (acc ++ [(Yg p s).1]) (Yg p s).2 := by
 unfold PtAt at h ⊢
 have hl := (Z2.1 hp)
 obtain ⟨hl, hpe⟩ := hl
 rw [Zs hl, hpe, Ym, if_pos he] at h
 rw [h]
 simp
include hG
attribute [local go_sem] Int.ofNat_lt Z8 Z9 Za Zi Zv Z5 List.map_append Zu Zh Z3 Z6 Z0 Z1 Z7 Wz Xz Wh X8
attribute [local go_sem ↓] reduceIte
theorem take_67 (l : Lat) (hk : l.kind = 6 ∨ l.kind = 7) (hb : l.parts.length ≤ 1000) (hrec : ∀ p ∈ l.parts, Zz7 G p) (hok : ∀ p ∈ l.parts, ∀ s : RS, s.Ok → (Yg p s).2.Ok ∧ (Yg p s).2.data = s.data) : Zz7 G l := fun i s h hi ho hl => by
 have hil := (Z2.1 hi).1
 obtain ⟨g1, g2, g3, g4, g5⟩ := Wf hi
 have hR : Yg l s = (.mk 0 [] (Ym l.parts s).1 [], (Ym l.parts s).2) := by cases l; exact Yf0 hk s
 rw [hR, Y4]
 generalize hRe : Ym l.parts s = R at *
 simp only [Ya, Val.n, Val.names, Val.parts, Val.entries, Zh]
 apply Does.weak
 refine Y5 Tryz.func56 rfl (Z4 rfl) hG fun hl0 _ => ?_
 simp only [Tryz.ntmps56]
 rcases hk with hk | hk
 all_goals
  have F : _ ∧ _ ∧ _ ∧ _ ∧ _ ∧ _ ∧ _ := ⟨hi, g1, g2, g3, g4, g5, hk⟩
  repeat' first
   | refine g0 ?_
   | fail
  refine Yn (fun m e h' => ∃ (acc : List Val) (s' : RS) (T : List Ob) (d : D), acc.length ≤ l.parts.length ∧ m = l.parts.length - acc.length ∧ PtAt R l.parts acc s' ∧ s'.Ok ∧ s'.data = s.data ∧ PB h.length T d acc ∧
   h' = h.set i (inOb s') ++ (.cells [.v (.int .i64 l.kind), .v (.int .i64 l.lo), .v (.int .i64 l.hi), .sl 1 (l.names.map strX), .sl 6 (l.parts.map latX), .sl 2 (l.rules.map Zh3)] :: .cells [.v (.int .i64 0), .v (.slice none 0 0), .v (.slice none 0 0), .v (.slice none 0 0)] :: .cells [.v (.int .i64 0), .v (.slice none 0 0), d, .v (.slice none 0 0)] :: T) ∧
   e 0 = .ptr i 0 ∧ e 3 = .ptr h.length 0 ∧ e 4 = .ptr (h.length + 1) 0 ∧ e 5 = .ptr (h.length + 2) 0 ∧ e 16 = .v (.int .i64 (acc.length : Nat))) l.parts.length
   ⟨[], s, [], _, Nat.zero_le _, rfl, by rw [← hRe]; rfl, ho, rfl, .inl ⟨rfl, rfl⟩, by first | rfl | (rw [Wc hi, hk]; done) | (rw [Wc hi, hk]; rfl) | (simp only [g4]; rfl), rfl, rfl, rfl, rfl, rfl⟩ ?_
  clear hi g1 g2 g3 g4 g5
  rintro m e h' ⟨acc, s', T, d, ha, rfl, hLp, ho', hd', hNB, rfl, e0, e3, e4, e5, e16⟩
  have g1 : ∀ (x : Ob) (l : List Ob), (h.set i x ++ l)[i]? = some x := fun x l => by rw [Zt (by simpa using hil)]; exact Zg hil
  have g2 : ∀ (x y : Ob) (l : List Ob), (h.set i x ++ l).set i y = h.set i y ++ l := fun x y l => by rw [List.set_append_left _ _ (by simpa using hil), List.set_set]
  have hl' : s'.data.length ≤ 1000000 := by rw [hd']; omega
  have wa : IntKind.i64.wrap ((acc.length : Int) + 1) = (acc.length : Int) + 1 := IntWalk.i64_in _ (by omega)
  rcases hNB with ⟨hac, rfl⟩ | ⟨t, ht, rfl⟩
  · skip
    by_cases hlt : acc.length < l.parts.length
    · skip
      obtain ⟨p, hp⟩ : ∃ p, l.parts[acc.length]? = some p := ⟨_, Zf hlt⟩
      have hpm := List.mem_of_getElem? hp
      have hpo := hok p hpm s' ho'
      have hrk : Yz 4 [vaX (Yg p s').1] := JoR _
      have F : _ ∧ _ ∧ _ ∧ _ ∧ _ ∧ _ ∧ _ ∧ _ := ⟨g1, g2, e0, e3, e4, e5, e16, wa⟩
      repeat' first
       | (with_reducible refine Yj ?_; refine X7 mixd (by kernel_rfl) ?_)
       | ((with_reducible refine Uc ?_); first | (refine aS1 rfl rfl fun K HK => ?_; (first | refine Yh rfl ?_ | skip); simp only [go_sem, F]; (first | refine X1 (fun hq => ?_) (fun hq => ?_) | (refine ⟨by omega, by omega, ?_⟩; refine W9 (by assumption) ?_) | skip) <;> (refine HK _ _ rfl ?_; clear HK K)) | refine Xg rfl rfl rfl (by (first | (simp only [go_sem, F]; rfl) | (simp only [go_sem, F]; done))) (by rw [getD_one (by simp only [go_sem, F])]; rfl) ?_ | refine V3 rfl rfl (by (first | (simp only [go_sem, F]; rfl) | (simp only [go_sem, F]; done))) rfl (by simp only [go_sem, F]) (by simp) ?_ | refine Vn rfl rfl (by simp only [litD, Xf, go_sem, Zk, Zo, Zp, Zl, and_self, ↓reduceIte, Z0, Z3, Z1, Z6, Z7, Z8, Za, Z9, g1, g2, e0, e3, e4, e5, e16, wa, Wz, Zi, Xz, Wh, Zv, X8, Z5, Int.ofNat_lt]; rfl) ?_ | refine Zt2 rfl rfl rfl rfl (by simp only [go_sem, F]; rfl) (by (first | (simp only [go_sem, F]; rfl) | (simp only [go_sem, F]; done))) (by simp) (by assumption) (by (simp; done)) ?_ | refine V4 (by simp only [Zj, Zm, Zq, Zn, W5, chk1]; repeat' (first | exact trivial | refine Zb ?_ ?_ | exact .inr X2 | exact .inr X4 | exact .inr Xj | exact .inr (Xi (by omega)) | exact .inr (Wu (by omega)) | (refine .inr ?_; simp [compat, Xw, Wa, Ws, nop, Xz, X8] <;> omega) | exact .inl (by kernel_rfl))) ?_ | refine Xt rfl rfl rfl Zy5 (by (first | (simp only [go_sem, F]; rfl) | (simp only [go_sem, F]; done))) (fun h2 k2 => hrec p hpm i s' h2 k2 ho' hl') ?_)
       | refine g ?_
       | refine Two.mk (fun hq => ?_) fun hq => ?_
       | (exfalso; omega)
      · skip
        obtain rfl := hLp.stop (by omega)
        subst hac
        exact ⟨by simp, endS (i := i) (ob := inOb s') (ds := [.agg [.v (.int .i64 0), .v (.slice none 0 0), .v (.slice none 0 0), .v (.slice none 0 0)]]) (r := .agg [.v (.int .i64 0), .v (.slice none 0 0), .v (.slice none 0 0), .v (.slice none 0 0)]) hl0 (Xe _ _) (by simp only [resD, Tryz.results56, go_sem, ↓reduceIte, Z0, Z3, Z1, go_sem, Z5, e4]) (by first | exact Yc | exact Yd | (simp only [Yd, Yc, g4]; done)) (by simp; try omega) (by simp [outD, cvD, cv1, go_sem, Z5, e4]) (by rw [low]; repeat' first | exact trivial | exact Yv _ _ | exact Wq _ _ | exact Xr _ _ | (rw [lowL]; refine Zb ?_ ?_) | (rw [lowL]; done) | (simp [low, lowL, lowR, strX]; done)) ⟨_, ⟨rfl, rfl⟩, V5 (Y8 (Ys _) (Y8 Ye (Y8 Ye (Y8 Ye Xl))))⟩⟩
      · skip
        refine ⟨rfl, l.parts.length - (acc ++ [(Yg p s').1]).length, by simp; omega, acc ++ [(Yg p s').1], (Yg p s').2, T ++ [.buf 30 4 [vaX (Yg p s').1], .buf 30 4 [vaX (Yg p s').1]], .buf (h.length + (T.length + 1 + 3)) 1, by simp; omega, rfl, hLp.next hp (by omega), hpo.1, hpo.2.trans hd', .inr ⟨T.length + 1, by simp [hac], by simp [hac]⟩, ?_, by simp only [go_sem, g1, g2, e0, e3, e4, e5, e16, wa], by simp only [go_sem, g1, g2, e0, e3, e4, e5, e16, wa], by simp only [go_sem, g1, g2, e0, e3, e4, e5, e16, wa], by simp only [go_sem, g1, g2, e0, e3, e4, e5, e16, wa], by simp only [go_sem, g1, g2, e0, e3, e4, e5, e16, wa]; simp⟩
        simp only [go_sem, g1, g2, e0, e3, e4, e5, e16, wa]
        try rfl
    · skip
      have F : _ ∧ _ ∧ _ ∧ _ ∧ _ ∧ _ ∧ _ ∧ _ := ⟨g1, g2, e0, e3, e4, e5, e16, wa⟩
      repeat' first
       | (with_reducible refine Yj ?_; refine X7 mixd (by kernel_rfl) ?_)
       | ((with_reducible refine Uc ?_); first | (refine aS1 rfl rfl fun K HK => ?_; (first | refine Yh rfl ?_ | skip); simp only [go_sem, F]; (first | refine X1 (fun hq => ?_) (fun hq => ?_) | (refine ⟨by omega, by omega, ?_⟩; intro row hrow; obtain ⟨x, hx, rfl⟩ := Ui hrow; clear hrow) | skip) <;> (refine HK _ _ rfl ?_; clear HK K)) | refine Xg rfl rfl rfl (by (simp only [go_sem, F]; rfl)) (by rw [getD_one (by simp only [go_sem, F])]; rfl) ?_)
       | refine g ?_
       | refine Two.mk (fun hq => ?_) fun hq => ?_
       | refine Evry.mk fun x hx => ?_
       | (exfalso; omega)
      obtain rfl := hLp.stop (by omega)
      subst hac
      exact ⟨by simp, endS (i := i) (ob := inOb s') (ds := [.agg [.v (.int .i64 0), .v (.slice none 0 0), .v (.slice none 0 0), .v (.slice none 0 0)]]) (r := .agg [.v (.int .i64 0), .v (.slice none 0 0), .v (.slice none 0 0), .v (.slice none 0 0)]) hl0 (Xe _ _) (by simp only [resD, Tryz.results56, go_sem, ↓reduceIte, Z0, Z3, Z1, go_sem, Z5, e4]) (by first | exact Yc | exact Yd | (simp only [Yd, Yc, g4]; done)) (by simp; try omega) (by simp [outD, cvD, cv1, go_sem, Z5, e4]) (by rw [low]; repeat' first | exact trivial | exact Yv _ _ | exact Wq _ _ | exact Xr _ _ | (rw [lowL]; refine Zb ?_ ?_) | (rw [lowL]; done) | (simp [low, lowL, lowR, strX]; done)) ⟨_, ⟨rfl, rfl⟩, V5 (Y8 (Ys _) (Y8 Ye (Y8 Ye (Y8 Ye Xl))))⟩⟩
  · skip
    obtain ⟨q1, q2, q3, q4, q5⟩ := Wf ht
    by_cases hlt : acc.length < l.parts.length
    · skip
      obtain ⟨p, hp⟩ : ∃ p, l.parts[acc.length]? = some p := ⟨_, Zf hlt⟩
      have hpm := List.mem_of_getElem? hp
      have hpo := hok p hpm s' ho'
      have hrk : Yz 4 [vaX (Yg p s').1] := JoR _
      have F : _ ∧ _ ∧ _ ∧ _ ∧ _ ∧ _ ∧ _ ∧ _ ∧ _ ∧ _ ∧ _ ∧ _ ∧ _ := ⟨g1, g2, e0, e3, e4, e5, e16, wa, q1, q2, q3, q4, q5⟩
      repeat' first
       | (with_reducible refine Yj ?_; refine X7 mixd (by kernel_rfl) ?_)
       | ((with_reducible refine Uc ?_); first | (refine aS1 rfl rfl fun K HK => ?_; (first | refine Yh rfl ?_ | skip); simp only [go_sem, F]; (first | refine X1 (fun hq => ?_) (fun hq => ?_) | (refine ⟨by omega, by omega, ?_⟩; refine W9 (by assumption) ?_) | skip) <;> (refine HK _ _ rfl ?_; clear HK K)) | refine Xg rfl rfl rfl (by (first | assumption | (simp only [go_sem, F]; rfl) | (simp only [go_sem, F]; done))) (by rw [getD_one (by simp only [go_sem, F])]; rfl) ?_ | refine V3 rfl rfl (by (first | assumption | (simp only [go_sem, F]; rfl) | (simp only [go_sem, F]; done))) rfl (by simp only [go_sem, F]) (by simp) ?_ | refine Vn rfl rfl (by simp only [litD, Xf, go_sem, Zk, Zo, Zp, Zl, and_self, ↓reduceIte, Z0, Z3, Z1, Z6, Z7, Z8, Za, Z9, g1, g2, e0, e3, e4, e5, e16, wa, Wz, Zi, Xz, Wh, Zv, X8, Z5, Int.ofNat_lt, q1, q2, q3, q4, q5]; rfl) ?_ | refine Ux rfl rfl rfl rfl (by (first | assumption | (simp only [go_sem, F]; rfl) | (simp only [go_sem, F]; done))) (by simp) (by simp only [go_sem, F]; rfl) (by (first | assumption | (simp only [go_sem, F]; rfl) | (simp only [go_sem, F]; done))) (by simp) (by assumption) (by (simp; omega)) ?_ | refine V4 (by simp only [Zj, Zm, Zq, Zn, W5, chk1]; repeat' (first | exact trivial | refine Zb ?_ ?_ | exact .inr X2 | exact .inr X4 | exact .inr Xj | exact .inr (Xi (by omega)) | exact .inr (Wu (by omega)) | (refine .inr ?_; simp [compat, Xw, Wa, Ws, nop, Xz, X8] <;> omega) | exact .inl (by kernel_rfl))) ?_ | refine Xt rfl rfl rfl Zy5 (by (first | assumption | (simp only [go_sem, F]; rfl) | (simp only [go_sem, F]; done))) (fun h2 k2 => hrec p hpm i s' h2 k2 ho' hl') ?_)
       | refine g ?_
       | refine Two.mk (fun hq => ?_) fun hq => ?_
       | (exfalso; omega)
      · skip
        obtain rfl := hLp.stop (by omega)
        exact ⟨by simp, endS (i := i) (ob := inOb s') (ds := [.agg [.v (.int .i64 0), .v (.slice none 0 0), .buf (h.length + (t + 3)) acc.length, .v (.slice none 0 0)]]) (r := .agg [.v (.int .i64 0), .v (.slice none 0 0), .sl 4 (acc.map vaX), .v (.slice none 0 0)]) hl0 (Xe _ _) (by simp only [resD, Tryz.results56, go_sem, ↓reduceIte, Z0, Z3, Z1, go_sem, Z5, e4, ht]) (by first | exact Yc | exact Yd | (simp only [Yd, Yc, g4]; done)) (by simp; try omega) (by simp [outD, cvD, cv1, go_sem, Z5, e4, ht]) (by rw [low]; repeat' first | exact trivial | exact Yv _ _ | exact Wq _ _ | exact Xr _ _ | (rw [lowL]; refine Zb ?_ ?_) | (rw [lowL]; done) | (simp [low, lowL, lowR, strX]; done)) ⟨_, ⟨rfl, rfl⟩, V5 (Y8 (Ys _) (Y8 Ye (Y8 (Ys _) (Y8 Ye Xl))))⟩⟩
      · skip
        refine ⟨rfl, l.parts.length - (acc ++ [(Yg p s').1]).length, by simp; omega, acc ++ [(Yg p s').1], (Yg p s').2, T.set t (.buf 30 4 ((acc ++ [(Yg p s').1]).map vaX)) ++ [.buf 30 4 [vaX (Yg p s').1]], .buf (h.length + (t + 3)) (acc ++ [(Yg p s').1]).length, by simp; omega, rfl, hLp.next hp (by omega), hpo.1, hpo.2.trans hd', .inr ⟨t, q2 _ _, rfl⟩, ?_, by simp only [go_sem, g1, g2, e0, e3, e4, e5, e16, wa], by simp only [go_sem, g1, g2, e0, e3, e4, e5, e16, wa], by simp only [go_sem, g1, g2, e0, e3, e4, e5, e16, wa], by simp only [go_sem, g1, g2, e0, e3, e4, e5, e16, wa], by simp only [go_sem, g1, g2, e0, e3, e4, e5, e16, wa]; simp⟩
        simp only [go_sem, g1, g2, e0, e3, e4, e5, e16, wa, q1, q2, q3, q4, q5]
        try rfl
    · skip
      have F : _ ∧ _ ∧ _ ∧ _ ∧ _ ∧ _ ∧ _ ∧ _ ∧ _ ∧ _ ∧ _ ∧ _ ∧ _ := ⟨g1, g2, e0, e3, e4, e5, e16, wa, q1, q2, q3, q4, q5⟩
      repeat' first
       | (with_reducible refine Yj ?_; refine X7 mixd (by kernel_rfl) ?_)
       | ((with_reducible refine Uc ?_); first | (refine aS1 rfl rfl fun K HK => ?_; (first | refine Yh rfl ?_ | skip); simp only [go_sem, F]; (first | refine X1 (fun hq => ?_) (fun hq => ?_) | (refine ⟨by omega, by omega, ?_⟩; intro row hrow; obtain ⟨x, hx, rfl⟩ := Ui hrow; clear hrow) | skip) <;> (refine HK _ _ rfl ?_; clear HK K)) | refine Xg rfl rfl rfl (by (first | assumption | (simp only [go_sem, F]; rfl))) (by rw [getD_one (by simp only [go_sem, F])]; rfl) ?_)
       | refine g ?_
       | refine Two.mk (fun hq => ?_) fun hq => ?_
       | refine Evry.mk fun x hx => ?_
       | (exfalso; omega)
      obtain rfl := hLp.stop (by omega)
      exact ⟨by simp, endS (i := i) (ob := inOb s') (ds := [.agg [.v (.int .i64 0), .v (.slice none 0 0), .buf (h.length + (t + 3)) acc.length, .v (.slice none 0 0)]]) (r := .agg [.v (.int .i64 0), .v (.slice none 0 0), .sl 4 (acc.map vaX), .v (.slice none 0 0)]) hl0 (Xe _ _) (by simp only [resD, Tryz.results56, go_sem, ↓reduceIte, Z0, Z3, Z1, go_sem, Z5, e4, ht]) (by first | exact Yc | exact Yd | (simp only [Yd, Yc, g4]; done)) (by simp; try omega) (by simp [outD, cvD, cv1, go_sem, Z5, e4, ht]) (by rw [low]; repeat' first | exact trivial | exact Yv _ _ | exact Wq _ _ | exact Xr _ _ | (rw [lowL]; refine Zb ?_ ?_) | (rw [lowL]; done) | (simp [low, lowL, lowR, strX]; done)) ⟨_, ⟨rfl, rfl⟩, V5 (Y8 (Ys _) (Y8 Ye (Y8 (Ys _) (Y8 Ye Xl))))⟩⟩
end
end Go.Proofs.YtmdjnaobllajmaaGreatDoor
