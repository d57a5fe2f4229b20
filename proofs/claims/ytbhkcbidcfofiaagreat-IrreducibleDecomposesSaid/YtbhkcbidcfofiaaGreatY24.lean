/-
  What the statements of the chapter share, part 24: RT0, RR1, RR2, RR3, RR4, RR5, RR6, VA7, VA8, VA9, VA10.
-/
import Derived.Test.YtbhkcbidcfofiaaGreatY10
import Derived.Test.YtbhkcbidcfofiaaGreatY14
import Derived.Test.YtbhkcbidcfofiaaGreatY16
import Derived.Test.YtbhkcbidcfofiaaGreatY21
set_option linter.unusedVariables false
set_option linter.unusedSimpArgs false
set_option maxRecDepth 100000
set_option maxHeartbeats 8000000
namespace Go.Proofs.YtbhkcbidcfofiaaGreat
open _root_.Bool renaming false_eq_true → Z4, not_false → Zi, not_true → Zj
open _root_.Int renaming reduceEq → Za, reduceLE → Zb, reduceLT → Zc, toNat_natCast → Zo
open _root_.List renaming getElem?_eq_some_iff → Z5, length_append → Z9, length_cons → Zd, cons_append → Ze, length_nil → Zf, nil_append → Zg, length_map → Zh, append_assoc → Zk, getElem?_set_self → Zl, map_append → Zm, getElem?_eq_getElem → Zn, reverse_cons → Zp, reverse_nil → Zr, length_set → Zs, set_set → Zu, mem_singleton → Zv, drop_eq_getElem_cons → Zw, drop → Zz
open _root_.Nat renaming le_of_ble_eq_true → Z0, reduceEqDiff → Z1, reduceLeDiff → Z2, reduceAdd → Z3, reduceBEq → Z7, reduceMul → Z8, le_refl → Zx, zero_le → Zy
open _root_.Option renaming bind_some → Zq, map_some → Zt
open _root_.Prod renaming fst → Y0, snd → Y1
open _root_.Go.Proofs.Tryz renaming prog → Z6
open Go.RowKit
section

end
section
attribute [local irreducible] on aOp
attribute [local go_sem] decide_true decide_false Zj Zi
attribute [local simp] byD_len
variable (G : Nat → D) (hG : ∀ g, low 0 (G g))
include hG
attribute [local go_sem] Za Zb Zc Zo Z3 Z7 Z1 Z2 Z8
attribute [local go_sem ↓] reduceIte
theorem rNum_d (i : Nat) (s : RS) (h : List Ob) (hi : h[i]? = some (Yh s)) (ho : s.Ok) (hl : s.data.length ≤ 1000000000) :
 Does Z6 G 221 h [.ptr i 0] (fun h' r => h' = h ∧ r = s.rawN) := by
 rw [U3] at hi
 refine Y6 Tryz.func221 rfl (Z0 rfl) hG fun hl0 _ => ?_
 simp only [Tryz.ntmps221]
 repeat' first
  | refine sA rfl ?_
  | refine Yp ?_
  | (refine ao1 rfl rfl fun K HK => ?_; simp only [go_sem, hi] <;> (refine HK _ _ ?_; clear HK K))
 refine Yf (fun m e h' => ∃ (k acc : Nat), m = 10 - k ∧ k ≤ 10 ∧ acc < 2 ^ (7 * k) ∧ rawJ s.pos k acc (s.data.drop (s.pos + k)) = s.rawN ∧ h' = h ∧ e 0 = .ptr i 0 ∧ e 2 = .v (.int .u64 acc) ∧ e 7 = .v (.int .i64 k)) 10 ⟨0, 0, rfl, by omega, by decide, rfl, rfl, rfl, rfl, rfl⟩ ?_
 rintro m e h' ⟨k, acc, rfl, hk, ha, hJ, rfl, e0, e2, e7⟩
 have hp := ho.pos
 have w1 : IntKind.i64.wrap ((s.pos : Int) + (k : Int)) = ((s.pos + k : Nat) : Int) := IntWalk.i64_in _ (by omega)
 by_cases hk9 : k = 10
 · subst hk9
   have hR : rawJ s.pos 10 acc (Zz (s.pos + 10) s.data) = .tup [.v (.int .u64 (0 : Int)), .v (.int .i64 (0 : Int)), .v (.bool false)] := by
    unfold rawJ; split
    · rfl
    · rw [if_pos (by omega)]
   repeat' first
    | refine sA rfl ?_ | refine sI rfl rfl ?_ | refine sT rfl ?_ | refine sB rfl ?_
    | refine Yp ?_
    | ((first | refine ao1 rfl rfl fun K HK => ?_ | refine aq1 rfl rfl fun K HK => ?_); (first | refine Ym rfl ?_ | skip); simp only [go_sem, e0, e2, e7, hi]; (first | refine Yt (fun hq => ?_) (fun hq => ?_) | (refine ⟨by omega, by omega, ?_⟩; intro row hrow; obtain ⟨x, hx, rfl⟩ := Zb9 hrow; clear hrow) | skip) <;> ((first | refine HK _ _ ?_ | refine HK _ _ rfl ?_); clear HK K))
    | refine Zw6 ?_
    | (refine Y8 mixd (by kernel_rfl) ?_)
    | refine ao0 rfl rfl ?_
    | (exfalso; omega)
   exact ⟨.inr rfl, endD (r := .tup [.v (.int .u64 (0 : Int)), .v (.int .i64 (0 : Int)), .v (.bool false)]) hl0 rfl (by simp) (by simp) rfl (by simp [low, lowL]) ⟨rfl, hR.symm.trans hJ⟩⟩
 by_cases hlt : s.pos + k < s.data.length
 rotate_left
 · have hR : rawJ s.pos k acc (Zz (s.pos + k) s.data) = .tup [.v (.int .u64 (0 : Int)), .v (.int .i64 (0 : Int)), .v (.bool false)] := by
    rw [List.drop_eq_nil_of_le (by omega)]; rfl
   repeat' first
    | refine sA rfl ?_ | refine sI rfl rfl ?_ | refine sT rfl ?_ | refine sB rfl ?_
    | refine Yp ?_
    | ((first | refine ao1 rfl rfl fun K HK => ?_ | refine aq1 rfl rfl fun K HK => ?_); (first | refine Ym rfl ?_ | skip); simp only [go_sem, e0, e2, e7, hi, w1]; (first | refine Yt (fun hq => ?_) (fun hq => ?_) | (refine ⟨by omega, by omega, ?_⟩; intro row hrow; obtain ⟨x, hx, rfl⟩ := Zb9 hrow; clear hrow) | skip) <;> ((first | refine HK _ _ ?_ | refine HK _ _ rfl ?_); clear HK K))
    | refine Zw6 ?_
    | (refine Y8 mixd (by kernel_rfl) ?_)
    | refine ao0 rfl rfl ?_
    | (exfalso; omega)
   exact ⟨.inr rfl, endD (r := .tup [.v (.int .u64 (0 : Int)), .v (.int .i64 (0 : Int)), .v (.bool false)]) hl0 rfl (by simp) (by simp) rfl (by simp [low, lowL]) ⟨rfl, hR.symm.trans hJ⟩⟩
 have hx : s.data[s.pos + k]? = some s.data[s.pos + k] := Zn hlt
 rw [Zw hlt] at hJ
 generalize s.data[s.pos + k] = x at hx hJ
 have hxl := x.toNat_lt
 by_cases h9 : k = 9 ∧ 1 < x.toNat
 · have hR : rawJ s.pos k acc (x :: Zz (s.pos + k + 1) s.data) = .tup [.v (.int .u64 (0 : Int)), .v (.int .i64 (0 : Int)), .v (.bool false)] := by
    rw [rawJ, if_neg (by omega), if_pos h9]
   obtain ⟨rfl, h9⟩ := h9
   repeat' first
    | refine sA rfl ?_ | refine sI rfl rfl ?_ | refine sT rfl ?_ | refine sB rfl ?_
    | refine Yp ?_
    | ((first | refine ao1 rfl rfl fun K HK => ?_ | refine aq1 rfl rfl fun K HK => ?_); (first | refine Ym rfl ?_ | skip); simp only [go_sem, e0, e2, e7, hi, w1]; (first | refine Yt (fun hq => ?_) (fun hq => ?_) | (refine ⟨by omega, by omega, ?_⟩; refine Xf (by assumption) ?_) | skip) <;> ((first | refine HK _ _ ?_ | refine HK _ _ rfl ?_); clear HK K))
    | refine Zw6 ?_
    | (refine Y8 mixd (by kernel_rfl) ?_)
    | refine ao0 rfl rfl ?_
    | (exfalso; omega)
   exact ⟨.inr rfl, endD (r := .tup [.v (.int .u64 (0 : Int)), .v (.int .i64 (0 : Int)), .v (.bool false)]) hl0 rfl (by simp) (by simp) rfl (by simp [low, lowL]) ⟨rfl, hR.symm.trans hJ⟩⟩
 obtain ⟨s1, s2, s3⟩ := shl_step ha (by omega) h9 hxl
 have w2 : IntKind.i64.wrap (7 * (k : Int)) = ((7 * k : Nat) : Int) := IntWalk.i64_in _ (by omega)
 have w3 : decide (0 ≤ ((7 * k : Nat) : Int)) = true := decide_eq_true (by omega)
 have hV := num_val (x := x) ha (by omega) h9
 have w6 : IntKind.i64.wrap (((s.pos + k : Nat) : Int) + 1) = ((s.pos + k + 1 : Nat) : Int) := IntWalk.i64_in _ (by omega)
 have w7 : IntKind.i64.wrap ((k : Int) + 1) = ((k + 1 : Nat) : Int) := IntWalk.i64_in _ (by omega)
 repeat' first
  | refine sA rfl ?_ | refine sI rfl rfl ?_ | refine sT rfl ?_ | refine sB rfl ?_
  | refine Yp ?_
  | ((first | refine ao1 rfl rfl fun K HK => ?_ | refine aq1 rfl rfl fun K HK => ?_); (first | refine Ym rfl ?_ | skip); simp only [go_sem, e0, e2, e7, hi, w1, w2, w3, w6, w7, Z4]; (first | refine Yt (fun hq => ?_) (fun hq => ?_) | refine Ya1 (fun hq => ?_) (fun hq => ?_) | (refine ⟨by omega, by omega, ?_⟩; refine Xf (by assumption) ?_) | skip) <;> ((first | refine HK _ _ ?_ | refine HK _ _ rfl ?_); clear HK K))
  | refine aq0 rfl rfl ?_
  | refine Zw6 ?_
  | (refine Y8 mixd (by kernel_rfl) ?_)
  | refine ao0 rfl rfl ?_
  | (exfalso; omega)
 all_goals first
 | (have hR : rawJ s.pos k acc (x :: Zz (s.pos + k + 1) s.data) = .tup [.v (.int .u64 ((acc + x.toNat % 128 * 2 ^ (7 * k) : Nat) : Int)), .v (.int .i64 ((s.pos + k + 1 : Nat) : Int)), .v (.bool true)] := by (rw [rawJ, if_neg (by omega), if_neg h9, if_pos (by omega), decide_eq_true (by omega)])
    exact ⟨.inr rfl, endD (r := .tup [.v (.int .u64 ((acc + x.toNat % 128 * 2 ^ (7 * k) : Nat) : Int)), .v (.int .i64 ((s.pos + k + 1 : Nat) : Int)), .v (.bool true)]) hl0 rfl (by simp) (by simp) (congrArg (fun z : Int => D.tup [.v (.int .u64 z), .v (.int .i64 ((s.pos + k + 1 : Nat) : Int)), .v (.bool true)]) hV) (by simp [low, lowL]) ⟨rfl, hR.symm.trans hJ⟩⟩)
 | (have hR : rawJ s.pos k acc (x :: Zz (s.pos + k + 1) s.data) = .tup [.v (.int .u64 ((acc + x.toNat % 128 * 2 ^ (7 * k) : Nat) : Int)), .v (.int .i64 ((s.pos + k + 1 : Nat) : Int)), .v (.bool false)] := by (rw [rawJ, if_neg (by omega), if_neg h9, if_pos (by omega), decide_eq_false (by omega)])
    exact ⟨.inr rfl, endD (r := .tup [.v (.int .u64 ((acc + x.toNat % 128 * 2 ^ (7 * k) : Nat) : Int)), .v (.int .i64 ((s.pos + k + 1 : Nat) : Int)), .v (.bool false)]) hl0 rfl (by simp) (by simp) (congrArg (fun z : Int => D.tup [.v (.int .u64 z), .v (.int .i64 ((s.pos + k + 1 : Nat) : Int)), .v (.bool false)]) hV) (by simp [low, lowL]) ⟨rfl, hR.symm.trans hJ⟩⟩)
 | (rw [rawJ, if_neg (by omega), if_neg h9, if_neg (by omega)] at hJ
    refine ⟨rfl, 10 - (k + 1), by omega, k + 1, acc + x.toNat % 128 * 2 ^ (7 * k), rfl, by omega, s3, hJ, rfl, ?_, congrArg (fun z : Int => D.v (.int .u64 z)) hV, rfl⟩
    simp [upd, e0])
end
section
attribute [local irreducible] on aOp
attribute [local go_sem] decide_true decide_false Zj Zi
attribute [local simp] byD_len
variable (G : Nat → D) (hG : ∀ g, low 0 (G g))
include hG
theorem Yb8 {s : RS} {d : D} (q : s.rawN = d) {i : Nat} {h : List Ob} (hi : h[i]? = some (Yh s)) (ho : s.Ok) (hl : s.data.length ≤ 1000000000) :
 Does Z6 G 221 h [.ptr i 0] (fun h' r => h' = h ∧ r = d) := q ▸ rNum_d G hG i s h hi ho hl
attribute [local go_sem] Za Zb Zc Z3 Z7 Z1 Z2 Z8
attribute [local go_sem ↓] reduceIte
theorem rBegin_d (i : Nat) (s : RS) (h : List Ob) (hi : h[i]? = some (Yh s)) :
 Does Z6 G 219 h [.ptr i 0] (fun h' r => h' = h.set i (Yh (if s.err = 0 then s.begun else s)) ∧ r = .v (.bool (decide (s.err = 0)))) := by
 have hil := (Z5.1 hi).1
 have hi0 := hi
 rw [U3] at hi
 obtain ⟨g1, g2, g3, g4, g5⟩ := Zt0 hi
 refine Y6 Tryz.func219 rfl (Z0 rfl) hG fun hl0 _ => ?_
 simp only [Tryz.ntmps219]
 by_cases hb : s.err = 0
 · rw [if_pos hb, decide_eq_true hb]
   rw [hb] at hi
   have F : _ ∧ _ := ⟨hi, g1⟩
   repeat' first
    | refine g0 ?_
    | fail
   exact ⟨.inr rfl, endS (i := i) (ob := Yh s.begun) (r := .v (.bool true)) hl0 (Xu _ _) rfl (by simp [Yh, RS.begun, hb, putL_succ, putL_zero, U0]) (by simp) rfl (by rw [low]; trivial) ⟨rfl, rfl⟩⟩
 · rw [if_neg hb, decide_eq_false hb]
   have F : _ ∧ _ ∧ _ := ⟨hi, g1, hb⟩
   repeat' first
    | refine g0 ?_
    | fail
   exact ⟨.inr rfl, endS (i := i) (ob := Yh s) (r := .v (.bool false)) hl0 (Xu _ _) rfl (by simp [Ui hi0]) (by simp) rfl (by rw [low]; trivial) ⟨rfl, rfl⟩⟩
theorem rBegin_ok {i : Nat} {s : RS} {h : List Ob} (hb : s.err = 0) (hi : h[i]? = some (Yh s)) :
 Does Z6 G 219 h [.ptr i 0] (fun h' r => h' = h.set i (Yh s.begun) ∧ r = .v (.bool true)) := by
 have := rBegin_d G hG i s h hi
 rwa [if_pos hb, decide_eq_true hb] at this
theorem J1 {i : Nat} {s : RS} {h h1 : List Ob} (q : h.set i (Yh s.begun) = h1) (hb : s.err = 0) (hi : h[i]? = some (Yh s)) :
 Does Z6 G 219 h [.ptr i 0] (fun h' r => h' = h1 ∧ r = .v (.bool true)) := q ▸ rBegin_ok G hG hb hi
theorem Zp3 {i : Nat} {s : RS} {h : List Ob} (hb : ¬ s.err = 0) (hi : h[i]? = some (Yh s)) :
 Does Z6 G 219 h [.ptr i 0] (fun h' r => h' = h ∧ r = .v (.bool false)) := by
 have := rBegin_d G hG i s h hi
 rw [if_neg hb, decide_eq_false hb, Ui hi] at this
 exact this
theorem rFail_d (i : Nat) (s : RS) (h : List Ob) (hi : h[i]? = some (Yh s)) :
 Does Z6 G 223 h [.ptr i 0] (fun h' r => h' = h.set i (Yh s.fail) ∧ r = .tup []) := by
 have hil := (Z5.1 hi).1
 have hi0 := hi
 rw [U3] at hi
 obtain ⟨g1, g2, g3, g4, g5⟩ := Zt0 hi
 refine Y6 Tryz.func223 rfl (Z0 rfl) hG fun hl0 _ => ?_
 simp only [Tryz.ntmps223]
 by_cases hb : s.err = 0
 · rw [hb] at hi
   have F : _ ∧ _ := ⟨hi, g1⟩
   repeat' first
    | refine g0 ?_
    | fail
   have hR : s.fail = ⟨s.data, s.item, s.item, 2⟩ := by unfold RS.fail; rw [if_pos hb]
   exact ⟨by simp, endS (i := i) (ob := Yh s.fail) (r := .tup []) hl0 (Xu _ _) rfl (by simp [hR, Yh, putL_succ, putL_zero, U0]) (by simp) rfl (by rw [low, lowL]; trivial) ⟨rfl, rfl⟩⟩
 · skip
   have F : _ ∧ _ ∧ _ := ⟨hi, g1, hb⟩
   repeat' first
    | refine g0 ?_
    | fail
   have hR : s.fail = s := by unfold RS.fail; rw [if_neg hb]
   exact ⟨by simp, endS (i := i) (ob := Yh s.fail) (r := .tup []) hl0 (Xu _ _) rfl (by simp [hR, Ui hi0]) (by simp) rfl (by rw [low, lowL]; trivial) ⟨rfl, rfl⟩⟩
theorem rUint_d (i : Nat) (s : RS) (h : List Ob) (hi : h[i]? = some (Yh s)) (ho : s.Ok) (hl : s.data.length ≤ 1000000000) :
 Does Z6 G 220 h [.ptr i 0] (fun h' r => h' = h.set i (Yh (X5 s).2) ∧ r = .v (.int .u64 (X5 s).1)) := by
 have hil := (Z5.1 hi).1
 have g1 := fun ob => Zl (a := ob) hil
 refine Y6 Tryz.func220 rfl (Z0 rfl) hG fun hl0 _ => ?_
 simp only [Tryz.ntmps220]
 by_cases hb : s.err = 0
 rotate_left
 · skip
   have F := g1
   repeat' first
    | refine g0 ?_
    | (with_reducible refine Y7 ?_; refine gc rfl rfl rfl Ug (Zp3 G hG hb hi) ?_)
   have hR : X5 s = (0, s) := by unfold X5; rw [if_pos hb]
   exact ⟨by simp, endS (i := i) (ob := Yh s) (r := .v (.int .u64 (0 : Int))) hl0 (Xu _ _) rfl (by simp [Ui hi]) (by simp) rfl (by rw [low]; trivial) ⟨by rw [hR], by rw [hR]; rfl⟩⟩
 have hO : s.begun.Ok := ⟨ho.pos, Zx _, ho.err⟩
 obtain ⟨h1, hh⟩ : ∃ h1, h.set i (Yh s.begun) = h1 := ⟨_, rfl⟩
 have hB : h1[i]? = some (Yh s.begun) := hh ▸ g1 _
 have hS : ∀ x, h1.set i x = h.set i x := fun x => by rw [← hh, Zu]
 have hT : ∀ x, (h1.set i x).take h.length = h.set i x := fun x => by rw [hS]; exact U0
 have hL : h1.length = h.length := by rw [← hh, Zs]
 have hB2 := hB
 rw [U3] at hB2
 obtain ⟨k1, k2, k3, k4, k5⟩ := Zt0 hB2
 rcases hN : s.num with _ | ⟨m, c⟩
 · obtain ⟨a, b, hr⟩ := Yb6 (s := s.begun) hN
   have F : _ ∧ _ := ⟨hB2, k1⟩
   repeat' first
    | refine g0 ?_
    | (with_reducible refine Y7 ?_; refine gc rfl rfl rfl Ug (J1 G hG hh hb hi) ?_)
    | ((with_reducible refine Y7 ?_); first | refine gc rfl rfl rfl Zn2 (Yb8 G hG hr hB hO hl) ?_)
   have hR : X5 s = (0, s.bad) := by unfold X5; rw [if_neg (fun h => h hb), hN]
   exact ⟨by simp, endS (i := i) (ob := Yh s.bad) (r := .v (.int .u64 (0 : Int))) hl0 (Xu _ _) rfl (by simp [Yh, RS.bad, RS.begun, putL_succ, putL_zero, hT]) (by simp [hL]) rfl (by rw [low]; trivial) ⟨by rw [hR], by rw [hR]; rfl⟩⟩
 · have hr := Yb5 (s := s.begun) hN
   have F : _ ∧ _ := ⟨hB2, k1⟩
   repeat' first
    | refine g0 ?_
    | (with_reducible refine Y7 ?_; refine gc rfl rfl rfl Ug (J1 G hG hh hb hi) ?_)
    | ((with_reducible refine Y7 ?_); first | refine gc rfl rfl rfl Zn2 (Yb8 G hG hr hB hO hl) ?_)
   have hR : X5 s = (m, s.go c) := by unfold X5; rw [if_neg (fun h => h hb), hN]
   exact ⟨by simp, endS (i := i) (ob := Yh (s.go c)) (r := .v (.int .u64 (m : Int))) hl0 (Xu _ _) rfl (by simp [Yh, RS.go, RS.begun, putL_succ, putL_zero, hT]) (by simp [hL]) rfl (by rw [low]; trivial) ⟨by rw [hR], by rw [hR]⟩⟩
theorem rLeft_d (i : Nat) (s : RS) (h : List Ob) (hi : h[i]? = some (Yh s)) (ho : s.Ok) (hl : s.data.length ≤ 1000000000) :
 Does Z6 G 173 h [.ptr i 0] (fun h' r => h' = h ∧ r = .v (.int .i64 ((s.data.length - s.pos : Nat) : Int))) := by
 rw [U3] at hi
 refine Y6 Tryz.func173 rfl (Z0 rfl) hG fun hl0 _ => ?_
 simp only [Tryz.ntmps173]
 have hp := ho.pos
 have w1 : IntKind.i64.wrap ((s.data.length : Int) - (s.pos : Int)) = ((s.data.length - s.pos : Nat) : Int) := by rw [← Int.ofNat_sub hp]; exact IntWalk.i64_in _ (by omega)
 have F : _ ∧ _ := ⟨hi, w1⟩
 repeat' first
  | (with_reducible refine Ya ?_; refine Y8 mixd (by kernel_rfl) ?_)
  | refine g0 ?_
  | fail
 exact ⟨.inr rfl, endD (r := .v (.int .i64 ((s.data.length - s.pos : Nat) : Int))) hl0 rfl (by simp) (by simp) rfl (by rw [low]; trivial) ⟨rfl, rfl⟩⟩
end
section
attribute [local irreducible] on aOp
attribute [local go_sem] decide_true decide_false Zj Zi
attribute [local simp] byD_len
theorem i64_xor_zero (a : Nat) (h : a ≤ 9223372036854775807) : bits .xor .i64 (a : Int) 0 = (a : Int) := by
 show IntKind.i64.wrap ((BitVec.ofInt 64 (a : Int) ^^^ BitVec.ofInt 64 0).toNat : Int) = _
 have e0 : BitVec.ofInt 64 0 = 0#64 := rfl
 rw [e0, BitVec.xor_zero, BitVec.ofInt_natCast, BitVec.toNat_ofNat, IntKind.wrap_i64]
 omega
theorem unzz_bits (n : Nat) (h : n < 18446744073709551616) : bits .xor .i64 ((n : Int) / 2) (-((n : Int) % 2)) = unzz n := by
 unfold unzz
 by_cases h0 : n % 2 = 0
 · rw [if_pos h0]
   have e : -((n : Int) % 2) = 0 := by omega
   rw [e]
   have e2 : (n : Int) / 2 = ((n / 2 : Nat) : Int) := by omega
   rw [e2]
   exact i64_xor_zero (n / 2) (by omega)
 · rw [if_neg h0]
   have e : -((n : Int) % 2) = -1 := by omega
   rw [e]
   have e2 : (n : Int) / 2 = ((n / 2 : Nat) : Int) := by omega
   rw [e2]
   have hc : bits .xor .i64 ((n / 2 : Nat) : Int) (-1) = bits .xor .i64 (-1) ((n / 2 : Nat) : Int) := by
    unfold bits
    simp only
    rw [BitVec.xor_comm]
   rw [hc, Lib.i64_not _ (by omega)]
theorem and_one' (m : Nat) (h : m < 18446744073709551616) : IntKind.u64.wrap ((BitVec.ofInt 64 (m : Int) &&& BitVec.ofInt 64 1).toNat : Int) = ((m : Int) % 2) := by
 have e : BitVec.ofInt 64 (m : Int) &&& BitVec.ofInt 64 1 = BitVec.ofNat 64 (m % 2) := by
  apply BitVec.eq_of_toNat_eq
  have e1 : (BitVec.ofInt 64 1).toNat = 1 := rfl
  rw [BitVec.toNat_and, BitVec.ofInt_natCast, BitVec.toNat_ofNat, e1, Nat.and_one_is_mod, BitVec.toNat_ofNat]
  omega
 rw [e, BitVec.toNat_ofNat, IntKind.wrap_u64]; omega
theorem int_val (m : Nat) (h : m < 18446744073709551616) : IntKind.i64.wrap ((BitVec.ofInt 64 (IntKind.i64.wrap ((m : Int).fdiv (2 ^ min (Int.toNat 1) 64))) ^^^ BitVec.ofInt 64 (IntKind.i64.wrap (0 - IntKind.i64.wrap (IntKind.u64.wrap ((BitVec.ofInt 64 (m : Int) &&& BitVec.ofInt 64 1).toNat : Int))))).toNat : Int) = unzz m := by
 have e1 : (m : Int).fdiv (2 ^ min (Int.toNat 1) 64) = (m : Int) / 2 := by
  rw [show (2 : Int) ^ min (Int.toNat 1) 64 = 2 by decide, Int.fdiv_eq_ediv_of_nonneg _ (by omega)]
 have w1 : IntKind.i64.wrap ((m : Int) / 2) = (m : Int) / 2 := IntWalk.i64_in _ (by omega)
 have w2 : IntKind.i64.wrap ((m : Int) % 2) = (m : Int) % 2 := IntWalk.i64_in _ (by omega)
 have w3 : IntKind.i64.wrap (0 - (m : Int) % 2) = -((m : Int) % 2) := by rw [Int.zero_sub]; exact IntWalk.i64_in _ (by omega)
 rw [e1, w1, and_one' m h, w2, w3]
 exact unzz_bits m h
variable (G : Nat → D) (hG : ∀ g, low 0 (G g))
include hG
attribute [local go_sem] Z4 Za Zb Zc Z3 Z7 Z1 Z2 Z8
attribute [local go_sem ↓] reduceIte
theorem rInt_d (i : Nat) (s : RS) (h : List Ob) (hi : h[i]? = some (Yh s)) (ho : s.Ok) (hl : s.data.length ≤ 1000000000) :
 Does Z6 G 168 h [.ptr i 0] (fun h' r => h' = h.set i (Yh (Ze3 s).2) ∧ r = .v (.int .i64 (Ze3 s).1)) := by
 have hlt := (Zf1 ho).2.2
 have hc := rUint_d G hG i s h hi ho hl
 have hI : Ze3 s = (unzz (X5 s).1, (X5 s).2) := rfl
 rw [hI]
 generalize X5 s = ru at hc hlt ⊢
 obtain ⟨m, t⟩ := ru
 simp only at hc hlt ⊢
 refine Y6 Tryz.func168 rfl (Z0 rfl) hG fun hl0 _ => ?_
 simp only [Tryz.ntmps168]
 repeat' first
  | refine g0 ?_
  | (with_reducible refine Y7 ?_; refine gc rfl rfl rfl ent_220 (hc) ?_)
 exact ⟨.inr rfl, endS (i := i) (ob := Yh t) (r := .v (.int .i64 (unzz m))) hl0 (Xu _ _) rfl (by simp [U0]) (by simp) (congrArg (fun z : Int => D.v (.int .i64 z)) (int_val m hlt)) (by rw [low]; trivial) ⟨rfl, rfl⟩⟩
theorem rEnd_d (i : Nat) (s : RS) (h : List Ob) (hi : h[i]? = some (Yh s)) (ho : s.Ok) (hl : s.data.length ≤ 1000000000) :
 Does Z6 G 107 h [.ptr i 0] (fun h' r => h' = h ∧ r = .v (.int .i64 s.ends)) := by
 have hL := rLeft_d G hG i s h hi ho hl
 rw [U3] at hi
 refine Y6 Tryz.func107 rfl (Z0 rfl) hG fun hl0 _ => ?_
 simp only [Tryz.ntmps107]
 by_cases hb : s.err = 0
 · rw [hb] at hi
   by_cases hp : s.pos < s.data.length
   · have w1 : decide (((s.data.length - s.pos : Nat) : Int) > 0) = true := decide_eq_true (by omega)
     have w2 : decide (0 < ((s.data.length - s.pos : Nat) : Int)) = true := decide_eq_true (by omega)
     have F : _ ∧ _ ∧ _ := ⟨hi, w1, w2⟩
     repeat' first
      | refine g0 ?_
      | (with_reducible refine Y7 ?_; refine gc rfl rfl rfl ent_173 (hL) ?_)
     have hE : s.ends = 2 := by unfold RS.ends; rw [if_pos ⟨hb, hp⟩]
     exact ⟨.inr rfl, endD (r := .v (.int .i64 2)) hl0 rfl (by simp) (by simp) rfl (by rw [low]; trivial) ⟨rfl, by rw [hE]⟩⟩
   · have w1 : s.data.length - s.pos = 0 := by omega
     rw [w1] at hL
     have F := hi
     repeat' first
      | refine gg ?_
      | refine Two.mk (fun hq => ?_) fun hq => ?_
      | (with_reducible refine Y7 ?_; refine gc rfl rfl rfl ent_173 (hL) ?_)
      | (exfalso; omega)
     have hE : s.ends = 0 := by unfold RS.ends; rw [if_neg (fun h => hp h.2), hb]
     exact ⟨.inr rfl, endD (r := .v (.int .i64 0)) hl0 rfl (by simp) (by simp) rfl (by rw [low]; trivial) ⟨rfl, by rw [hE]⟩⟩
 · skip
   have F : _ ∧ _ := ⟨hi, hb⟩
   repeat' first
    | refine g0 ?_
    | fail
   have hE : s.ends = s.err := by unfold RS.ends; rw [if_neg (fun h => hb h.1)]
   exact ⟨.inr rfl, endD (r := .v (.int .i64 s.err)) hl0 rfl (by simp) (by simp) rfl (by rw [low]; trivial) ⟨rfl, by rw [hE]⟩⟩
theorem Zx8 (i : Nat) (s : RS) (h : List Ob) (hi : h[i]? = some (Yh s)) (ho : s.Ok) (hl : s.data.length ≤ 1000000000) :
 Does Z6 G 169 h [.ptr i 0] (fun h' r => h' = h.set i (Yh (Yc s).2) ∧ r = .v (.int .i64 ((Yc s).1 : Nat))) := by
 have hil := (Z5.1 hi).1
 have g1 := fun ob => Zl (a := ob) hil
 refine Y6 Tryz.func169 rfl (Z0 rfl) hG fun hl0 _ => ?_
 simp only [Tryz.ntmps169]
 have hp := ho.pos
 by_cases hb : s.err = 0
 rotate_left
 · skip
   have F := g1
   repeat' first
    | refine g0 ?_
    | (with_reducible refine Y7 ?_; refine gc rfl rfl rfl Ug (Zp3 G hG hb hi) ?_)
   have hR : Yc s = (0, s) := by unfold Yc; rw [if_pos hb]
   exact ⟨by simp, endS (i := i) (ob := Yh s) (r := .v (.int .i64 (0 : Int))) hl0 (Xu _ _) rfl (by simp [Ui hi]) (by simp) rfl (by rw [low]; trivial) ⟨by rw [hR], by rw [hR]; rfl⟩⟩
 have hO : s.begun.Ok := ⟨ho.pos, Zx _, ho.err⟩
 obtain ⟨h1, hh⟩ : ∃ h1, h.set i (Yh s.begun) = h1 := ⟨_, rfl⟩
 have hB : h1[i]? = some (Yh s.begun) := hh ▸ g1 _
 have hS : ∀ x, h1.set i x = h.set i x := fun x => by rw [← hh, Zu]
 have hT : ∀ x, (h1.set i x).take h.length = h.set i x := fun x => by rw [hS]; exact U0
 have hL : h1.length = h.length := by rw [← hh, Zs]
 have hB2 := hB
 rw [U3] at hB2
 have hB2 : h1[i]? = some (.cells [.sl 1 (byD s.data), .v (.int .i64 s.pos), .v (.int .i64 s.pos), .v (.int .i64 s.err)]) := hB2
 obtain ⟨k1, k2, k3, k4, k5⟩ := Zt0 hB2
 rcases hN : s.num with _ | ⟨m, c⟩
 · obtain ⟨a, b, hr⟩ := Yb6 (s := s.begun) hN
   have F : _ ∧ _ := ⟨hB2, k1⟩
   repeat' first
    | refine g0 ?_
    | (with_reducible refine Y7 ?_; refine gc rfl rfl rfl Ug (J1 G hG hh hb hi) ?_)
    | ((with_reducible refine Y7 ?_); first | refine gc rfl rfl rfl Zn2 (Yb8 G hG hr hB hO hl) ?_)
   have hR : Yc s = (0, s.bad) := by unfold Yc; rw [if_neg (fun h => h hb), hN]
   exact ⟨by simp, endS (i := i) (ob := Yh s.bad) (r := .v (.int .i64 (0 : Int))) hl0 (Xu _ _) rfl (by simp [Yh, RS.bad, putL_succ, putL_zero, hT]) (by simp [hL]) rfl (by rw [low]; trivial) ⟨by rw [hR], by rw [hR]; rfl⟩⟩
 · have hr := Yb5 (s := s.begun) hN
   have hr : s.begun.rawN = .tup [.v (.int .u64 m), .v (.int .i64 ((s.pos : Int) + (c : Int))), .v (.bool true)] := hr
   obtain ⟨hn1, hn2, hn3, hn4⟩ := RS.num_some hN hp
   have w1 : IntKind.i64.wrap ((s.data.length : Int) - ((s.pos : Int) + (c : Int))) = (s.data.length : Int) - ((s.pos : Int) + (c : Int)) := IntWalk.i64_in _ (by omega)
   have w2 : IntKind.u64.wrap ((s.data.length : Int) - ((s.pos : Int) + (c : Int))) = (s.data.length : Int) - ((s.pos : Int) + (c : Int)) := by rw [IntKind.wrap_u64]; omega
   have w3 : m ≤ 1000000000 → IntKind.i64.wrap (m : Int) = (m : Int) := fun h => IntWalk.i64_in _ (by omega)
   have hR : Yc s = (if s.data.length - (s.pos + c) < m then (0, s.bad) else (m, s.go c)) := by unfold Yc; rw [if_neg (fun h => h hb), hN]
   have F : _ ∧ _ ∧ _ ∧ _ := ⟨hB2, k1, w1, w2⟩
   repeat' first
    | refine gg ?_
    | refine Two.mk (fun hq => ?_) fun hq => ?_
    | (with_reducible refine Y7 ?_; refine gc rfl rfl rfl Ug (J1 G hG hh hb hi) ?_)
    | ((with_reducible refine Y7 ?_); first | refine gc rfl rfl rfl Zn2 (Yb8 G hG hr hB hO hl) ?_)
   all_goals
    first
    | (have hR2 : Yc s = (0, s.bad) := by (rw [hR, if_pos (by omega)])
       exact ⟨by simp, endS (i := i) (ob := Yh s.bad) (r := .v (.int .i64 (0 : Int))) hl0 (Xu _ _) rfl (by simp [Yh, RS.bad, putL_succ, putL_zero, hT]) (by simp [hL]) rfl (by rw [low]; trivial) ⟨by rw [hR2], by rw [hR2]; rfl⟩⟩)
    | (have hR2 : Yc s = (m, s.go c) := by (rw [hR, if_neg (by omega)])
       exact ⟨by simp, endS (i := i) (ob := Yh (s.go c)) (r := .v (.int .i64 (m : Int))) hl0 (Xu _ _) rfl (by simp [Yh, RS.go, putL_succ, putL_zero, hT]) (by simp [hL]) (congrArg (fun z : Int => D.v (.int .i64 z)) (w3 (by omega))) (by rw [low]; trivial) ⟨by rw [hR2], by rw [hR2]⟩⟩)
end
section
attribute [local irreducible] on aOp
attribute [local go_sem] decide_true decide_false Zj Zi
attribute [local simp] byD_len
variable (G : Nat → D) (hG : ∀ g, low 0 (G g))
include hG
attribute [local go_sem] Z4 Za Zb Zc Z3 Z7 Z1 Z2 Z8
attribute [local go_sem ↓] reduceIte
theorem rBytes_d (i : Nat) (s : RS) (h : List Ob) (hi : h[i]? = some (Yh s)) (ho : s.Ok) (hl : s.data.length ≤ 1000000000) :
 Does Z6 G 222 h [.ptr i 0] (fun h' r => h' = h.set i (Yh (W7 s).2) ∧ r = .sl 1 (byD (W7 s).1)) := by
 have hil := (Z5.1 hi).1
 have g1 := fun ob => Zl (a := ob) hil
 apply Does.weak
 refine Y6 Tryz.func222 rfl (Z0 rfl) hG fun hl0 _ => ?_
 simp only [Tryz.ntmps222]
 have hp := ho.pos
 by_cases hb : s.err = 0
 rotate_left
 · skip
   have F := g1
   repeat' first
    | refine g0 ?_
    | (with_reducible refine Y7 ?_; refine gc rfl rfl rfl Ug (Zp3 G hG hb hi) ?_)
   have hR : W7 s = ([], s) := by unfold W7; rw [if_pos hb]
   exact ⟨by simp, endS (i := i) (ob := Yh s) (r := .v _) hl0 (Xu _ _) rfl (by simp [Ui hi]) (by simp) rfl (by rw [low]; trivial) ⟨_, ⟨by rw [hR], by rw [hR]; rfl⟩, nil_sl⟩⟩
 have hO : s.begun.Ok := ⟨ho.pos, Zx _, ho.err⟩
 obtain ⟨h1, hh⟩ : ∃ h1, h.set i (Yh s.begun) = h1 := ⟨_, rfl⟩
 have hB : h1[i]? = some (Yh s.begun) := hh ▸ g1 _
 have hS : ∀ x, h1.set i x = h.set i x := fun x => by rw [← hh, Zu]
 have hT : ∀ x, (h1.set i x).take h.length = h.set i x := fun x => by rw [hS]; exact U0
 have hT2 : ∀ x (l : List Ob), (h1.set i x ++ l).take h.length = h.set i x := fun x l => by rw [hS]; exact take_set_app
 have hL : h1.length = h.length := by rw [← hh, Zs]
 have hB2 := hB
 rw [U3] at hB2
 have hB2 : h1[i]? = some (.cells [.sl 1 (byD s.data), .v (.int .i64 s.pos), .v (.int .i64 s.pos), .v (.int .i64 s.err)]) := hB2
 obtain ⟨k1, k2, k3, k4, k5⟩ := Zt0 hB2
 rcases hN : s.num with _ | ⟨m, c⟩
 · obtain ⟨a, b, hr⟩ := Yb6 (s := s.begun) hN
   have F : _ ∧ _ := ⟨hB2, k1⟩
   repeat' first
    | refine g0 ?_
    | (with_reducible refine Y7 ?_; refine gc rfl rfl rfl Ug (J1 G hG hh hb hi) ?_)
    | ((with_reducible refine Y7 ?_); first | refine gc rfl rfl rfl Zn2 (Yb8 G hG hr hB hO hl) ?_)
   have hR : W7 s = ([], s.bad) := by unfold W7; rw [if_neg (fun h => h hb), hN]
   exact ⟨by simp, endS (i := i) (ob := Yh s.bad) (r := .v _) hl0 (Xu _ _) rfl (by simp [Yh, RS.bad, putL_succ, putL_zero, hT]) (by simp [hL]) rfl (by rw [low]; trivial) ⟨_, ⟨by rw [hR], by rw [hR]; rfl⟩, nil_sl⟩⟩
 · have hr := Yb5 (s := s.begun) hN
   have hr : s.begun.rawN = .tup [.v (.int .u64 m), .v (.int .i64 ((s.pos : Int) + (c : Int))), .v (.bool true)] := hr
   obtain ⟨hn1, hn2, hn3, hn4⟩ := RS.num_some hN hp
   have w1 : IntKind.i64.wrap ((s.data.length : Int) - ((s.pos : Int) + (c : Int))) = (s.data.length : Int) - ((s.pos : Int) + (c : Int)) := IntWalk.i64_in _ (by omega)
   have w2 : IntKind.u64.wrap ((s.data.length : Int) - ((s.pos : Int) + (c : Int))) = (s.data.length : Int) - ((s.pos : Int) + (c : Int)) := by rw [IntKind.wrap_u64]; omega
   have hR : W7 s = (if s.data.length - (s.pos + c) < m then ([], s.bad) else ((s.data.drop (s.pos + c)).take m, s.go (c + m))) := by unfold W7; rw [if_neg (fun h => h hb), hN]
   by_cases hm : s.data.length - (s.pos + c) < m
   · have hR2 : W7 s = ([], s.bad) := by rw [hR, if_pos hm]
     have F : _ ∧ _ ∧ _ ∧ _ := ⟨hB2, k1, w1, w2⟩
     repeat' first
      | (with_reducible refine Ya ?_; refine Y8 mixd (by kernel_rfl) ?_)
      | refine gg ?_
      | refine Two.mk (fun hq => ?_) fun hq => ?_
      | (with_reducible refine Y7 ?_; refine gc rfl rfl rfl Ug (J1 G hG hh hb hi) ?_)
      | ((with_reducible refine Y7 ?_); first | refine gc rfl rfl rfl Zn2 (Yb8 G hG hr hB hO hl) ?_)
      | (exfalso; omega)
     exact ⟨by simp, endS (i := i) (ob := Yh s.bad) (r := .v _) hl0 (Xu _ _) rfl (by simp [Yh, RS.bad, putL_succ, putL_zero, hT]) (by simp [hL]) rfl (by rw [low]; trivial) ⟨_, ⟨by rw [hR2], by rw [hR2]; rfl⟩, nil_sl⟩⟩
   · have w3 : IntKind.i64.wrap (m : Int) = (m : Int) := IntWalk.i64_in _ (by omega)
     have w4 : IntKind.i64.wrap ((s.pos : Int) + (c : Int) + (m : Int)) = (s.pos : Int) + (c : Int) + (m : Int) := IntWalk.i64_in _ (by omega)
     have hR2 : W7 s = ((s.data.drop (s.pos + c)).take m, s.go (c + m)) := by rw [hR, if_neg hm]
     have F : _ ∧ _ ∧ _ ∧ _ ∧ _ ∧ _ ∧ _ ∧ _ ∧ _ ∧ _ := ⟨hB2, k1, k2, k3, k4, k5, w1, w2, w3, w4⟩
     repeat' first
      | (with_reducible refine Ya ?_; refine X7 mixd (by kernel_rfl) ?_)
      | ((with_reducible refine Uf ?_); first | (refine aS1 rfl rfl fun K HK => ?_; (first | refine Ym rfl ?_ | skip); simp only [go_sem, F]; (first | refine Yt (fun hq => ?_) (fun hq => ?_) | (refine slc_sl (by simp only [go_sem, F]) rfl rfl (by first | omega | simp) (by first | omega | simp) (by simp only [go_sem, F]; omega) ?_) | skip) <;> (refine HK _ _ rfl ?_; clear HK K)) | refine Xq rfl rfl rfl (by (first | assumption | (simp only [go_sem, F]; rfl))) (by rw [getD_one (by simp only [go_sem, F])]; rfl) ?_ | refine Jj rfl rfl (by simp only [litD, X1, go_sem, Zd, Zf, Zt, Zq, and_self, ↓reduceIte, Z1, Z3, Z2, Z7, Z8, Za, Zc, Zb, hB2, k1, k2, k3, k4, k5, w1, w2, w3, w4, Z4]; rfl) ?_ | refine aS_appR rfl rfl rfl (by (first | assumption | (simp only [go_sem, F]; rfl))) (by simp) (by simp only [go_sem, F]; rfl) rfl (by (rw [byD_cut]; exact Zo9 _)) (by (simp; omega)) ?_ | refine Wv (by simp only [Zp, Zr, Zg, Ze, Wc, chk1]; repeat' (first | exact trivial | refine And.intro ?_ ?_ | exact .inr Yq | exact .inr Yx | exact .inr X9 | (refine .inr ?_; simp [compat, We, Wg, Va, nop] <;> omega) | exact .inl (by kernel_rfl))) ?_)
      | refine gg ?_
      | refine Two.mk (fun hq => ?_) fun hq => ?_
      | (with_reducible refine Y7 ?_; refine gc rfl rfl rfl Ug (J1 G hG hh hb hi) ?_)
      | ((with_reducible refine Y7 ?_); first | refine gc rfl rfl rfl Zn2 (Yb8 G hG hr hB hO hl) ?_)
      | (exfalso; omega)
     have e2 : ((s.pos : Int) + (c : Int) + (m : Int)).toNat = s.pos + c + m := by omega
     have e1 : ((s.pos : Int) + (c : Int)).toNat = s.pos + c := by omega
     refine ⟨by simp, endS (i := i) (ob := Yh (s.go (c + m))) (r := .sl 1 _) hl0 (Xu _ _) rfl (by simp [Yh, RS.go, putL_succ, putL_zero, hT, hT2, Int.add_assoc]) (by simp [hL]) (by simp [outD, cvD, cv1, upd_app, hL]; rfl) ?_ ⟨_, ⟨by rw [hR2], rfl⟩, ?_⟩⟩
     · rw [byD_cut, e1, e2]; exact Ze1 _ _
     · rw [byD_cut, e1, e2, hR2, show (s.data.take (s.pos + c + m)).drop (s.pos + c) = (s.data.drop (s.pos + c)).take m by rw [List.drop_take]; congr 1; omega]
       exact fun _ _ _ _ h => h
end
section
attribute [local irreducible] on aOp
attribute [local go_sem] decide_true decide_false Zj Zi
attribute [local simp] byD_len
section
variable {P : Program} {G : Nat → D} {n : Nat} {e : Nat → D} {h : List Ob} {ops : Array Oper} {rest : List Oper} {Q : S → Prop} {t : Option Nat} {ty : TypeId} {pos : String} {aft : Array Edge}
theorem ao_bldG {u t' j n1 E1 k1 : Nat} {xs : List (List D)} (hx : e t' = .buf j n1) (hj : h[j]? = some (.buf E1 k1 xs)) (hn : xs.length = n1)
 (q : ao P G ops (⟨t, .build u #[(0, .tmp t')], ty, pos, aft, none⟩ :: rest) Q ⟨n, upd e t' (.sl k1 xs), h.set j .dead⟩) : ao P G ops (⟨t, .build u #[(0, .tmp t')], ty, pos, aft, none⟩ :: rest) Q ⟨n, e, h⟩ := by
 refine ao_give j t' ?_
 have e1 : cvD (fun i => i == j) h (e t') = .sl k1 xs := by rw [hx]; simp [cvD, cv1, hj, hn]
 rw [e1]
 exact q
end
variable (G : Nat → D) (hG : ∀ g, low 0 (G g))
include hG
attribute [local go_sem] Z4 Za Zb Zc Zo Z3 Z7 Z1 Z2 Z8
attribute [local go_sem ↓] reduceIte
theorem newReader0 (l : List UInt8) (hl : l.length ≤ 1000000000) : Does Z6 G 105 [] [.sl 1 (byD l)] (fun h' r => h' = [.dead, Yh ⟨l, 0, 0, 0⟩] ∧ r = .ptr 1 0) := by
 refine Y6 Tryz.func105 rfl (Z0 rfl) hG fun hl0 _ => ?_
 simp only [Tryz.ntmps105]
 repeat' first
  | (refine ao_bldG rfl rfl (by first | rfl | (simp; done) | (simp; omega)) ?_)
  | refine sA rfl ?_
  | refine Yp ?_
  | (refine ao1 rfl rfl fun K HK => ?_; simp only [go_sem] <;> (refine HK _ _ ?_; clear HK K))
  | refine ao_appR rfl rfl rfl (by (simp only [go_sem]; rfl)) (by simp) (by simp only [go_sem]; rfl) rfl (by exact Zo9 _) (by (simp; omega)) ?_
 refine ⟨.inr rfl, [.ptr 1 0], 2, rfl, by simp, by simp, ?_, ?_, ?_, ?_⟩
 · intro x hx
   have hx : x ∈ [Ob.dead, Yh ⟨l, 0, 0, 0⟩] := hx
   simp at hx
   rcases hx with rfl | rfl
   · trivial
   · exact Xu _ _
 · simp [outD, cvD, cv1, low]
 · rfl
 · simp [outD, cvD, cv1]
theorem newReader1 (l : List UInt8) (hl : l.length ≤ 1000000000) : Does Z6 G 105 [] [.sl 1 (byD l)] (fun h' r => h' = [Yh ⟨l, 0, 0, 0⟩] ∧ r = .ptr 0 0) := by
 refine (newReader0 G hG l hl).shrink hG ?_
 rintro _ _ ⟨rfl, rfl⟩
 refine ⟨[Yh ⟨l, 0, 0, 0⟩], .ptr 0 0, ⟨[1], ?_, rfl, ?_, Zy _, fun k hk => by simp at hk⟩, rfl, rfl⟩
 · have e : rnR [1] (byD l) = some (byD l) := Zx6 _ _ (by have := Ze1 0 l; rwa [low] at this)
   simp [rnH, Yh, rnOb, rnL, rnO, e]
 · simp [rnO, pos]
theorem newReader_d (l : List UInt8) (hl : l.length ≤ 1000000000) (h : List Ob) : Does Z6 G 105 h [.sl 1 (byD l)] (fun h' r => h' = h ++ [Yh ⟨l, 0, 0, 0⟩] ∧ r = .ptr h.length 0) := by
 have la : lowL 0 [D.sl 1 (byD l)] := by rw [lowL, lowL]; exact ⟨Ze1 _ _, trivial⟩
 have lo : lowL 0 [D.sl 1 (byD l), .v (.int .i64 (0 : Int)), .v (.int .i64 (0 : Int)), .v (.int .i64 (0 : Int))] := by
  simp only [lowL]; exact ⟨Ze1 _ _, by simp [low], by simp [low], by simp [low], trivial⟩
 refine Does.holes 1 ?_
 have L : Lies (fun _ => h.length) [] (h ++ holes 1) := ⟨fun i ob q => by simp at q, fun i j q => by simp at q, fun ob q => by simp at q⟩
 have F := Does.frame hG L (args := [.sl 1 (byD l)]) la (K1 := fun h' r => h' = [Yh ⟨l, 0, 0, 0⟩] ∧ r = .ptr 0 0) (by
  rintro _ _ ⟨rfl, _⟩
  refine ⟨fun i j hi hj _ => by simp at hi hj; omega, fun j _ hj => ?_⟩
  simp [holes]) (newReader1 G hG l hl)
 rw [Xh _ _ la] at F
 refine F.mono ?_
 rintro _ _ ⟨_, _, ⟨rfl, rfl⟩, rfl, rfl⟩
 have e1 := Xh (fun _ => h.length) _ lo
 simp [plc, Ww, ren, holes, Yh, e1]
theorem rBool_d (i : Nat) (s : RS) (h : List Ob) (hi : h[i]? = some (Yh s)) (ho : s.Ok) (hl : s.data.length ≤ 1000000000) :
 Does Z6 G 167 h [.ptr i 0] (fun h' r => h' = h.set i (Yh (Wy s).2) ∧ r = .v (.bool (Wy s).1)) := by
 have hil := (Z5.1 hi).1
 have g1 := fun ob => Zl (a := ob) hil
 refine Y6 Tryz.func167 rfl (Z0 rfl) hG fun hl0 _ => ?_
 simp only [Tryz.ntmps167]
 have hp := ho.pos
 by_cases hb : s.err = 0
 rotate_left
 · skip
   repeat' first
    | refine sA rfl ?_ | refine sI rfl rfl ?_ | refine sT rfl ?_
    | refine Yp ?_
    | (refine ao1 rfl rfl fun K HK => ?_; simp only [go_sem, g1] <;> (refine HK _ _ ?_; clear HK K))
    | (refine ao2 rfl rfl rfl Ug (Zp3 G hG hb hi) ?_; rintro _ _ ⟨rfl, rfl⟩)
   have hR : Wy s = (false, s) := by unfold Wy; rw [if_pos hb]
   exact ⟨by simp, endS (i := i) (ob := Yh s) (r := .v (.bool false)) hl0 (Xu _ _) rfl (by simp [Ui hi]) (by simp) rfl (by rw [low]; trivial) ⟨by rw [hR], by rw [hR]⟩⟩
 obtain ⟨h1, hh⟩ : ∃ h1, h.set i (Yh s.begun) = h1 := ⟨_, rfl⟩
 have hB : h1[i]? = some (Yh s.begun) := hh ▸ g1 _
 have hS : ∀ x, h1.set i x = h.set i x := fun x => by rw [← hh, Zu]
 have hT : ∀ x, (h1.set i x).take h.length = h.set i x := fun x => by rw [hS]; exact U0
 have hL : h1.length = h.length := by rw [← hh, Zs]
 have hB2 := hB
 rw [U3] at hB2
 have hB2 : h1[i]? = some (.cells [.sl 1 (byD s.data), .v (.int .i64 s.pos), .v (.int .i64 s.pos), .v (.int .i64 s.err)]) := hB2
 obtain ⟨k1, k2, k3, k4, k5⟩ := Zt0 hB2
 by_cases hlt : s.pos < s.data.length
 rotate_left
 · have hR : Wy s = (false, s.bad) := by unfold Wy; rw [if_neg (fun h => h hb), List.getElem?_eq_none (by omega)]
   have w0 : s.data.length = s.pos := by omega
   repeat' first
    | refine sA rfl ?_ | refine sI rfl rfl ?_ | refine sT rfl ?_
    | refine Yp ?_
    | ((first | refine ao1 rfl rfl fun K HK => ?_ | refine aq1 rfl rfl fun K HK => ?_); (first | refine Ym rfl ?_ | skip); simp only [go_sem, hB2, k1, w0] <;> ((first | refine HK _ _ ?_ | refine HK _ _ rfl ?_); clear HK K))
    | refine aq0 rfl rfl ?_
    | refine Zw6 ?_
    | (refine Y8 mixd (by kernel_rfl) ?_)
    | (refine ao2 rfl rfl rfl Ug (J1 G hG hh hb hi) ?_; rintro _ _ ⟨rfl, rfl⟩)
    | (refine ao1' rfl fun K HK => ?_; simp only [go_sem, hB2, k1, w0]; refine HK _ _ ?_; clear HK K)
   all_goals first
   | exact ⟨by simp, endS (i := i) (ob := Yh s.bad) (r := .v (.bool false)) hl0 (Xu _ _) rfl (by simp [Yh, RS.bad, putL_succ, putL_zero, hT]) (by simp [hL]) rfl (by rw [low]; trivial) ⟨by rw [hR], by rw [hR]⟩⟩
   | (exfalso; omega)
 have hx : s.data[s.pos]? = some s.data[s.pos] := Zn hlt
 generalize s.data[s.pos] = x at hx
 have w1 : IntKind.i64.wrap ((s.pos : Int) + 1) = (s.pos : Int) + 1 := IntWalk.i64_in _ (by omega)
 repeat' first
  | refine sA rfl ?_ | refine sI rfl rfl ?_ | refine sT rfl ?_
  | refine Yp ?_
  | ((first | refine ao1 rfl rfl fun K HK => ?_ | refine aq1 rfl rfl fun K HK => ?_); (first | refine Ym rfl ?_ | skip); simp only [go_sem, hB2, k1, w1]; (first | refine Yt (fun hq => ?_) (fun hq => ?_) | (refine ⟨by omega, by omega, ?_⟩; refine Xf (by assumption) ?_) | skip) <;> ((first | refine HK _ _ ?_ | refine HK _ _ rfl ?_); clear HK K))
  | refine aq0 rfl rfl ?_
  | refine Zw6 ?_
  | (refine Y8 mixd (by kernel_rfl) ?_)
  | (refine ao2 rfl rfl rfl Ug (J1 G hG hh hb hi) ?_; rintro _ _ ⟨rfl, rfl⟩)
  | (refine ao1' rfl fun K HK => ?_; simp only [go_sem, hB2, k1, w1]; refine HK _ _ ?_; clear HK K)
  | (exfalso; omega)
 all_goals
  have hR : Wy s = (if 1 < x.toNat then (false, s.bad) else (decide (x.toNat = 1), s.go 1)) := by unfold Wy; rw [if_neg (fun h => h hb), hx]
  first
  | (exfalso; omega)
  | (have hR2 : Wy s = (false, s.bad) := by (rw [hR, if_pos (by omega)])
     exact ⟨by simp, endS (i := i) (ob := Yh s.bad) (r := .v (.bool false)) hl0 (Xu _ _) rfl (by simp [Yh, RS.bad, putL_succ, putL_zero, hT]) (by simp [hL]) rfl (by rw [low]; trivial) ⟨by rw [hR2], by rw [hR2]⟩⟩)
  | (have hR2 : Wy s = (true, s.go 1) := by (rw [hR, if_neg (by omega), decide_eq_true (by omega)])
     exact ⟨by simp, endS (i := i) (ob := Yh (s.go 1)) (r := .v (.bool true)) hl0 (Xu _ _) rfl (by simp [Yh, RS.go, putL_succ, putL_zero, hT]) (by simp [hL]) rfl (by rw [low]; trivial) ⟨by rw [hR2], by rw [hR2]⟩⟩)
  | (have hR2 : Wy s = (false, s.go 1) := by (rw [hR, if_neg (by omega), decide_eq_false (by omega)])
     exact ⟨by simp, endS (i := i) (ob := Yh (s.go 1)) (r := .v (.bool false)) hl0 (Xu _ _) rfl (by simp [Yh, RS.go, putL_succ, putL_zero, hT]) (by simp [hL]) rfl (by rw [low]; trivial) ⟨by rw [hR2], by rw [hR2]⟩⟩)
theorem Yo0 (i : Nat) (s : RS) (h : List Ob) (hi : h[i]? = some (Yh s)) (ho : s.Ok) (hl : s.data.length ≤ 1000000000) :
 Does Z6 G 171 h [.ptr i 0] (fun h' r => h' = h.set i (Yh (W7 s).2) ∧ r = .v (.string ⟨(W7 s).1.toArray⟩)) := by
 have hil := (Z5.1 hi).1
 refine Y6 Tryz.func171 rfl (Z0 rfl) hG fun hl0 _ => ?_
 simp only [Tryz.ntmps171]
 repeat' first
  | refine sA rfl ?_
  | refine Yp ?_
  | (refine ao1 rfl rfl fun K HK => ?_; simp only [go_sem, hi] <;> (refine HK _ _ ?_; clear HK K))
  | (refine ao2 rfl rfl rfl ent_222 (rBytes_d G hG _ _ _ hi ho hl) ?_; rintro _ _ ⟨rfl, rfl⟩)
 refine ao1 rfl rfl fun K HK => ?_
 simp only [go_sem]
 refine bst_by (by simp only [go_sem]) (by simp only [go_sem]) ?_
 refine HK _ _ ?_; clear HK K
 repeat' first
  | refine Yp ?_
  | (refine ao1 rfl rfl fun K HK => ?_; simp only [go_sem, hi] <;> (refine HK _ _ ?_; clear HK K))
  | refine sA rfl ?_
 exact ⟨by simp, endS (i := i) (ob := Yh (W7 s).2) (r := .v _) hl0 (Xu _ _) rfl (by simp [U0]) (by simp) rfl (by rw [low]; trivial) ⟨rfl, rfl⟩⟩
end
section
attribute [local irreducible] on aOp
attribute [local go_sem] decide_true decide_false Zj Zi
attribute [local simp] byD_len
variable (G : Nat → D) (hG : ∀ g, low 0 (G g))
def rdSm (m : Nat) (s : RS) : Nat × RS := (if m < (X5 s).1 then 0 else (X5 s).1, if m < (X5 s).1 then (X5 s).2.fail else (X5 s).2)
include hG
attribute [local go_sem] Za Zb Zc Z3 Z7 Z1 Z2 Z8
attribute [local go_sem ↓] reduceIte
theorem small_d (i m : Nat) (s : RS) (h : List Ob) (hm : m ≤ 9223372036854775807) (hi : h[i]? = some (Yh s)) (ho : s.Ok) (hl : s.data.length ≤ 1000000000) :
 Does Z6 G 172 h [.ptr i 0, .v (.int .u64 m)] (fun h' r => h' = h.set i (Yh (rdSm m s).2) ∧ r = .v (.int .i64 ((rdSm m s).1 : Nat))) := by
 have hil := (Z5.1 hi).1
 have hc := rUint_d G hG i s h hi ho hl
 have hR : rdSm m s = (if m < (X5 s).1 then 0 else (X5 s).1, if m < (X5 s).1 then (X5 s).2.fail else (X5 s).2) := rfl
 rw [hR]
 generalize X5 s = ru at hc ⊢
 obtain ⟨n, t⟩ := ru
 simp only at hc ⊢
 obtain ⟨h1, hh⟩ : ∃ h1, h.set i (Yh t) = h1 := ⟨_, rfl⟩
 have hB : h1[i]? = some (Yh t) := by rw [← hh]; exact Zl hil
 have hF := rFail_d G hG i t h1 hB
 have hS : h1.set i (Yh t.fail) = h.set i (Yh t.fail) := by rw [← hh, Zu]
 rw [hh] at hc
 rw [hS] at hF
 refine Y6 Tryz.func172 rfl (Z0 rfl) hG fun hl0 _ => ?_
 simp only [Tryz.ntmps172]
 by_cases hq0 : m < n
 · rw [if_pos hq0, if_pos hq0]
   have w1 : ((n : Nat) : Int) > ((m : Nat) : Int) := by omega
   have w2 : decide (((m : Nat) : Int) < ((n : Nat) : Int)) = true := decide_eq_true (by omega)
   have F := w2
   repeat' first
    | refine g0 ?_
    | (with_reducible refine Y7 ?_; first | refine gc rfl rfl rfl ent_220 (hc) ?_ | refine gc rfl rfl rfl ent_223 (hF) ?_)
   exact ⟨by simp, endS (i := i) (ob := Yh t.fail) (r := .v (.int .i64 (0 : Int))) hl0 (Xu _ _) rfl (by simp [U0]) (by simp) rfl (by rw [low]; trivial) ⟨rfl, rfl⟩⟩
 · rw [if_neg hq0, if_neg hq0]
   have w2 : decide (((m : Nat) : Int) < ((n : Nat) : Int)) = false := decide_eq_false (by omega)
   have w3 : IntKind.i64.wrap (n : Int) = (n : Int) := IntWalk.i64_in _ (by omega)
   have F : _ ∧ _ := ⟨w2, w3⟩
   repeat' first
    | refine g0 ?_
    | (with_reducible refine Y7 ?_; refine gc rfl rfl rfl ent_220 (hc) ?_)
   exact ⟨by simp, endS (i := i) (ob := Yh t) (r := .v (.int .i64 (n : Int))) hl0 (Xu _ _) rfl (by simp [← hh, U0]) (by simp [← hh]) rfl (by rw [low]; trivial) ⟨rfl, rfl⟩⟩
end
section
attribute [local irreducible] on aOp
attribute [local go_sem] decide_true decide_false Zj Zi
attribute [local simp] byD_len
def q4 (R A Z V : Ob) (T : List Ob) : List Ob := R :: A :: Z :: V :: T
section
variable {R A Z V y y' z z' : Ob} {T l : List Ob}
end
def q5 (R A Z V B : Ob) (T : List Ob) : List Ob := R :: A :: Z :: V :: B :: T
section
variable {R A Z V B y y' z z' : Ob} {T l : List Ob}
theorem q5_0 : (q5 R A Z V B T)[0]? = some R := rfl
theorem q5_s0 : (q5 R A Z V B T).set 0 y = q5 y A Z V B T := rfl
theorem q5_1 : (q5 R A Z V B T)[1]? = some A := rfl
theorem q5_s1 : (q5 R A Z V B T).set 1 y = q5 R y Z V B T := rfl
theorem q5_2 : (q5 R A Z V B T)[2]? = some Z := rfl
theorem Yg7 : (q5 R A Z V B T).set 2 y = q5 R A y V B T := rfl
theorem q5_3 : (q5 R A Z V B T)[3]? = some V := rfl
theorem q5_s3 : (q5 R A Z V B T).set 3 y = q5 R A Z y B T := rfl
theorem q5_4 : (q5 R A Z V B T)[4]? = some B := rfl
theorem q5_s4 : (q5 R A Z V B T).set 4 y = q5 R A Z V y T := rfl
theorem Yb9 : (q5 R A Z V B T).length = T.length + 5 := rfl
theorem q5_app : q5 R A Z V B T ++ l = q5 R A Z V B (T ++ l) := rfl
theorem q5_l : (q5 R A Z V B (T ++ [y]))[T.length + 5]? = some y := by simp [q5]
theorem q5_sl : (q5 R A Z V B (T ++ [y])).set (T.length + 5) y' = q5 R A Z V B (T ++ [y']) := by simp [q5]
theorem q5_l2 : (q5 R A Z V B (T ++ [y, z]))[T.length + 5]? = some y := by simp [q5]
theorem q5_sl2 : (q5 R A Z V B (T ++ [y, z])).set (T.length + 5) y' = q5 R A Z V B (T ++ [y', z]) := by simp [q5]
theorem q5_l3 : (q5 R A Z V B (T ++ [y, z]))[T.length + 1 + 5]? = some z := by simp [q5]
theorem q5_sl3 : (q5 R A Z V B (T ++ [y, z])).set (T.length + 1 + 5) z' = q5 R A Z V B (T ++ [y, z']) := by simp [q5]
end
def q6 (R A Z V B C : Ob) (T : List Ob) : List Ob := R :: A :: Z :: V :: B :: C :: T
section
variable {R A Z V B C y y' z z' : Ob} {T l : List Ob}
theorem q6_0 : (q6 R A Z V B C T)[0]? = some R := rfl
theorem q6_s0 : (q6 R A Z V B C T).set 0 y = q6 y A Z V B C T := rfl
theorem q6_1 : (q6 R A Z V B C T)[1]? = some A := rfl
theorem q6_s1 : (q6 R A Z V B C T).set 1 y = q6 R y Z V B C T := rfl
theorem q6_2 : (q6 R A Z V B C T)[2]? = some Z := rfl
theorem q6_s2 : (q6 R A Z V B C T).set 2 y = q6 R A y V B C T := rfl
theorem q6_3 : (q6 R A Z V B C T)[3]? = some V := rfl
theorem q6_s3 : (q6 R A Z V B C T).set 3 y = q6 R A Z y B C T := rfl
theorem q6_4 : (q6 R A Z V B C T)[4]? = some B := rfl
theorem q6_s4 : (q6 R A Z V B C T).set 4 y = q6 R A Z V y C T := rfl
theorem q6_5 : (q6 R A Z V B C T)[5]? = some C := rfl
theorem q6_s5 : (q6 R A Z V B C T).set 5 y = q6 R A Z V B y T := rfl
theorem q6_len : (q6 R A Z V B C T).length = T.length + 6 := rfl
theorem q6_app : q6 R A Z V B C T ++ l = q6 R A Z V B C (T ++ l) := rfl
theorem q6_l : (q6 R A Z V B C (T ++ [y]))[T.length + 6]? = some y := by simp [q6]
theorem q6_sl : (q6 R A Z V B C (T ++ [y])).set (T.length + 6) y' = q6 R A Z V B C (T ++ [y']) := by simp [q6]
theorem q6_l2 : (q6 R A Z V B C (T ++ [y, z]))[T.length + 6]? = some y := by simp [q6]
theorem q6_sl2 : (q6 R A Z V B C (T ++ [y, z])).set (T.length + 6) y' = q6 R A Z V B C (T ++ [y', z]) := by simp [q6]
theorem q6_l3 : (q6 R A Z V B C (T ++ [y, z]))[T.length + 1 + 6]? = some z := by simp [q6]
theorem q6_sl3 : (q6 R A Z V B C (T ++ [y, z])).set (T.length + 1 + 6) z' = q6 R A Z V B C (T ++ [y, z']) := by simp [q6]
end
theorem rdSm_eq (m : Nat) (s : RS) : rdSm m s = Yr m s := rfl
theorem Us {n : Int} {d1 d2 d3 : D} {a b c : List (List D)} (h1 : Wk d1 (.sl 1 a)) (h2 : Wk d2 (.sl 4 b)) (h3 : Wk d3 (.sl 2 c)) : Wk (.agg [.v (.int .i64 n), d1, d2, d3]) (.agg [.v (.int .i64 n), .sl 1 a, .sl 4 b, .sl 2 c]) :=
 wk_agg (Wq (X6 _) (Wq h1 (Wq h2 (Wq h3 Yl5))))
theorem rdrOb_ren (π : Nat → Nat) (s : RS) : Ww π (Yh s) = Yh s := by
 rw [U3]; simp only [Ww, renL, ren, renR_by]
theorem rdr_at {P : Program} {G : Nat → D} (hG : ∀ g, low 0 (G g)) {f : FuncId} {s s' : RS} {xs : List D} {r0 : D} (lx : lowL 0 xs) (lr : low 0 r0) (q : Does P G f [Yh s] (.ptr 0 0 :: xs) (fun h' r => h' = [Yh s'] ∧ r = r0)) {h : List Ob} {i : Nat} (hi : h[i]? = some (Yh s)) : Does P G f h (.ptr i 0 :: xs) (fun h' r => h' = h.set i (Yh s') ∧ r = r0) := by
 have L : Lies (fun _ => i) [Yh s] h := by
  refine ⟨fun k ob' hk => ?_, fun a b ha hb _ => ?_, ?_⟩
  · rcases k with _ | k
    · cases hk; rw [rdrOb_ren]; exact hi
    · simp at hk
  · simp at ha hb; omega
  · intro x hx
    simp at hx; subst hx; exact Xu _ s
 have F := Does.frame hG L (args := .ptr 0 0 :: xs) (by rw [lowL, low]; exact ⟨Nat.zero_lt_succ _, Uq (Zy _) _ lx⟩) (K1 := fun h' r => h' = [Yh s'] ∧ r = r0) (by
  rintro _ _ ⟨rfl, _⟩
  refine ⟨fun a b ha hb _ => ?_, fun k h1 h2 => ?_⟩
  · simp at ha hb; omega
  · have h1 : 1 ≤ k := h1
    have h2 : k < 1 := h2
    omega) q
 rw [renL, ren, Xh _ _ lx] at F
 refine F.mono ?_
 rintro _ _ ⟨_, _, ⟨rfl, rfl⟩, rfl, rfl⟩
 refine ⟨?_, Uj _ _ lr⟩
 simp only [List.map_cons, List.map_nil, plc, rdrOb_ren]
def ReadD (G : Nat → D) (l : Lat) : Prop := ∀ s : RS, s.Ok → s.data.length ≤ 1000000 → Does Z6 G 106 [Yh s] [.ptr 0 0, .agg (latX l)] (fun h' r => h' = [Yh (X8 l s).2] ∧ r = .agg (vaX (X8 l s).1))
theorem ReadD.at {G : Nat → D} (hG : ∀ g, low 0 (G g)) {l : Lat} (q : ReadD G l) {s : RS} (ho : s.Ok) (hl : s.data.length ≤ 1000000) {h : List Ob} {i : Nat} (hi : h[i]? = some (Yh s)) : Does Z6 G 106 h [.ptr i 0, .agg (latX l)] (fun h' r => h' = h.set i (Yh (X8 l s).2) ∧ r = .agg (vaX (X8 l s).1)) :=
 rdr_at hG (Xy _ l) (by rw [low]; exact Yd _ _) (q s ho hl) hi
theorem endR {P : Program} {res : Array ResultVar} {K : List Ob → D → Prop} {s : S} {s' : RS} {ds : List D} {r : D} {T : List Ob} (h1 : resD P s res.toList = some ds) (h2 : s.h = Yh s' :: T) (lr : low 0 r) (hr : cvD (fun i => decide (1 ≤ i)) (Yh s' :: T) (outD ds) = r) (hK : K [Yh s'] r) : EndD P res 1 K s :=
 endX ds [Yh s'] T r h1 h2 (Zx _) (fun x hx => by simp at hx; subst hx; exact Xu _ s') (Zp8 (Zy _) _ lr) hr hK
section
variable {l : Lat}
theorem rd_1 (h : l.kind = 1) (s : RS) : X8 l s = (.mk (if (Wy s).1 then 1 else 0) [] [] [], (Wy s).2) := by cases l; simp only [Lat.kind] at h; subst h; exact readV_1 s
theorem rd_23 (h : l.kind = 2 ∨ l.kind = 3) (s : RS) : X8 l s = (.mk (Ze3 s).1 [] [] [], (Ze3 s).2) := by cases l; exact Yn0 h s
theorem rd_410 (h : l.kind = 4 ∨ l.kind = 10) (s : RS) : X8 l s = (.mk 0 (Xc Xg (Yc s).1 (Yc s).2).1 [] [], (Xc Xg (Yc s).1 (Yc s).2).2) := by cases l; exact Yb0 h s
theorem rd_8 (h : l.kind = 8) (s : RS) : X8 l s = if (Yr 2 s).1 = 1 then (.mk 1 [(Xg (Yr 2 s).2).1] [] [], (Xg (Yr 2 s).2).2) else (.mk ((Yr 2 s).1 : Nat) [] [] [], (Yr 2 s).2) := by cases l; simp only [Lat.kind] at h; subst h; exact readV_8 s
end
theorem Zu9 (n : Int) (ns : List ByteArray) (ps : List Val) (es : List En) : vaX (.mk n ns ps es) = [.v (.int .i64 n), .sl 1 (ns.map strX), .sl 4 (ps.map vaX), .sl 2 (es.map enX)] := by rw [Y5]; rfl
variable (G : Nat → D) (hG : ∀ g, low 0 (G g))
include hG
attribute [local go_sem] Z4 Za Zb Zc Z3 Z7 Z1 Z2 Z8
attribute [local go_sem ↓] reduceIte
theorem rErr_d (i : Nat) (s : RS) (h : List Ob) (hi : h[i]? = some (Yh s)) : Does Z6 G 170 h [.ptr i 0] (fun h' r => h' = h ∧ r = .v (.int .i64 s.err)) := by
 rw [U3] at hi
 refine Y6 Tryz.func170 rfl (Z0 rfl) hG fun hl0 _ => ?_
 simp only [Tryz.ntmps170]
 have F := hi
 repeat' first
  | refine g0 ?_
  | fail
 exact ⟨.inr rfl, endV hl0 rfl rfl ⟨rfl, rfl⟩⟩
theorem read_1 (l : Lat) (hk : l.kind = 1) : ReadD G l := fun s ho hl => by
 rw [rd_1 hk, Zu9]
 have hb := fun (h : List Ob) (k : h[0]? = some (Yh s)) => rBool_d G hG 0 s h k ho (by omega)
 generalize Wy s = b at *
 obtain ⟨b, s'⟩ := b
 apply Does.weak
 refine Y6 Tryz.func106 rfl (Z0 rfl) hG fun hl0 _ => ?_
 simp only [Tryz.ntmps106]
 cases b
 all_goals
  skip
  have F : _ ∧ _ := ⟨Y4 l, hk⟩
  repeat' first
   | refine g0 ?_
   | (with_reducible refine Y7 ?_; refine gc rfl rfl rfl ent_167 (hb _ (by first | rfl | simp)) ?_)
 · exact ⟨.inr rfl, endR (s' := s') (ds := [.agg nilV]) (r := .agg nilV) (T := _) (by simp only [resD, Tryz.results106, go_sem, ↓reduceIte, Z1, Z3, Z2, nilV]; try rfl) rfl (by simp [low, lowL, nilV]) (by simp [outD, cvD, cv1, nilV]) ⟨_, ⟨rfl, rfl⟩, Us Yn Yn Yn⟩⟩
 · exact ⟨.inr rfl, endR (s' := s') (ds := [.agg [.v (.int .i64 1), .v (.slice none 0 0), .v (.slice none 0 0), .v (.slice none 0 0)]]) (r := .agg [.v (.int .i64 1), .v (.slice none 0 0), .v (.slice none 0 0), .v (.slice none 0 0)]) (T := _) (by simp only [resD, Tryz.results106, go_sem, ↓reduceIte, Z1, Z3, Z2, nilV]; try rfl) rfl (by simp [low, lowL]) (by simp [outD, cvD, cv1]) ⟨_, ⟨rfl, rfl⟩, Us Yn Yn Yn⟩⟩
theorem read_23 (l : Lat) (hk : l.kind = 2 ∨ l.kind = 3) : ReadD G l := fun s ho hl => by
 rw [rd_23 hk, Zu9]
 have hb := fun (h : List Ob) (k : h[0]? = some (Yh s)) => rInt_d G hG 0 s h k ho (by omega)
 generalize Ze3 s = b at *
 obtain ⟨b, s'⟩ := b
 apply Does.weak
 refine Y6 Tryz.func106 rfl (Z0 rfl) hG fun hl0 _ => ?_
 simp only [Tryz.ntmps106]
 rcases hk with hk | hk
 all_goals
  skip
  have F : _ ∧ _ := ⟨Y4 l, hk⟩
  repeat' first
   | refine g0 ?_
   | (with_reducible refine Y7 ?_; refine gc rfl rfl rfl ent_168 (hb _ (by first | rfl | simp)) ?_)
  exact ⟨.inr rfl, endR (s' := s') (ds := [.agg [.v (.int .i64 b), .v (.slice none 0 0), .v (.slice none 0 0), .v (.slice none 0 0)]]) (r := .agg [.v (.int .i64 b), .v (.slice none 0 0), .v (.slice none 0 0), .v (.slice none 0 0)]) (T := _) (by simp only [resD, Tryz.results106, go_sem, ↓reduceIte, Z1, Z3, Z2, nilV]; try rfl) rfl (by simp [low, lowL]) (by simp [outD, cvD, cv1]) ⟨_, ⟨rfl, rfl⟩, Us Yn Yn Yn⟩⟩
theorem read_8 (l : Lat) (hk : l.kind = 8) : ReadD G l := fun s ho hl => by
 rw [rd_8 hk]
 have hb := fun (h : List Ob) (k : h[0]? = some (Yh s)) => small_d G hG 0 2 s h (by omega) k ho (by omega)
 simp only [rdSm_eq] at hb
 obtain ⟨ho2, hd2⟩ := Vh 2 ho
 generalize Yr 2 s = b at *
 obtain ⟨b, s1⟩ := b
 simp only at hb ho2 hd2 ⊢
 have ht := fun (h : List Ob) (k : h[0]? = some (Yh s1)) => Yo0 G hG 0 s1 h k ho2 (by rw [hd2]; omega)
 apply Does.weak
 refine Y6 Tryz.func106 rfl (Z0 rfl) hG fun hl0 _ => ?_
 simp only [Tryz.ntmps106]
 by_cases hb1 : b = 1
 · subst hb1
   rw [if_pos rfl, Zu9]
   have F : _ ∧ _ := ⟨Y4 l, hk⟩
   repeat' first
    | refine gg ?_
    | refine Two.mk (fun hq => ?_) fun hq => ?_
    | (with_reducible refine Y7 ?_; first | refine gc rfl rfl rfl Yq6 (hb _ (by first | rfl | simp)) ?_ | refine gc rfl rfl rfl Ye3 (ht _ (by first | rfl | simp)) ?_)
    | (exfalso; omega)
   exact ⟨.inr rfl, endR (s' := (Xg s1).2) (ds := [.agg [.v (.int .i64 1), .buf 4 1, .v (.slice none 0 0), .v (.slice none 0 0)]]) (r := .agg [.v (.int .i64 1), .sl 1 [strX (Xg s1).1], .v (.slice none 0 0), .v (.slice none 0 0)]) (T := _) (by simp only [resD, Tryz.results106, go_sem, ↓reduceIte, Z1, Z3, Z2, nilV]; try rfl) rfl (by simp [low, lowL, lowR, strX]) (by simp [outD, cvD, cv1]; rfl) ⟨_, ⟨rfl, rfl⟩, Us (X6 _) Yn Yn⟩⟩
 · rw [if_neg hb1, Zu9]
   have hb2 : ¬ (b : Int) = 1 := by omega
   have F : _ ∧ _ ∧ _ := ⟨Y4 l, hk, hb2⟩
   repeat' first
    | refine g0 ?_
    | (with_reducible refine Y7 ?_; refine gc rfl rfl rfl Yq6 (hb _ (by first | rfl | simp)) ?_)
   exact ⟨.inr rfl, endR (s' := s1) (ds := [.agg [.v (.int .i64 b), .v (.slice none 0 0), .v (.slice none 0 0), .v (.slice none 0 0)]]) (r := .agg [.v (.int .i64 b), .v (.slice none 0 0), .v (.slice none 0 0), .v (.slice none 0 0)]) (T := _) (by simp only [resD, Tryz.results106, go_sem, ↓reduceIte, Z1, Z3, Z2, nilV]; try rfl) rfl (by simp [low, lowL]) (by simp [outD, cvD, cv1]) ⟨_, ⟨rfl, rfl⟩, Us Yn Yn Yn⟩⟩
end
section
attribute [local irreducible] on aOp
attribute [local go_sem] decide_true decide_false Zj Zi
attribute [local simp] byD_len
theorem LoopAt.next2 {α : Type} {R : List α × RS} {f : RS → α × RS} {acc : List α} {k : Nat} {s : RS} (h : LoopAt R f acc k s) (hk : 0 < k) (he : s.err = 0) : LoopAt R f (acc ++ [(f s).1]) (k - 1) (f s).2 := by
 obtain ⟨j, rfl⟩ : ∃ j, k = j + 1 := ⟨k - 1, by omega⟩
 exact h.step he
theorem LoopAt.stop2 {α : Type} {R : List α × RS} {f : RS → α × RS} {acc : List α} {k : Nat} {s : RS} (h : LoopAt R f acc k s) (hk : ¬ (0 < k ∧ s.err = 0)) : R = (acc, s) := by
 by_cases h0 : k = 0
 · subst h0; exact h.end0
 · exact h.endE (fun q => hk ⟨by omega, q⟩)
theorem Yi1 (s : ByteArray) : X3 1 [strX s] := fun row hr => by
 simp only [Zv] at hr; subst hr
 exact ⟨rfl, fun d hd => by simp only [strX, Zv] at hd; subst hd; rfl⟩
theorem low_vaR (n : Int) (ns : List ByteArray) : low 0 (.agg [.v (.int .i64 n), .sl 1 (ns.map strX), .v (.slice none 0 0), .v (.slice none 0 0)]) := by
 rw [low]; simp only [lowL]; exact ⟨by simp [low], W2 _ ns, by simp [low], by simp [low], trivial⟩
variable (G : Nat → D) (hG : ∀ g, low 0 (G g))
include hG
attribute [local go_sem] Z4 Za Zb Zc Zk Ze Z9 Zd Zf Zg Z3 Z7 Z1 Z2 Z8 q5_0 q5_1 q5_2 q5_3 q5_4 q5_app q5_l q5_l2 q5_l3 Yb9 q5_s0 q5_s1 Yg7 q5_s3 q5_s4 q5_sl q5_sl2 q5_sl3
attribute [local go_sem ↓] reduceIte
theorem read_410 (l : Lat) (hk : l.kind = 4 ∨ l.kind = 10) : ReadD G l := fun s ho hl => by
 rw [rd_410 hk, Zu9]
 have hb := fun (h : List Ob) (k : h[0]? = some (Yh s)) => Zx8 G hG 0 s h k ho (by omega)
 obtain ⟨ho2, hd2, hc2⟩ := Ud ho
 generalize Yc s = b at *
 obtain ⟨N, s1⟩ := b
 simp only at hb ho2 hd2 hc2 ⊢
 generalize hR : Xc Xg N s1 = R
 have h5 : ¬ l.kind = 5 := by omega
 have h5d : decide (l.kind = 5) = false := decide_eq_false h5
 have hgo : ∀ (H : l.kind = 4 ∨ l.kind = 10), True := fun _ => trivial
 clear hgo
 apply Does.weak
 refine Y6 Tryz.func106 rfl (Z0 rfl) hG fun hl0 _ => ?_
 simp only [Tryz.ntmps106]
 have hk' := hk
 rcases hk with hk | hk
 all_goals
  skip
  have F : _ ∧ _ := ⟨Y4 l, hk⟩
  repeat' first
   | refine g0 ?_
   | (with_reducible refine Y7 ?_; refine gc rfl rfl rfl Yq7 (hb _ (by first | rfl | simp)) ?_)
  refine Vl 9 1 3 [.v (.int .i64 0)] [.v (.slice none 0 0), .v (.slice none 0 0)] rfl ?_
  refine Yf (fun m e h' => ∃ (k : Nat) (acc : List ByteArray) (s2 : RS) (T : List Ob), m = k ∧ LoopAt R Xg acc k s2 ∧ s2.Ok ∧ s2.data.length = s.data.length ∧ acc.length + k ≤ 1000000 ∧ h' = q5 (Yh s2) (.cells (latX l)) (.cells nilV) (.cells [.v (.int .i64 0), .buf 4 acc.length, .v (.slice none 0 0), .v (.slice none 0 0)]) (.buf 9 1 (acc.map strX)) T ∧ e 0 = .ptr 0 0 ∧ e 3 = .ptr 1 0 ∧ e 4 = .ptr 2 0 ∧ e 5 = .ptr 3 0 ∧ e 6 = .v (.int .i64 k)) N ⟨N, [], s1, [], rfl, hR ▸ LoopAt.start Xg N s1, ho2, by rw [hd2], by simp; omega, by rw [Y4 l, hk]; rfl, rfl, rfl, rfl, rfl, rfl⟩ ?_
  rintro m e h' ⟨k, acc, s2, T, rfl, hLp, hoA, hdA, hlen, rfl, e0, e3, e4, e5, e6⟩
  have hEr := fun (h : List Ob) (q : h[0]? = some (Yh s2)) => rErr_d G hG 0 s2 h q
  have hlA : s2.data.length ≤ 1000000 := by omega
  have ht := fun (h : List Ob) (q : h[0]? = some (Yh s2)) => Yo0 G hG 0 s2 h q hoA (by omega)
  by_cases hgo : 0 < m ∧ s2.err = 0
  · obtain ⟨hm0, he0⟩ := hgo
    have he0d : decide (s2.err = 0) = true := decide_eq_true he0
    have hm0d : decide ((0 : Int) < (m : Int)) = true := decide_eq_true (by omega)
    have wk : IntKind.i64.wrap ((m : Int) - 1) = ((m - 1 : Nat) : Int) := by rw [show (m : Int) - 1 = ((m - 1 : Nat) : Int) by omega]; exact IntWalk.i64_in _ (by omega)
    have hlr : (acc.map strX).length = acc.length := Zh _
    have hok := (Ue hoA).1
    have hdk := (Ue hoA).2.1
    have hN := hLp.next2 hm0 he0
    have F : _ ∧ _ ∧ _ ∧ _ ∧ _ ∧ _ ∧ _ ∧ _ ∧ _ ∧ _ ∧ _ := ⟨Y4 l, hk, h5d, e0, e3, e4, e5, e6, he0d, hm0d, wk⟩
    repeat' first
     | (with_reducible refine Ya ?_; refine X7 mixd (by kernel_rfl) ?_)
     | ((with_reducible refine Uf ?_); first | (refine Jz rfl rfl rfl rfl (by (first | (simp only [go_sem, F]; rfl) | (simp only [go_sem, F]; done))) hlr (by simp only [go_sem, F]; rfl) (by (first | (simp only [go_sem, F]; rfl) | (simp only [go_sem, F]; done))) (by simp) (Yi1 _) (by simp; omega) ?_) | (refine aS1 rfl rfl fun K HK => ?_; (first | refine Ym rfl ?_ | skip); simp only [go_sem, F] <;> (refine HK _ _ rfl ?_; clear HK K)) | refine Xq rfl rfl rfl (by (first | (simp only [go_sem, F]; rfl) | (simp only [go_sem, F]; done))) (by rw [getD_one (by simp only [go_sem, F])]; rfl) ?_ | refine Zd9 rfl rfl (by (first | (simp only [go_sem, F]; rfl) | (simp only [go_sem, F]; done))) rfl (by simp only [go_sem, F]) (by simp) ?_ | refine Jj rfl rfl (by simp only [litD, X1, go_sem, Zd, Zf, Zt, Zq, and_self, ↓reduceIte, Z1, Z3, Z2, Z7, Z8, Za, Zc, Zb, Y4 l, hk, h5d, e0, e3, e4, e5, e6, he0d, hm0d, wk, q5_0, q5_1, q5_2, q5_3, q5_4, q5_s0, q5_s1, Yg7, q5_s3, q5_s4, Yb9, q5_app, q5_l, q5_sl, q5_l2, q5_sl2, q5_l3, q5_sl3, Zk, Ze, Zg, Z9, Zd, Zf, Z4]; rfl) ?_ | refine Wv (by simp only [Zp, Zr, Zg, Ze, Wc, chk1]; repeat' (first | exact trivial | refine And.intro ?_ ?_ | exact .inr Yq | exact .inr Yx | exact .inr (Vd (by omega)) | exact .inr (Zr2 (by omega)) | (refine .inr ?_; simp [compat, We, Wg, Va, nop, Yb9] <;> omega) | exact .inl (by kernel_rfl))) ?_ | refine Um rfl rfl rfl Ye3 (by (first | (simp only [go_sem, F]; rfl) | (simp only [go_sem, F]; done))) (fun h2 k2 => ht h2 k2) ?_)
     | refine g0 ?_
     | ((with_reducible refine Y7 ?_); first | refine gc rfl rfl rfl Zh9 (hEr _ (by first | rfl | simp)) ?_)
    exact ⟨rfl, m - 1, by omega, m - 1, acc ++ [(Xg s2).1], (Xg s2).2, _, rfl, hN, hok, by rw [← hdA]; exact congrArg List.length hdk, by simp; omega, by rw [Y4 l, Zm, Z9, hk]; rfl, e0, e3, e4, e5, rfl⟩
  · have hst := hLp.stop2 hgo
    rw [hst]
    have hgo2 : ¬ (0 < (m : Int)) ∨ (0 < (m : Int) ∧ ¬ s2.err = 0) := by omega
    rcases hgo2 with hm0 | ⟨hm0, he0⟩
    · skip
      repeat' first
       | (with_reducible first | refine sA rfl ?_ | refine sI rfl rfl ?_ | refine sT rfl ?_ | refine sB rfl ?_)
       | (with_reducible refine Y7 ?_; first | refine Yp ?_ | (refine ao1 rfl rfl fun K HK => ?_; (first | refine Ym rfl ?_ | skip); simp only [go_sem, e0, e3, e4, e5, e6, hm0, nilV] <;> (refine HK _ _ ?_; clear HK K)) | refine ao0 rfl rfl ?_ | (refine ao1' rfl fun K HK => ?_; simp only [go_sem, e0, e3, e4, e5, e6, hm0, nilV]; refine HK _ _ ?_; clear HK K))
      exact ⟨.inr rfl, endR (s' := s2) (ds := [.agg [.v (.int .i64 0), .buf 4 acc.length, .v (.slice none 0 0), .v (.slice none 0 0)]]) (r := .agg [.v (.int .i64 0), .sl 1 (acc.map strX), .v (.slice none 0 0), .v (.slice none 0 0)]) (T := _) (by simp only [resD, Tryz.results106, go_sem, ↓reduceIte, Z1, Z3, Z2, e4, nilV, q5_2, Yg7]; try rfl) rfl (low_vaR _ _) (by simp [outD, cvD, cv1]) ⟨_, ⟨rfl, rfl⟩, Us (X6 _) Yn Yn⟩⟩
    · skip
      repeat' first
       | (with_reducible first | refine sA rfl ?_ | refine sI rfl rfl ?_ | refine sT rfl ?_ | refine sB rfl ?_)
       | (with_reducible refine Y7 ?_; first | refine Yp ?_ | (refine ao1 rfl rfl fun K HK => ?_; (first | refine Ym rfl ?_ | skip); simp only [go_sem, e0, e3, e4, e5, e6, hm0, he0, nilV] <;> (refine HK _ _ ?_; clear HK K)) | (refine ao1' rfl fun K HK => ?_; simp only [go_sem, e0, e3, e4, e5, e6, hm0, he0, nilV]; refine HK _ _ ?_; clear HK K))
       | ((with_reducible refine Y7 ?_); first | (refine ao2 rfl rfl rfl Zh9 (hEr _ (by first | rfl | simp)) ?_; rintro _ _ ⟨rfl, rfl⟩))
      exact ⟨.inr rfl, endR (s' := s2) (ds := [.agg [.v (.int .i64 0), .buf 4 acc.length, .v (.slice none 0 0), .v (.slice none 0 0)]]) (r := .agg [.v (.int .i64 0), .sl 1 (acc.map strX), .v (.slice none 0 0), .v (.slice none 0 0)]) (T := _) (by simp only [resD, Tryz.results106, go_sem, ↓reduceIte, Z1, Z3, Z2, e4, nilV, q5_2, Yg7]; try rfl) rfl (low_vaR _ _) (by simp [outD, cvD, cv1]) ⟨_, ⟨rfl, rfl⟩, Us (X6 _) Yn Yn⟩⟩
end
section
attribute [local irreducible] on aOp
attribute [local go_sem] decide_true decide_false Zj Zi
attribute [local simp] byD_len
theorem rd_67 {l : Lat} (h : l.kind = 6 ∨ l.kind = 7) (s : RS) : X8 l s = (.mk 0 [] (Yu l.parts s).1 [], (Yu l.parts s).2) := by cases l; exact Ym9 h s
theorem rowsOk_va (v : Val) : X3 4 [vaX v] := fun row hr => by simp only [Zv] at hr; subst hr; exact ⟨Xn v, List.all_eq_true.1 (Zb4 v)⟩
theorem low_vaP (n : Int) (ps : List Val) : low 0 (.agg [.v (.int .i64 n), .v (.slice none 0 0), .sl 4 (ps.map vaX), .v (.slice none 0 0)]) := by
 rw [low]; simp only [lowL]; exact ⟨by simp [low], by simp [low], Wf _ ps, by simp [low], trivial⟩
variable (G : Nat → D) (hG : ∀ g, low 0 (G g))
include hG
attribute [local go_sem] Z4 Za Zb Zc Zo Zk Ze Z9 Zd Zh Zf Zg Z3 Z7 Z1 Z2 Z8 q5_0 q5_1 q5_2 q5_3 q5_4 q5_app q5_l q5_l2 q5_l3 Yb9 q5_s0 q5_s1 Yg7 q5_s3 q5_s4 q5_sl q5_sl2 q5_sl3 Xn Vs
attribute [local go_sem ↓] reduceIte
theorem read_67 (l : Lat) (hk : l.kind = 6 ∨ l.kind = 7) (hpl : l.parts.length ≤ 8) (hrd : ∀ p ∈ l.parts, ReadD G p) (hkp : ∀ p ∈ l.parts, ∀ s : RS, s.Ok → (X8 p s).2.Ok ∧ (X8 p s).2.data = s.data) : ReadD G l := fun s ho hl => by
 rw [rd_67 hk, Zu9]
 generalize hR : Yu l.parts s = R
 apply Does.weak
 refine Y6 Tryz.func106 rfl (Z0 rfl) hG fun hl0 _ => ?_
 simp only [Tryz.ntmps106]
 rcases hk with hk | hk
 all_goals
  skip
  have F : _ ∧ _ := ⟨Y4 l, hk⟩
  repeat' first
   | refine g0 ?_
   | fail
  refine Vl 30 4 3 [.v (.int .i64 0), .v (.slice none 0 0)] [.v (.slice none 0 0)] rfl ?_
  refine Yf (fun m e h' => ∃ (k : Nat) (acc : List Val) (s2 : RS) (T : List Ob), k ≤ l.parts.length ∧ m = l.parts.length - k ∧ R = (acc ++ (Yu (l.parts.drop k) s2).1, (Yu (l.parts.drop k) s2).2) ∧ s2.Ok ∧ s2.data = s.data ∧ acc.length = k ∧ h' = q5 (Yh s2) (.cells (latX l)) (.cells nilV) (.cells [.v (.int .i64 0), .v (.slice none 0 0), .buf 4 acc.length, .v (.slice none 0 0)]) (.buf 30 4 (acc.map vaX)) T ∧ e 0 = .ptr 0 0 ∧ e 3 = .ptr 1 0 ∧ e 4 = .ptr 2 0 ∧ e 5 = .ptr 3 0 ∧ e 16 = .sl 6 (l.parts.map latX) ∧ e 17 = .v (.int .i64 l.parts.length) ∧ e 18 = .v (.int .i64 k)) l.parts.length ⟨0, [], s, [], Zy _, rfl, hR.symm, ho, rfl, rfl, by rw [Y4 l, hk]; rfl, rfl, rfl, rfl, rfl, rfl, rfl, rfl⟩ ?_
  rintro m e h' ⟨k, acc, s2, T, hkl, rfl, hh, hoA, hdA, hal, rfl, e0, e3, e4, e5, e16, e17, e18⟩
  by_cases hlt : k < l.parts.length
  rotate_left
  · rw [List.drop_eq_nil_of_le (by omega), Yu, List.append_nil] at hh
    rw [hh]
    repeat' first
     | (with_reducible first | refine sA rfl ?_ | refine sI rfl rfl ?_ | refine sT rfl ?_ | refine sB rfl ?_)
     | (with_reducible refine Y7 ?_; first | refine Yp ?_ | (refine ao1 rfl rfl fun K HK => ?_; simp only [go_sem, e0, e3, e4, e5, e16, e17, e18, nilV]; (first | refine Yt (fun hq => ?_) (fun hq => ?_) | (refine ⟨by omega, by omega, ?_⟩; intro row hrow; obtain ⟨x, hx, rfl⟩ := Zb9 hrow; clear hrow) | skip) <;> (refine HK _ _ ?_; clear HK K)) | (refine ao1' rfl fun K HK => ?_; simp only [go_sem, e0, e3, e4, e5, e16, e17, e18, nilV]; refine HK _ _ ?_; clear HK K))
     | (exfalso; omega)
    exact ⟨.inr rfl, endR (s' := s2) (ds := [.agg [.v (.int .i64 0), .v (.slice none 0 0), .buf 4 acc.length, .v (.slice none 0 0)]]) (r := .agg [.v (.int .i64 0), .v (.slice none 0 0), .sl 4 (acc.map vaX), .v (.slice none 0 0)]) (T := _) (by simp only [resD, Tryz.results106, go_sem, ↓reduceIte, Z1, Z3, Z2, e4, nilV, q5_2, Yg7]; try rfl) rfl (low_vaP _ _) (by simp [outD, cvD, cv1]) ⟨_, ⟨rfl, rfl⟩, Us Yn (X6 _) Yn⟩⟩
  have hx : l.parts[k]? = some l.parts[k] := Zn hlt
  have wk : IntKind.i64.wrap ((k : Int) + 1) = ((k + 1 : Nat) : Int) := IntWalk.i64_in _ (by omega)
  have hrx := fun (h : List Ob) (q : h[0]? = some (Yh s2)) => (hrd _ (List.getElem_mem hlt)).at hG hoA (by rw [hdA]; exact hl) q
  obtain ⟨ho3, hd3⟩ := hkp _ (List.getElem_mem hlt) s2 hoA
  rw [Zw hlt, Yu] at hh
  generalize l.parts[k] = x at hx hrx ho3 hd3 hh
  generalize X8 x s2 = y at hrx ho3 hd3 hh
  obtain ⟨y, s3⟩ := y
  simp only at hrx ho3 hd3 hh
  simp only [Y4 x] at hrx
  have hlr : (acc.map vaX).length = acc.length := Zh _
  have F : _ ∧ _ ∧ _ ∧ _ ∧ _ ∧ _ ∧ _ ∧ _ ∧ _ ∧ _ := ⟨Y4 l, Y4 x, e0, e3, e4, e5, e16, e17, e18, wk⟩
  repeat' first
   | (with_reducible refine Ya ?_; refine X7 mixd (by kernel_rfl) ?_)
   | ((with_reducible refine Uf ?_); first | (refine Jz rfl rfl rfl rfl (by (first | (simp only [go_sem, F]; rfl) | (simp only [go_sem, F]; done))) hlr (by simp only [go_sem, F]; rfl) (by (first | (simp only [go_sem, F]; rfl) | (simp only [go_sem, F]; done))) (by simp) (rowsOk_va _) (by simp; omega) ?_) | (refine Xq rfl rfl rfl (by (first | (simp only [go_sem, F]; rfl) | (simp only [go_sem, F]; done))) (by rw [getD_agg' aggT_26, szT_26]; rfl) ?_) | (refine aS1 rfl rfl fun K HK => ?_; simp only [go_sem, F]; (first | refine Yt (fun hq => ?_) (fun hq => ?_) | (refine ⟨by omega, by omega, ?_⟩; refine Xf (by assumption) ?_) | skip) <;> (refine HK _ _ rfl ?_; clear HK K)) | refine Xq rfl rfl rfl (by (first | (simp only [go_sem, F]; rfl) | (simp only [go_sem, F]; done))) (by rw [getD_one (by simp only [go_sem, F])]; rfl) ?_ | refine Zd9 rfl rfl (by (first | (simp only [go_sem, F]; rfl) | (simp only [go_sem, F]; done))) rfl (by simp only [go_sem, F]) (by simp) ?_ | refine Jj rfl rfl (by simp only [litD, X1, go_sem, Zd, Zf, Zt, Zq, and_self, ↓reduceIte, Z1, Z3, Z2, Z7, Z8, Za, Zc, Zb, Y4 l, Y4 x, e0, e3, e4, e5, e16, e17, e18, wk, Xn, Vs, q5_0, q5_1, q5_2, q5_3, q5_4, q5_s0, q5_s1, Yg7, q5_s3, q5_s4, Yb9, q5_app, q5_l, q5_sl, q5_l2, q5_sl2, q5_l3, q5_sl3, Zh, Zo, Zk, Ze, Zg, Z9, Zd, Zf, Z4]; rfl) ?_ | refine Wv (by simp only [Zp, Zr, Zg, Ze, Wc, chk1]; repeat' (first | exact trivial | refine And.intro ?_ ?_ | exact .inr Yq | exact .inr Yx | exact .inr X9 | exact .inr (Vd (by omega)) | exact .inr (Zr2 (by omega)) | (refine .inr ?_; simp [compat, We, Wg, Va, nop, Xn, Yb9] <;> omega) | exact .inl (by kernel_rfl))) ?_ | refine Um rfl rfl rfl Ye5 (by (first | (simp only [go_sem, F]; rfl) | (simp only [go_sem, F]; done))) (fun h2 k2 => hrx h2 k2) ?_)
   | refine gg ?_
   | refine Two.mk (fun hq => ?_) fun hq => ?_
   | (exfalso; omega)
  exact ⟨rfl, l.parts.length - (k + 1), by omega, k + 1, acc ++ [y], s3, _, hlt, rfl, by rw [hh, Zk]; rfl, ho3, hd3.trans hdA, by simp [hal], by rw [Y4 l, Zm, Z9]; rfl, e0, e3, e4, e5, e16, e17, rfl⟩
end
section
attribute [local irreducible] on aOp
attribute [local go_sem] decide_true decide_false Zj Zi
attribute [local simp] byD_len
theorem rd_5 {l : Lat} {p : Lat} (h : l.kind = 5) (hp : l.parts = [p]) (s : RS) : X8 l s = (.mk 0 ((Xc (Za2 (X8 p)) (Yc s).1 (Yc s).2).1.map Y0) ((Xc (Za2 (X8 p)) (Yc s).1 (Yc s).2).1.map Y1) [], (Xc (Za2 (X8 p)) (Yc s).1 (Yc s).2).2) := by
 cases l; simp only [Lat.kind, Lat.parts] at h hp; subst h hp; exact readV_5 s
theorem low_vaM (n : Int) (ns : List ByteArray) (ps : List Val) : low 0 (.agg [.v (.int .i64 n), .sl 1 (ns.map strX), .sl 4 (ps.map vaX), .v (.slice none 0 0)]) := by
 rw [low]; simp only [lowL]; exact ⟨by simp [low], W2 _ ns, Wf _ ps, by simp [low], trivial⟩
variable (G : Nat → D) (hG : ∀ g, low 0 (G g))
include hG
attribute [local go_sem] Z4 Za Zb Zc Int.toNat_zero Zk Ze Z9 Zd Zh Zf Zg Z3 Z7 Z1 Z2 Z8 q6_0 q6_1 q6_2 q6_3 q6_4 q6_5 q6_app q6_l q6_l2 q6_l3 q6_len q6_s0 q6_s1 q6_s2 q6_s3 q6_s4 q6_s5 q6_sl q6_sl2 q6_sl3 Xn Vs
attribute [local go_sem ↓] reduceIte
theorem read_5 (l : Lat) (hk : l.kind = 5) (p : Lat) (hp : l.parts = [p]) (hrd : ReadD G p) (hkp : ∀ s : RS, s.Ok → (X8 p s).2.Ok ∧ (X8 p s).2.data = s.data) : ReadD G l := fun s ho hl => by
 rw [rd_5 hk hp, Zu9]
 have hb := fun (h : List Ob) (k : h[0]? = some (Yh s)) => Zx8 G hG 0 s h k ho (by omega)
 obtain ⟨ho2, hd2, hc2⟩ := Ud ho
 generalize Yc s = b at *
 obtain ⟨N, s1⟩ := b
 simp only at hb ho2 hd2 hc2 ⊢
 generalize hR : Xc (Za2 (X8 p)) N s1 = R
 have hp0 : l.parts[0]? = some p := by rw [hp]; rfl
 have hpl : l.parts.length = 1 := by rw [hp]; rfl
 clear hp
 apply Does.weak
 refine Y6 Tryz.func106 rfl (Z0 rfl) hG fun hl0 _ => ?_
 simp only [Tryz.ntmps106]
 have F : _ ∧ _ := ⟨Y4 l, hk⟩
 repeat' first
  | refine g0 ?_
  | (with_reducible refine Y7 ?_; refine gc rfl rfl rfl Yq7 (hb _ (by first | rfl | simp)) ?_)
 refine Vl 9 1 3 [.v (.int .i64 0)] [.v (.slice none 0 0), .v (.slice none 0 0)] rfl ?_
 refine Vl 30 4 3 [.v (.int .i64 0), .buf 4 0] [.v (.slice none 0 0)] rfl ?_
 refine Yf (fun m e h' => ∃ (k : Nat) (acc : List (ByteArray × Val)) (s2 : RS) (T : List Ob), m = k ∧ LoopAt R (Za2 (X8 p)) acc k s2 ∧ s2.Ok ∧ s2.data.length = s.data.length ∧ acc.length + k ≤ 1000000 ∧ h' = q6 (Yh s2) (.cells (latX l)) (.cells nilV) (.cells [.v (.int .i64 0), .buf 4 acc.length, .buf 5 acc.length, .v (.slice none 0 0)]) (.buf 9 1 ((acc.map Y0).map strX)) (.buf 30 4 ((acc.map Y1).map vaX)) T ∧ e 0 = .ptr 0 0 ∧ e 3 = .ptr 1 0 ∧ e 4 = .ptr 2 0 ∧ e 5 = .ptr 3 0 ∧ e 6 = .v (.int .i64 k)) N ⟨N, [], s1, [], rfl, hR ▸ LoopAt.start _ N s1, ho2, by rw [hd2], by simp; omega, by rw [Y4 l, hk]; rfl, rfl, rfl, rfl, rfl, rfl⟩ ?_
 rintro m e h' ⟨k, acc, s2, T, rfl, hLp, hoA, hdA, hlen, rfl, e0, e3, e4, e5, e6⟩
 have hEr := fun (h : List Ob) (q : h[0]? = some (Yh s2)) => rErr_d G hG 0 s2 h q
 have hlA : s2.data.length ≤ 1000000 := by omega
 have ht := fun (h : List Ob) (q : h[0]? = some (Yh s2)) => Yo0 G hG 0 s2 h q hoA (by omega)
 by_cases hgo : 0 < m ∧ s2.err = 0
 · obtain ⟨hm0, he0⟩ := hgo
   have he0d : decide (s2.err = 0) = true := decide_eq_true he0
   have hm0d : decide ((0 : Int) < (m : Int)) = true := decide_eq_true (by omega)
   have wk : IntKind.i64.wrap ((m : Int) - 1) = ((m - 1 : Nat) : Int) := by rw [show (m : Int) - 1 = ((m - 1 : Nat) : Int) by omega]; exact IntWalk.i64_in _ (by omega)
   have hlr : ((acc.map Y0).map strX).length = acc.length := by rw [Zh, Zh]
   have hlr2 : ((acc.map Y1).map vaX).length = acc.length := by rw [Zh, Zh]
   obtain ⟨ho3, hd3, _⟩ := Ue hoA
   have hN := hLp.next2 hm0 he0
   have hpair : Za2 (X8 p) s2 = (((Xg s2).1, (X8 p (Xg s2).2).1), (X8 p (Xg s2).2).2) := rfl
   rw [hpair] at hN
   have ho3' : (Xg s2).2.Ok := ho3
   have hd3' : (Xg s2).2.data = s2.data := hd3
   have ht' : ∀ (h : List Ob), h[0]? = some (Yh s2) → Does Z6 G 171 h [.ptr 0 0] (fun h' r => h' = h.set 0 (Yh (Xg s2).2) ∧ r = .v (.string (Xg s2).1)) := ht
   clear ht ho3 hd3 hpair
   generalize Xg s2 = tx at *
   obtain ⟨tx, s3⟩ := tx
   simp only at hN ho3' hd3' ht'
   have hrx := fun (h : List Ob) (q : h[0]? = some (Yh s3)) => hrd.at hG ho3' (by rw [hd3']; exact hlA) q
   obtain ⟨ho4, hd4⟩ := hkp s3 ho3'
   generalize X8 p s3 = y at *
   obtain ⟨y, s4⟩ := y
   simp only at hN hrx ho4 hd4
   simp only [Y4 p] at hrx
   have F : _ ∧ _ ∧ _ ∧ _ ∧ _ ∧ _ ∧ _ ∧ _ ∧ _ ∧ _ ∧ _ := ⟨Y4 l, Y4 p, hk, e0, e3, e4, e5, e6, he0d, hm0d, wk⟩
   repeat' first
    | (with_reducible refine Ya ?_; refine X7 mixd (by kernel_rfl) ?_)
    | ((with_reducible refine Uf ?_); first | (refine Jz rfl rfl rfl rfl (by (first | (simp only [go_sem, F]; rfl) | (simp only [go_sem, F]; done))) hlr (by simp only [go_sem, F]; rfl) (by (first | (simp only [go_sem, F]; rfl) | (simp only [go_sem, F]; done))) (by simp) (Yi1 _) (by simp; omega) ?_) | (refine Jz rfl rfl rfl rfl (by (first | (simp only [go_sem, F]; rfl) | (simp only [go_sem, F]; done))) hlr2 (by simp only [go_sem, F]; rfl) (by (first | (simp only [go_sem, F]; rfl) | (simp only [go_sem, F]; done))) (by simp) (rowsOk_va _) (by simp; omega) ?_) | (refine aS1 rfl rfl fun K HK => ?_; (first | refine Ym rfl ?_ | skip); simp only [go_sem, F]; (first | (refine ⟨by omega, ?_⟩; refine Xf (by assumption) ?_) | skip) <;> (refine HK _ _ rfl ?_; clear HK K)) | refine Xq rfl rfl rfl (by (first | (simp only [go_sem, F]; rfl) | (simp only [go_sem, F]; done))) (by rw [getD_one (by simp only [go_sem, F])]; rfl) ?_ | refine Zd9 rfl rfl (by (first | (simp only [go_sem, F]; rfl) | (simp only [go_sem, F]; done))) rfl (by simp only [go_sem, F]) (by simp) ?_ | refine Jj rfl rfl (by simp only [litD, X1, go_sem, Zd, Zf, Zt, Zq, and_self, ↓reduceIte, Z1, Z3, Z2, Z7, Z8, Za, Zc, Zb, Y4 l, Y4 p, hk, e0, e3, e4, e5, e6, he0d, hm0d, wk, Xn, Vs, q6_0, q6_1, q6_2, q6_3, q6_4, q6_5, q6_s0, q6_s1, q6_s2, q6_s3, q6_s4, q6_s5, q6_len, q6_app, q6_l, q6_sl, q6_l2, q6_sl2, q6_l3, q6_sl3, Zh, Int.toNat_zero, Zk, Ze, Zg, Z9, Zd, Zf, Z4]; rfl) ?_ | refine Wv (by simp only [Zp, Zr, Zg, Ze, Wc, chk1]; repeat' (first | exact trivial | refine And.intro ?_ ?_ | exact .inr Yq | exact .inr Yx | exact .inr X9 | exact .inr (Vd (by omega)) | exact .inr (Zr2 (by omega)) | (refine .inr ?_; simp [compat, We, Wg, Va, nop, Xn, q6_len] <;> omega) | exact .inl (by kernel_rfl))) ?_ | refine Um rfl rfl rfl Ye3 (by (first | (simp only [go_sem, F]; rfl) | (simp only [go_sem, F]; done))) (fun h2 k2 => ht' h2 k2) ?_ | refine Um rfl rfl rfl Ye5 (by (first | (simp only [go_sem, F]; rfl) | (simp only [go_sem, F]; done))) (fun h2 k2 => hrx h2 k2) ?_)
    | refine g0 ?_
    | (with_reducible refine Y7 ?_; refine gc rfl rfl rfl Zh9 (hEr _ (by first | exact q6_0 | rfl | (simp; done))) ?_)
   exact ⟨rfl, m - 1, by omega, m - 1, acc ++ [(tx, y)], s4, _, rfl, hN, ho4, by rw [hd4, hd3', hdA], by simp; omega, by rw [Y4 l, Zm, Zm, Zm, Zm, Z9, hk]; rfl, e0, e3, e4, e5, rfl⟩
 · have hst := hLp.stop2 hgo
   rw [hst]
   have hgo2 : ¬ (0 < (m : Int)) ∨ (0 < (m : Int) ∧ ¬ s2.err = 0) := by omega
   rcases hgo2 with hm0 | ⟨hm0, he0⟩
   · skip
     repeat' first
      | (with_reducible first | refine sA rfl ?_ | refine sI rfl rfl ?_ | refine sT rfl ?_ | refine sB rfl ?_)
      | (with_reducible refine Y7 ?_; first | refine Yp ?_ | (refine ao1 rfl rfl fun K HK => ?_; (first | refine Ym rfl ?_ | skip); simp only [go_sem, e0, e3, e4, e5, e6, hm0, nilV] <;> (refine HK _ _ ?_; clear HK K)) | refine ao0 rfl rfl ?_ | (refine ao1' rfl fun K HK => ?_; simp only [go_sem, e0, e3, e4, e5, e6, hm0, nilV]; refine HK _ _ ?_; clear HK K))
     exact ⟨.inr rfl, endR (s' := s2) (ds := [.agg [.v (.int .i64 0), .buf 4 acc.length, .buf 5 acc.length, .v (.slice none 0 0)]]) (r := .agg [.v (.int .i64 0), .sl 1 ((acc.map Y0).map strX), .sl 4 ((acc.map Y1).map vaX), .v (.slice none 0 0)]) (T := _) (by simp only [resD, Tryz.results106, go_sem, ↓reduceIte, Z1, Z3, Z2, e4, nilV, q6_2, q6_s2]; try rfl) rfl (low_vaM _ _ _) (by simp [outD, cvD, cv1]) ⟨_, ⟨rfl, rfl⟩, Us (X6 _) (X6 _) Yn⟩⟩
   · skip
     repeat' first
      | (with_reducible first | refine sA rfl ?_ | refine sI rfl rfl ?_ | refine sT rfl ?_ | refine sB rfl ?_)
      | (with_reducible refine Y7 ?_; first | refine Yp ?_ | (refine ao1 rfl rfl fun K HK => ?_; (first | refine Ym rfl ?_ | skip); simp only [go_sem, e0, e3, e4, e5, e6, hm0, he0, nilV] <;> (refine HK _ _ ?_; clear HK K)) | (refine ao2 rfl rfl rfl Zh9 (hEr _ (by first | exact q6_0 | rfl | (simp; done))) ?_; rintro _ _ ⟨rfl, rfl⟩) | (refine ao1' rfl fun K HK => ?_; simp only [go_sem, e0, e3, e4, e5, e6, hm0, he0, nilV]; refine HK _ _ ?_; clear HK K))
     exact ⟨.inr rfl, endR (s' := s2) (ds := [.agg [.v (.int .i64 0), .buf 4 acc.length, .buf 5 acc.length, .v (.slice none 0 0)]]) (r := .agg [.v (.int .i64 0), .sl 1 ((acc.map Y0).map strX), .sl 4 ((acc.map Y1).map vaX), .v (.slice none 0 0)]) (T := _) (by simp only [resD, Tryz.results106, go_sem, ↓reduceIte, Z1, Z3, Z2, e4, nilV, q6_2, q6_s2]; try rfl) rfl (low_vaM _ _ _) (by simp [outD, cvD, cv1]) ⟨_, ⟨rfl, rfl⟩, Us (X6 _) (X6 _) Yn⟩⟩
end
end Go.Proofs.YtbhkcbidcfofiaaGreat
