/-
  What the statements of the chapter share, part 24: RT0, RR1, RR2, RR3, RR4, RR5, RR6, VA7, VA8, VA9, VA10, VA11, VA12, PO2, PVS, VN2.
-/
import Derived.Test.YtbhkcbidcfofiaaGreatY10
import Derived.Test.YtbhkcbidcfofiaaGreatY14
import Derived.Test.YtbhkcbidcfofiaaGreatY15
import Derived.Test.YtbhkcbidcfofiaaGreatY16
import Derived.Test.YtbhkcbidcfofiaaGreatY21
import Derived.Test.YtbhkcbidcfofiaaGreatY22
import Derived.Test.YtbhkcbidcfofiaaGreatY23
import Derived.Lib.Strings
set_option linter.unusedVariables false
set_option linter.unusedSimpArgs false
set_option maxRecDepth 100000
set_option maxHeartbeats 8000000
namespace Go.Proofs.YtbhkcbidcfofiaaGreat
open _root_.Bool renaming false_eq_true → Z4, not_false → Z7, not_true → Zc
open _root_.Int renaming reduceEq → Z8, reduceLE → Z9, reduceLT → Za, toNat_natCast → Zp
open _root_.List renaming nil_append → Zd, length_cons → Zf, cons_append → Zg, length_append → Zh, getElem?_eq_some_iff → Zi, length_nil → Zj, append_assoc → Zk, length_map → Zl, mem_singleton → Zm, getElem?_append_right → Zn, lt_irrefl → Zo, drop → Zq
open _root_.Nat renaming reduceEqDiff → Z0, reduceLeDiff → Z1, le_of_ble_eq_true → Z2, reduceAdd → Z3, reduceBEq → Z5, reduceMul → Z6, le_refl → Ze
open _root_.Go.Proofs.Tryz renaming prog → Zb
open Go.RowKit
section

end
section
attribute [local irreducible] on aOp
attribute [local go_sem] decide_true decide_false Zc Z7
attribute [local simp] byD_len
variable (G : Nat → D) (hG : ∀ g, low 0 (G g))
include hG
attribute [local go_sem] Z8 Z9 Za Zp Z3 Z5 Z0 Z1 Z6
attribute [local go_sem ↓] reduceIte
theorem rNum_d (i : Nat) (s : RS) (h : List Ob) (hi : h[i]? = some (X3 s)) (ho : s.Ok) (hl : s.data.length ≤ 1000000000) :
 Does Zb G 221 h [.ptr i 0] (fun h' r => h' = h ∧ r = s.rawN) := by
 rw [Ju] at hi
 refine Y6 Tryz.func221 rfl (Z2 rfl) hG fun hl0 _ => ?_
 simp only [Tryz.ntmps221]
 repeat' first
  | refine sA rfl ?_
  | refine Yn ?_
  | (refine ao1 rfl rfl fun K HK => ?_; simp only [go_sem, hi] <;> (refine HK _ _ ?_; clear HK K))
 refine Yh (fun m e h' => ∃ (k acc : Nat), m = 10 - k ∧ k ≤ 10 ∧ acc < 2 ^ (7 * k) ∧ rawJ s.pos k acc (s.data.drop (s.pos + k)) = s.rawN ∧ h' = h ∧ e 0 = .ptr i 0 ∧ e 2 = .v (.int .u64 acc) ∧ e 7 = .v (.int .i64 k)) 10 ⟨0, 0, rfl, by omega, by decide, rfl, rfl, rfl, rfl, rfl⟩ ?_
 rintro m e h' ⟨k, acc, rfl, hk, ha, hJ, rfl, e0, e2, e7⟩
 have hp := ho.pos
 have w1 : IntKind.i64.wrap ((s.pos : Int) + (k : Int)) = ((s.pos + k : Nat) : Int) := IntWalk.i64_in _ (by omega)
 by_cases hk9 : k = 10
 · subst hk9
   have hR : rawJ s.pos 10 acc (Zq (s.pos + 10) s.data) = .tup [.v (.int .u64 (0 : Int)), .v (.int .i64 (0 : Int)), .v (.bool false)] := by
    unfold rawJ; split
    · rfl
    · rw [if_pos (by omega)]
   repeat' first
    | refine sA rfl ?_ | refine sI rfl rfl ?_ | refine sT rfl ?_ | refine sB rfl ?_
    | refine Yn ?_
    | ((first | refine ao1 rfl rfl fun K HK => ?_ | refine aq1 rfl rfl fun K HK => ?_); (first | refine Yi rfl ?_ | skip); simp only [go_sem, e0, e2, e7, hi]; (first | refine Ym (fun hq => ?_) (fun hq => ?_) | (refine ⟨by omega, by omega, ?_⟩; intro row hrow; obtain ⟨x, hx, rfl⟩ := Vr hrow; clear hrow) | skip) <;> ((first | refine HK _ _ ?_ | refine HK _ _ rfl ?_); clear HK K))
    | refine Ye3 ?_
    | (refine Y8 mixd (by kernel_rfl) ?_)
    | refine ao0 rfl rfl ?_
    | (exfalso; omega)
   exact ⟨.inr rfl, endD (r := .tup [.v (.int .u64 (0 : Int)), .v (.int .i64 (0 : Int)), .v (.bool false)]) hl0 rfl (by simp) (by simp) rfl (by simp [low, lowL]) ⟨rfl, hR.symm.trans hJ⟩⟩
 by_cases hlt : s.pos + k < s.data.length
 rotate_left
 · have hR : rawJ s.pos k acc (Zq (s.pos + k) s.data) = .tup [.v (.int .u64 (0 : Int)), .v (.int .i64 (0 : Int)), .v (.bool false)] := by
    rw [List.drop_eq_nil_of_le (by omega)]; rfl
   repeat' first
    | refine sA rfl ?_ | refine sI rfl rfl ?_ | refine sT rfl ?_ | refine sB rfl ?_
    | refine Yn ?_
    | ((first | refine ao1 rfl rfl fun K HK => ?_ | refine aq1 rfl rfl fun K HK => ?_); (first | refine Yi rfl ?_ | skip); simp only [go_sem, e0, e2, e7, hi, w1]; (first | refine Ym (fun hq => ?_) (fun hq => ?_) | (refine ⟨by omega, by omega, ?_⟩; intro row hrow; obtain ⟨x, hx, rfl⟩ := Vr hrow; clear hrow) | skip) <;> ((first | refine HK _ _ ?_ | refine HK _ _ rfl ?_); clear HK K))
    | refine Ye3 ?_
    | (refine Y8 mixd (by kernel_rfl) ?_)
    | refine ao0 rfl rfl ?_
    | (exfalso; omega)
   exact ⟨.inr rfl, endD (r := .tup [.v (.int .u64 (0 : Int)), .v (.int .i64 (0 : Int)), .v (.bool false)]) hl0 rfl (by simp) (by simp) rfl (by simp [low, lowL]) ⟨rfl, hR.symm.trans hJ⟩⟩
 have hx : s.data[s.pos + k]? = some s.data[s.pos + k] := List.getElem?_eq_getElem hlt
 rw [List.drop_eq_getElem_cons hlt] at hJ
 generalize s.data[s.pos + k] = x at hx hJ
 have hxl := x.toNat_lt
 by_cases h9 : k = 9 ∧ 1 < x.toNat
 · have hR : rawJ s.pos k acc (x :: Zq (s.pos + k + 1) s.data) = .tup [.v (.int .u64 (0 : Int)), .v (.int .i64 (0 : Int)), .v (.bool false)] := by
    rw [rawJ, if_neg (by omega), if_pos h9]
   obtain ⟨rfl, h9⟩ := h9
   repeat' first
    | refine sA rfl ?_ | refine sI rfl rfl ?_ | refine sT rfl ?_ | refine sB rfl ?_
    | refine Yn ?_
    | ((first | refine ao1 rfl rfl fun K HK => ?_ | refine aq1 rfl rfl fun K HK => ?_); (first | refine Yi rfl ?_ | skip); simp only [go_sem, e0, e2, e7, hi, w1]; (first | refine Ym (fun hq => ?_) (fun hq => ?_) | (refine ⟨by omega, by omega, ?_⟩; refine Yo (by assumption) ?_) | skip) <;> ((first | refine HK _ _ ?_ | refine HK _ _ rfl ?_); clear HK K))
    | refine Ye3 ?_
    | (refine Y8 mixd (by kernel_rfl) ?_)
    | refine ao0 rfl rfl ?_
    | (exfalso; omega)
   exact ⟨.inr rfl, endD (r := .tup [.v (.int .u64 (0 : Int)), .v (.int .i64 (0 : Int)), .v (.bool false)]) hl0 rfl (by simp) (by simp) rfl (by simp [low, lowL]) ⟨rfl, hR.symm.trans hJ⟩⟩
 obtain ⟨s1, s2, s3⟩ := shl_step ha (by omega) h9 hxl
 have w2 : IntKind.i64.wrap (7 * (k : Int)) = ((7 * k : Nat) : Int) := IntWalk.i64_in _ (by omega)
 have w3 : decide (0 ≤ ((7 * k : Nat) : Int)) = true := decide_eq_true (by omega)
 have hV := num_val (x := x) ha (by omega) h9
 have w6 : IntKind.i64.wrap (((s.pos + k : Nat) : Int) + 1) = ((s.pos + k + 1 : Nat) : Int) := IntWalk.i64_in _ (by omega)
 have w7 : IntKind.i64.wrap ((k : Int) + 1) = ((k + 1 : Nat) : Int) := IntWalk.i64_in _ (by omega)
 repeat' first
  | refine sA rfl ?_ | refine sI rfl rfl ?_ | refine sT rfl ?_ | refine sB rfl ?_
  | refine Yn ?_
  | ((first | refine ao1 rfl rfl fun K HK => ?_ | refine aq1 rfl rfl fun K HK => ?_); (first | refine Yi rfl ?_ | skip); simp only [go_sem, e0, e2, e7, hi, w1, w2, w3, w6, w7, Z4]; (first | refine Ym (fun hq => ?_) (fun hq => ?_) | refine Ze5 (fun hq => ?_) (fun hq => ?_) | (refine ⟨by omega, by omega, ?_⟩; refine Yo (by assumption) ?_) | skip) <;> ((first | refine HK _ _ ?_ | refine HK _ _ rfl ?_); clear HK K))
  | refine aq0 rfl rfl ?_
  | refine Ye3 ?_
  | (refine Y8 mixd (by kernel_rfl) ?_)
  | refine ao0 rfl rfl ?_
  | (exfalso; omega)
 all_goals first
 | (have hR : rawJ s.pos k acc (x :: Zq (s.pos + k + 1) s.data) = .tup [.v (.int .u64 ((acc + x.toNat % 128 * 2 ^ (7 * k) : Nat) : Int)), .v (.int .i64 ((s.pos + k + 1 : Nat) : Int)), .v (.bool true)] := by (rw [rawJ, if_neg (by omega), if_neg h9, if_pos (by omega), decide_eq_true (by omega)])
    exact ⟨.inr rfl, endD (r := .tup [.v (.int .u64 ((acc + x.toNat % 128 * 2 ^ (7 * k) : Nat) : Int)), .v (.int .i64 ((s.pos + k + 1 : Nat) : Int)), .v (.bool true)]) hl0 rfl (by simp) (by simp) (congrArg (fun z : Int => D.tup [.v (.int .u64 z), .v (.int .i64 ((s.pos + k + 1 : Nat) : Int)), .v (.bool true)]) hV) (by simp [low, lowL]) ⟨rfl, hR.symm.trans hJ⟩⟩)
 | (have hR : rawJ s.pos k acc (x :: Zq (s.pos + k + 1) s.data) = .tup [.v (.int .u64 ((acc + x.toNat % 128 * 2 ^ (7 * k) : Nat) : Int)), .v (.int .i64 ((s.pos + k + 1 : Nat) : Int)), .v (.bool false)] := by (rw [rawJ, if_neg (by omega), if_neg h9, if_pos (by omega), decide_eq_false (by omega)])
    exact ⟨.inr rfl, endD (r := .tup [.v (.int .u64 ((acc + x.toNat % 128 * 2 ^ (7 * k) : Nat) : Int)), .v (.int .i64 ((s.pos + k + 1 : Nat) : Int)), .v (.bool false)]) hl0 rfl (by simp) (by simp) (congrArg (fun z : Int => D.tup [.v (.int .u64 z), .v (.int .i64 ((s.pos + k + 1 : Nat) : Int)), .v (.bool false)]) hV) (by simp [low, lowL]) ⟨rfl, hR.symm.trans hJ⟩⟩)
 | (rw [rawJ, if_neg (by omega), if_neg h9, if_neg (by omega)] at hJ
    refine ⟨rfl, 10 - (k + 1), by omega, k + 1, acc + x.toNat % 128 * 2 ^ (7 * k), rfl, by omega, s3, hJ, rfl, ?_, congrArg (fun z : Int => D.v (.int .u64 z)) hV, rfl⟩
    simp [upd, e0])
end
section
attribute [local irreducible] on aOp
attribute [local go_sem] decide_true decide_false Zc Z7
attribute [local simp] byD_len
variable (G : Nat → D) (hG : ∀ g, low 0 (G g))
include hG
theorem rNum_e {s : RS} {d : D} (q : s.rawN = d) {i : Nat} {h : List Ob} (hi : h[i]? = some (X3 s)) (ho : s.Ok) (hl : s.data.length ≤ 1000000000) :
 Does Zb G 221 h [.ptr i 0] (fun h' r => h' = h ∧ r = d) := q ▸ rNum_d G hG i s h hi ho hl
attribute [local go_sem] Z8 Z9 Za Z3 Z5 Z0 Z1 Z6
attribute [local go_sem ↓] reduceIte
theorem rBegin_d (i : Nat) (s : RS) (h : List Ob) (hi : h[i]? = some (X3 s)) :
 Does Zb G 219 h [.ptr i 0] (fun h' r => h' = h.set i (X3 (if s.err = 0 then s.begun else s)) ∧ r = .v (.bool (decide (s.err = 0)))) := by
 have hil := (Zi.1 hi).1
 have hi0 := hi
 rw [Ju] at hi
 obtain ⟨g1, g2, g3, g4, g5⟩ := own_get hi
 refine Y6 Tryz.func219 rfl (Z2 rfl) hG fun hl0 _ => ?_
 simp only [Tryz.ntmps219]
 by_cases hb : s.err = 0
 · rw [if_pos hb, decide_eq_true hb]
   rw [hb] at hi
   have F : _ ∧ _ := ⟨hi, g1⟩
   repeat' first
    | refine g0 ?_
    | fail
   exact ⟨.inr rfl, endS (i := i) (ob := X3 s.begun) (r := .v (.bool true)) hl0 (U6 _ _) rfl (by simp [X3, RS.begun, hb, putL_succ, putL_zero, Zn7]) (by simp) rfl (by rw [low]; trivial) ⟨rfl, rfl⟩⟩
 · rw [if_neg hb, decide_eq_false hb]
   have F : _ ∧ _ ∧ _ := ⟨hi, g1, hb⟩
   repeat' first
    | refine g0 ?_
    | fail
   exact ⟨.inr rfl, endS (i := i) (ob := X3 s) (r := .v (.bool false)) hl0 (U6 _ _) rfl (by simp [Js hi0]) (by simp) rfl (by rw [low]; trivial) ⟨rfl, rfl⟩⟩
theorem rBegin_ok {i : Nat} {s : RS} {h : List Ob} (hb : s.err = 0) (hi : h[i]? = some (X3 s)) :
 Does Zb G 219 h [.ptr i 0] (fun h' r => h' = h.set i (X3 s.begun) ∧ r = .v (.bool true)) := by
 have := rBegin_d G hG i s h hi
 rwa [if_pos hb, decide_eq_true hb] at this
theorem Zo8 {i : Nat} {s : RS} {h h1 : List Ob} (q : h.set i (X3 s.begun) = h1) (hb : s.err = 0) (hi : h[i]? = some (X3 s)) :
 Does Zb G 219 h [.ptr i 0] (fun h' r => h' = h1 ∧ r = .v (.bool true)) := q ▸ rBegin_ok G hG hb hi
theorem rBegin_no {i : Nat} {s : RS} {h : List Ob} (hb : ¬ s.err = 0) (hi : h[i]? = some (X3 s)) :
 Does Zb G 219 h [.ptr i 0] (fun h' r => h' = h ∧ r = .v (.bool false)) := by
 have := rBegin_d G hG i s h hi
 rw [if_neg hb, decide_eq_false hb, Js hi] at this
 exact this
theorem rLeft_d (i : Nat) (s : RS) (h : List Ob) (hi : h[i]? = some (X3 s)) (ho : s.Ok) (hl : s.data.length ≤ 1000000000) :
 Does Zb G 173 h [.ptr i 0] (fun h' r => h' = h ∧ r = .v (.int .i64 ((s.data.length - s.pos : Nat) : Int))) := by
 rw [Ju] at hi
 refine Y6 Tryz.func173 rfl (Z2 rfl) hG fun hl0 _ => ?_
 simp only [Tryz.ntmps173]
 have hp := ho.pos
 have w1 : IntKind.i64.wrap ((s.data.length : Int) - (s.pos : Int)) = ((s.data.length - s.pos : Nat) : Int) := by rw [← Int.ofNat_sub hp]; exact IntWalk.i64_in _ (by omega)
 have F : _ ∧ _ := ⟨hi, w1⟩
 repeat' first
  | (with_reducible refine Yc ?_; refine Y8 mixd (by kernel_rfl) ?_)
  | refine g0 ?_
  | fail
 exact ⟨.inr rfl, endD (r := .v (.int .i64 ((s.data.length - s.pos : Nat) : Int))) hl0 rfl (by simp) (by simp) rfl (by rw [low]; trivial) ⟨rfl, rfl⟩⟩
end
section
attribute [local irreducible] on aOp
attribute [local go_sem] decide_true decide_false Zc Z7
attribute [local simp] byD_len
variable (G : Nat → D) (hG : ∀ g, low 0 (G g))
include hG
attribute [local go_sem] Z4 Z8 Z9 Za Z3 Z5 Z0 Z1 Z6
attribute [local go_sem ↓] reduceIte
theorem rEnd_d (i : Nat) (s : RS) (h : List Ob) (hi : h[i]? = some (X3 s)) (ho : s.Ok) (hl : s.data.length ≤ 1000000000) :
 Does Zb G 107 h [.ptr i 0] (fun h' r => h' = h ∧ r = .v (.int .i64 s.ends)) := by
 have hL := rLeft_d G hG i s h hi ho hl
 rw [Ju] at hi
 refine Y6 Tryz.func107 rfl (Z2 rfl) hG fun hl0 _ => ?_
 simp only [Tryz.ntmps107]
 by_cases hb : s.err = 0
 · rw [hb] at hi
   by_cases hp : s.pos < s.data.length
   · have w1 : decide (((s.data.length - s.pos : Nat) : Int) > 0) = true := decide_eq_true (by omega)
     have w2 : decide (0 < ((s.data.length - s.pos : Nat) : Int)) = true := decide_eq_true (by omega)
     have F : _ ∧ _ ∧ _ := ⟨hi, w1, w2⟩
     repeat' first
      | refine g0 ?_
      | (with_reducible refine Y7 ?_; refine gc rfl rfl rfl ent_173 (hL) ?_)
     have hE : s.ends = 2 := by unfold RS.ends; rw [if_pos ⟨hb, hp⟩]
     exact ⟨.inr rfl, endD (r := .v (.int .i64 2)) hl0 rfl (by simp) (by simp) rfl (by rw [low]; trivial) ⟨rfl, by rw [hE]⟩⟩
   · have w1 : s.data.length - s.pos = 0 := by omega
     rw [w1] at hL
     have F := hi
     repeat' first
      | refine gg ?_
      | refine Two.mk (fun hq => ?_) fun hq => ?_
      | (with_reducible refine Y7 ?_; refine gc rfl rfl rfl ent_173 (hL) ?_)
      | (exfalso; omega)
     have hE : s.ends = 0 := by unfold RS.ends; rw [if_neg (fun h => hp h.2), hb]
     exact ⟨.inr rfl, endD (r := .v (.int .i64 0)) hl0 rfl (by simp) (by simp) rfl (by rw [low]; trivial) ⟨rfl, by rw [hE]⟩⟩
 · skip
   have F : _ ∧ _ := ⟨hi, hb⟩
   repeat' first
    | refine g0 ?_
    | fail
   have hE : s.ends = s.err := by unfold RS.ends; rw [if_neg (fun h => hb h.1)]
   exact ⟨.inr rfl, endD (r := .v (.int .i64 s.err)) hl0 rfl (by simp) (by simp) rfl (by rw [low]; trivial) ⟨rfl, by rw [hE]⟩⟩
theorem rCount_d (i : Nat) (s : RS) (h : List Ob) (hi : h[i]? = some (X3 s)) (ho : s.Ok) (hl : s.data.length ≤ 1000000000) :
 Does Zb G 169 h [.ptr i 0] (fun h' r => h' = h.set i (X3 (Ye s).2) ∧ r = .v (.int .i64 ((Ye s).1 : Nat))) := by
 have hil := (Zi.1 hi).1
 have g1 := fun ob => List.getElem?_set_self (a := ob) hil
 refine Y6 Tryz.func169 rfl (Z2 rfl) hG fun hl0 _ => ?_
 simp only [Tryz.ntmps169]
 have hp := ho.pos
 by_cases hb : s.err = 0
 rotate_left
 · skip
   have F := g1
   repeat' first
    | refine g0 ?_
    | (with_reducible refine Y7 ?_; refine gc rfl rfl rfl Zm8 (rBegin_no G hG hb hi) ?_)
   have hR : Ye s = (0, s) := by unfold Ye; rw [if_pos hb]
   exact ⟨by simp, endS (i := i) (ob := X3 s) (r := .v (.int .i64 (0 : Int))) hl0 (U6 _ _) rfl (by simp [Js hi]) (by simp) rfl (by rw [low]; trivial) ⟨by rw [hR], by rw [hR]; rfl⟩⟩
 have hO : s.begun.Ok := ⟨ho.pos, Ze _, ho.err⟩
 obtain ⟨h1, hh⟩ : ∃ h1, h.set i (X3 s.begun) = h1 := ⟨_, rfl⟩
 have hB : h1[i]? = some (X3 s.begun) := hh ▸ g1 _
 have hS : ∀ x, h1.set i x = h.set i x := fun x => by rw [← hh, List.set_set]
 have hT : ∀ x, (h1.set i x).take h.length = h.set i x := fun x => by rw [hS]; exact Zn7
 have hL : h1.length = h.length := by rw [← hh, List.length_set]
 have hB2 := hB
 rw [Ju] at hB2
 have hB2 : h1[i]? = some (.cells [.sl 1 (byD s.data), .v (.int .i64 s.pos), .v (.int .i64 s.pos), .v (.int .i64 s.err)]) := hB2
 obtain ⟨k1, k2, k3, k4, k5⟩ := own_get hB2
 rcases hN : s.num with _ | ⟨m, c⟩
 · obtain ⟨a, b, hr⟩ := rawN_none (s := s.begun) hN
   have F : _ ∧ _ := ⟨hB2, k1⟩
   repeat' first
    | refine g0 ?_
    | (with_reducible refine Y7 ?_; refine gc rfl rfl rfl Zm8 (Zo8 G hG hh hb hi) ?_)
    | ((with_reducible refine Y7 ?_); first | refine gc rfl rfl rfl Yd0 (rNum_e G hG hr hB hO hl) ?_)
   have hR : Ye s = (0, s.bad) := by unfold Ye; rw [if_neg (fun h => h hb), hN]
   exact ⟨by simp, endS (i := i) (ob := X3 s.bad) (r := .v (.int .i64 (0 : Int))) hl0 (U6 _ _) rfl (by simp [X3, RS.bad, putL_succ, putL_zero, hT]) (by simp [hL]) rfl (by rw [low]; trivial) ⟨by rw [hR], by rw [hR]; rfl⟩⟩
 · have hr := rawN_some (s := s.begun) hN
   have hr : s.begun.rawN = .tup [.v (.int .u64 m), .v (.int .i64 ((s.pos : Int) + (c : Int))), .v (.bool true)] := hr
   obtain ⟨hn1, hn2, hn3, hn4⟩ := RS.num_some hN hp
   have w1 : IntKind.i64.wrap ((s.data.length : Int) - ((s.pos : Int) + (c : Int))) = (s.data.length : Int) - ((s.pos : Int) + (c : Int)) := IntWalk.i64_in _ (by omega)
   have w2 : IntKind.u64.wrap ((s.data.length : Int) - ((s.pos : Int) + (c : Int))) = (s.data.length : Int) - ((s.pos : Int) + (c : Int)) := by rw [IntKind.wrap_u64]; omega
   have w3 : m ≤ 1000000000 → IntKind.i64.wrap (m : Int) = (m : Int) := fun h => IntWalk.i64_in _ (by omega)
   have hR : Ye s = (if s.data.length - (s.pos + c) < m then (0, s.bad) else (m, s.go c)) := by unfold Ye; rw [if_neg (fun h => h hb), hN]
   have F : _ ∧ _ ∧ _ ∧ _ := ⟨hB2, k1, w1, w2⟩
   repeat' first
    | refine gg ?_
    | refine Two.mk (fun hq => ?_) fun hq => ?_
    | (with_reducible refine Y7 ?_; refine gc rfl rfl rfl Zm8 (Zo8 G hG hh hb hi) ?_)
    | ((with_reducible refine Y7 ?_); first | refine gc rfl rfl rfl Yd0 (rNum_e G hG hr hB hO hl) ?_)
   all_goals
    first
    | (have hR2 : Ye s = (0, s.bad) := by (rw [hR, if_pos (by omega)])
       exact ⟨by simp, endS (i := i) (ob := X3 s.bad) (r := .v (.int .i64 (0 : Int))) hl0 (U6 _ _) rfl (by simp [X3, RS.bad, putL_succ, putL_zero, hT]) (by simp [hL]) rfl (by rw [low]; trivial) ⟨by rw [hR2], by rw [hR2]; rfl⟩⟩)
    | (have hR2 : Ye s = (m, s.go c) := by (rw [hR, if_neg (by omega)])
       exact ⟨by simp, endS (i := i) (ob := X3 (s.go c)) (r := .v (.int .i64 (m : Int))) hl0 (U6 _ _) rfl (by simp [X3, RS.go, putL_succ, putL_zero, hT]) (by simp [hL]) (congrArg (fun z : Int => D.v (.int .i64 z)) (w3 (by omega))) (by rw [low]; trivial) ⟨by rw [hR2], by rw [hR2]⟩⟩)
end
section
attribute [local irreducible] on aOp
attribute [local go_sem] decide_true decide_false Zc Z7
attribute [local simp] byD_len
variable (G : Nat → D) (hG : ∀ g, low 0 (G g))
include hG
attribute [local go_sem] Z4 Z8 Z9 Za Z3 Z5 Z0 Z1 Z6
attribute [local go_sem ↓] reduceIte
theorem rBytes_d (i : Nat) (s : RS) (h : List Ob) (hi : h[i]? = some (X3 s)) (ho : s.Ok) (hl : s.data.length ≤ 1000000000) :
 Does Zb G 222 h [.ptr i 0] (fun h' r => h' = h.set i (X3 (W2 s).2) ∧ r = .sl 1 (byD (W2 s).1)) := by
 have hil := (Zi.1 hi).1
 have g1 := fun ob => List.getElem?_set_self (a := ob) hil
 apply Does.weak
 refine Y6 Tryz.func222 rfl (Z2 rfl) hG fun hl0 _ => ?_
 simp only [Tryz.ntmps222]
 have hp := ho.pos
 by_cases hb : s.err = 0
 rotate_left
 · skip
   have F := g1
   repeat' first
    | refine g0 ?_
    | (with_reducible refine Y7 ?_; refine gc rfl rfl rfl Zm8 (rBegin_no G hG hb hi) ?_)
   have hR : W2 s = ([], s) := by unfold W2; rw [if_pos hb]
   exact ⟨by simp, endS (i := i) (ob := X3 s) (r := .v _) hl0 (U6 _ _) rfl (by simp [Js hi]) (by simp) rfl (by rw [low]; trivial) ⟨_, ⟨by rw [hR], by rw [hR]; rfl⟩, nil_sl⟩⟩
 have hO : s.begun.Ok := ⟨ho.pos, Ze _, ho.err⟩
 obtain ⟨h1, hh⟩ : ∃ h1, h.set i (X3 s.begun) = h1 := ⟨_, rfl⟩
 have hB : h1[i]? = some (X3 s.begun) := hh ▸ g1 _
 have hS : ∀ x, h1.set i x = h.set i x := fun x => by rw [← hh, List.set_set]
 have hT : ∀ x, (h1.set i x).take h.length = h.set i x := fun x => by rw [hS]; exact Zn7
 have hT2 : ∀ x (l : List Ob), (h1.set i x ++ l).take h.length = h.set i x := fun x l => by rw [hS]; exact take_set_app
 have hL : h1.length = h.length := by rw [← hh, List.length_set]
 have hB2 := hB
 rw [Ju] at hB2
 have hB2 : h1[i]? = some (.cells [.sl 1 (byD s.data), .v (.int .i64 s.pos), .v (.int .i64 s.pos), .v (.int .i64 s.err)]) := hB2
 obtain ⟨k1, k2, k3, k4, k5⟩ := own_get hB2
 rcases hN : s.num with _ | ⟨m, c⟩
 · obtain ⟨a, b, hr⟩ := rawN_none (s := s.begun) hN
   have F : _ ∧ _ := ⟨hB2, k1⟩
   repeat' first
    | refine g0 ?_
    | (with_reducible refine Y7 ?_; refine gc rfl rfl rfl Zm8 (Zo8 G hG hh hb hi) ?_)
    | ((with_reducible refine Y7 ?_); first | refine gc rfl rfl rfl Yd0 (rNum_e G hG hr hB hO hl) ?_)
   have hR : W2 s = ([], s.bad) := by unfold W2; rw [if_neg (fun h => h hb), hN]
   exact ⟨by simp, endS (i := i) (ob := X3 s.bad) (r := .v _) hl0 (U6 _ _) rfl (by simp [X3, RS.bad, putL_succ, putL_zero, hT]) (by simp [hL]) rfl (by rw [low]; trivial) ⟨_, ⟨by rw [hR], by rw [hR]; rfl⟩, nil_sl⟩⟩
 · have hr := rawN_some (s := s.begun) hN
   have hr : s.begun.rawN = .tup [.v (.int .u64 m), .v (.int .i64 ((s.pos : Int) + (c : Int))), .v (.bool true)] := hr
   obtain ⟨hn1, hn2, hn3, hn4⟩ := RS.num_some hN hp
   have w1 : IntKind.i64.wrap ((s.data.length : Int) - ((s.pos : Int) + (c : Int))) = (s.data.length : Int) - ((s.pos : Int) + (c : Int)) := IntWalk.i64_in _ (by omega)
   have w2 : IntKind.u64.wrap ((s.data.length : Int) - ((s.pos : Int) + (c : Int))) = (s.data.length : Int) - ((s.pos : Int) + (c : Int)) := by rw [IntKind.wrap_u64]; omega
   have hR : W2 s = (if s.data.length - (s.pos + c) < m then ([], s.bad) else ((s.data.drop (s.pos + c)).take m, s.go (c + m))) := by unfold W2; rw [if_neg (fun h => h hb), hN]
   by_cases hm : s.data.length - (s.pos + c) < m
   · have hR2 : W2 s = ([], s.bad) := by rw [hR, if_pos hm]
     have F : _ ∧ _ ∧ _ ∧ _ := ⟨hB2, k1, w1, w2⟩
     repeat' first
      | (with_reducible refine Yc ?_; refine Y8 mixd (by kernel_rfl) ?_)
      | refine gg ?_
      | refine Two.mk (fun hq => ?_) fun hq => ?_
      | (with_reducible refine Y7 ?_; refine gc rfl rfl rfl Zm8 (Zo8 G hG hh hb hi) ?_)
      | ((with_reducible refine Y7 ?_); first | refine gc rfl rfl rfl Yd0 (rNum_e G hG hr hB hO hl) ?_)
      | (exfalso; omega)
     exact ⟨by simp, endS (i := i) (ob := X3 s.bad) (r := .v _) hl0 (U6 _ _) rfl (by simp [X3, RS.bad, putL_succ, putL_zero, hT]) (by simp [hL]) rfl (by rw [low]; trivial) ⟨_, ⟨by rw [hR2], by rw [hR2]; rfl⟩, nil_sl⟩⟩
   · have w3 : IntKind.i64.wrap (m : Int) = (m : Int) := IntWalk.i64_in _ (by omega)
     have w4 : IntKind.i64.wrap ((s.pos : Int) + (c : Int) + (m : Int)) = (s.pos : Int) + (c : Int) + (m : Int) := IntWalk.i64_in _ (by omega)
     have hR2 : W2 s = ((s.data.drop (s.pos + c)).take m, s.go (c + m)) := by rw [hR, if_neg hm]
     have F : _ ∧ _ ∧ _ ∧ _ ∧ _ ∧ _ ∧ _ ∧ _ ∧ _ ∧ _ := ⟨hB2, k1, k2, k3, k4, k5, w1, w2, w3, w4⟩
     repeat' first
      | (with_reducible refine Yc ?_; refine Xc mixd (by kernel_rfl) ?_)
      | ((with_reducible refine Up ?_); first | (refine aS1 rfl rfl fun K HK => ?_; (first | refine Yi rfl ?_ | skip); simp only [go_sem, F]; (first | refine Ym (fun hq => ?_) (fun hq => ?_) | (refine Vt (by simp only [go_sem, F]) rfl rfl (by first | omega | simp) (by first | omega | simp) (by simp only [go_sem, F]; omega) ?_) | skip) <;> (refine HK _ _ rfl ?_; clear HK K)) | refine Xs rfl rfl rfl (by (first | assumption | (simp only [go_sem, F]; rfl))) (by rw [getD_one (by simp only [go_sem, F])]; rfl) ?_ | refine Jp rfl rfl (by simp only [litD, Wb, go_sem, Zf, Zj, Option.map_some, Option.bind_some, and_self, ↓reduceIte, Z0, Z3, Z1, Z5, Z6, Z8, Za, Z9, hB2, k1, k2, k3, k4, k5, w1, w2, w3, w4, Z4]; rfl) ?_ | refine aS_appR rfl rfl rfl (by (first | assumption | (simp only [go_sem, F]; rfl))) (by simp) (by simp only [go_sem, F]; rfl) rfl (by (rw [Jo]; exact Xe _)) (by (simp; omega)) ?_ | refine V2 (by simp only [List.reverse_cons, List.reverse_nil, Zd, Zg, Wd, chk1]; repeat' (first | exact trivial | refine And.intro ?_ ?_ | exact .inr Yw | exact .inr X0 | exact .inr X4 | (refine .inr ?_; simp [compat, Wl, V8, Vs, nop] <;> omega) | exact .inl (by kernel_rfl))) ?_)
      | refine gg ?_
      | refine Two.mk (fun hq => ?_) fun hq => ?_
      | (with_reducible refine Y7 ?_; refine gc rfl rfl rfl Zm8 (Zo8 G hG hh hb hi) ?_)
      | ((with_reducible refine Y7 ?_); first | refine gc rfl rfl rfl Yd0 (rNum_e G hG hr hB hO hl) ?_)
      | (exfalso; omega)
     have e2 : ((s.pos : Int) + (c : Int) + (m : Int)).toNat = s.pos + c + m := by omega
     have e1 : ((s.pos : Int) + (c : Int)).toNat = s.pos + c := by omega
     refine ⟨by simp, endS (i := i) (ob := X3 (s.go (c + m))) (r := .sl 1 _) hl0 (U6 _ _) rfl (by simp [X3, RS.go, putL_succ, putL_zero, hT, hT2, Int.add_assoc]) (by simp [hL]) (by simp [outD, cvD, cv1, upd_app, hL]; rfl) ?_ ⟨_, ⟨by rw [hR2], rfl⟩, ?_⟩⟩
     · rw [Jo, e1, e2]; exact Ze0 _ _
     · rw [Jo, e1, e2, hR2, show (s.data.take (s.pos + c + m)).drop (s.pos + c) = (s.data.drop (s.pos + c)).take m by rw [List.drop_take]; congr 1; omega]
       exact fun _ _ _ _ h => h
end
section
attribute [local irreducible] on aOp
attribute [local go_sem] decide_true decide_false Zc Z7
attribute [local simp] byD_len
section
variable {P : Program} {G : Nat → D} {n : Nat} {e : Nat → D} {h : List Ob} {ops : Array Oper} {rest : List Oper} {Q : S → Prop} {t : Option Nat} {ty : TypeId} {pos : String} {aft : Array Edge}
theorem ao_bldG {u t' j n1 E1 k1 : Nat} {xs : List (List D)} (hx : e t' = .buf j n1) (hj : h[j]? = some (.buf E1 k1 xs)) (hn : xs.length = n1)
 (q : ao P G ops (⟨t, .build u #[(0, .tmp t')], ty, pos, aft, none⟩ :: rest) Q ⟨n, upd e t' (.sl k1 xs), h.set j .dead⟩) : ao P G ops (⟨t, .build u #[(0, .tmp t')], ty, pos, aft, none⟩ :: rest) Q ⟨n, e, h⟩ := by
 refine ao_give j t' ?_
 have e1 : cvD (fun i => i == j) h (e t') = .sl k1 xs := by rw [hx]; simp [cvD, cv1, hj, hn]
 rw [e1]
 exact q
end
variable (G : Nat → D) (hG : ∀ g, low 0 (G g))
include hG
attribute [local go_sem] Z4 Z8 Z9 Za Zp Z3 Z5 Z0 Z1 Z6
attribute [local go_sem ↓] reduceIte
theorem newReader0 (l : List UInt8) (hl : l.length ≤ 1000000000) : Does Zb G 105 [] [.sl 1 (byD l)] (fun h' r => h' = [.dead, X3 ⟨l, 0, 0, 0⟩] ∧ r = .ptr 1 0) := by
 refine Y6 Tryz.func105 rfl (Z2 rfl) hG fun hl0 _ => ?_
 simp only [Tryz.ntmps105]
 repeat' first
  | (refine ao_bldG rfl rfl (by first | rfl | (simp; done) | (simp; omega)) ?_)
  | refine sA rfl ?_
  | refine Yn ?_
  | (refine ao1 rfl rfl fun K HK => ?_; simp only [go_sem] <;> (refine HK _ _ ?_; clear HK K))
  | refine Ye4 rfl rfl rfl (by (simp only [go_sem]; rfl)) (by simp) (by simp only [go_sem]; rfl) rfl (by exact Xe _) (by (simp; omega)) ?_
 refine ⟨.inr rfl, [.ptr 1 0], 2, rfl, by simp, by simp, ?_, ?_, ?_, ?_⟩
 · intro x hx
   have hx : x ∈ [Ob.dead, X3 ⟨l, 0, 0, 0⟩] := hx
   simp at hx
   rcases hx with rfl | rfl
   · trivial
   · exact U6 _ _
 · simp [outD, cvD, cv1, low]
 · rfl
 · simp [outD, cvD, cv1]
theorem newReader1 (l : List UInt8) (hl : l.length ≤ 1000000000) : Does Zb G 105 [] [.sl 1 (byD l)] (fun h' r => h' = [X3 ⟨l, 0, 0, 0⟩] ∧ r = .ptr 0 0) := by
 refine (newReader0 G hG l hl).shrink hG ?_
 rintro _ _ ⟨rfl, rfl⟩
 refine ⟨[X3 ⟨l, 0, 0, 0⟩], .ptr 0 0, ⟨[1], ?_, rfl, ?_, Nat.zero_le _, fun k hk => by simp at hk⟩, rfl, rfl⟩
 · have e : rnR [1] (byD l) = some (byD l) := Zw0 _ _ (by have := Ze0 0 l; rwa [low] at this)
   simp [rnH, X3, rnOb, rnL, rnO, e]
 · simp [rnO, pos]
theorem newReader_d (l : List UInt8) (hl : l.length ≤ 1000000000) (h : List Ob) : Does Zb G 105 h [.sl 1 (byD l)] (fun h' r => h' = h ++ [X3 ⟨l, 0, 0, 0⟩] ∧ r = .ptr h.length 0) := by
 have la : lowL 0 [D.sl 1 (byD l)] := by rw [lowL, lowL]; exact ⟨Ze0 _ _, trivial⟩
 have lo : lowL 0 [D.sl 1 (byD l), .v (.int .i64 (0 : Int)), .v (.int .i64 (0 : Int)), .v (.int .i64 (0 : Int))] := by
  simp only [lowL]; exact ⟨Ze0 _ _, by simp [low], by simp [low], by simp [low], trivial⟩
 refine Does.holes 1 ?_
 have L : Lies (fun _ => h.length) [] (h ++ holes 1) := ⟨fun i ob q => by simp at q, fun i j q => by simp at q, fun ob q => by simp at q⟩
 have F := Does.frame hG L (args := [.sl 1 (byD l)]) la (K1 := fun h' r => h' = [X3 ⟨l, 0, 0, 0⟩] ∧ r = .ptr 0 0) (by
  rintro _ _ ⟨rfl, _⟩
  refine ⟨fun i j hi hj _ => by simp at hi hj; omega, fun j _ hj => ?_⟩
  simp [holes]) (newReader1 G hG l hl)
 rw [W0 _ _ la] at F
 refine F.mono ?_
 rintro _ _ ⟨_, _, ⟨rfl, rfl⟩, rfl, rfl⟩
 have e1 := W0 (fun _ => h.length) _ lo
 simp [plc, Ve, ren, holes, X3, e1]
theorem rText_d (i : Nat) (s : RS) (h : List Ob) (hi : h[i]? = some (X3 s)) (ho : s.Ok) (hl : s.data.length ≤ 1000000000) :
 Does Zb G 171 h [.ptr i 0] (fun h' r => h' = h.set i (X3 (W2 s).2) ∧ r = .v (.string ⟨(W2 s).1.toArray⟩)) := by
 have hil := (Zi.1 hi).1
 refine Y6 Tryz.func171 rfl (Z2 rfl) hG fun hl0 _ => ?_
 simp only [Tryz.ntmps171]
 repeat' first
  | refine sA rfl ?_
  | refine Yn ?_
  | (refine ao1 rfl rfl fun K HK => ?_; simp only [go_sem, hi] <;> (refine HK _ _ ?_; clear HK K))
  | (refine ao2 rfl rfl rfl ent_222 (rBytes_d G hG _ _ _ hi ho hl) ?_; rintro _ _ ⟨rfl, rfl⟩)
 refine ao1 rfl rfl fun K HK => ?_
 simp only [go_sem]
 refine bst_by (by simp only [go_sem]) (by simp only [go_sem]) ?_
 refine HK _ _ ?_; clear HK K
 repeat' first
  | refine Yn ?_
  | (refine ao1 rfl rfl fun K HK => ?_; simp only [go_sem, hi] <;> (refine HK _ _ ?_; clear HK K))
  | refine sA rfl ?_
 exact ⟨by simp, endS (i := i) (ob := X3 (W2 s).2) (r := .v _) hl0 (U6 _ _) rfl (by simp [Zn7]) (by simp) rfl (by rw [low]; trivial) ⟨rfl, rfl⟩⟩
end
section
attribute [local irreducible] on aOp
attribute [local go_sem] decide_true decide_false Zc Z7
attribute [local simp] byD_len
variable (G : Nat → D) (hG : ∀ g, low 0 (G g))
def rdSm (m : Nat) (s : RS) : Nat × RS := (if m < (Wg s).1 then 0 else (Wg s).1, if m < (Wg s).1 then (Wg s).2.fail else (Wg s).2)
include hG
attribute [local go_sem] Z8 Z9 Za Z3 Z5 Z0 Z1 Z6
attribute [local go_sem ↓] reduceIte
end
section
attribute [local irreducible] on aOp
attribute [local go_sem] decide_true decide_false Zc Z7
attribute [local simp] byD_len
def q4 (R A Z V : Ob) (T : List Ob) : List Ob := R :: A :: Z :: V :: T
section
variable {R A Z V y y' z z' : Ob} {T l : List Ob}
end
def q5 (R A Z V B : Ob) (T : List Ob) : List Ob := R :: A :: Z :: V :: B :: T
section
variable {R A Z V B y y' z z' : Ob} {T l : List Ob}
theorem q5_0 : (q5 R A Z V B T)[0]? = some R := rfl
theorem q5_s0 : (q5 R A Z V B T).set 0 y = q5 y A Z V B T := rfl
theorem q5_1 : (q5 R A Z V B T)[1]? = some A := rfl
theorem q5_s1 : (q5 R A Z V B T).set 1 y = q5 R y Z V B T := rfl
theorem q5_2 : (q5 R A Z V B T)[2]? = some Z := rfl
theorem q5_s2 : (q5 R A Z V B T).set 2 y = q5 R A y V B T := rfl
theorem q5_3 : (q5 R A Z V B T)[3]? = some V := rfl
theorem q5_s3 : (q5 R A Z V B T).set 3 y = q5 R A Z y B T := rfl
theorem q5_4 : (q5 R A Z V B T)[4]? = some B := rfl
theorem q5_s4 : (q5 R A Z V B T).set 4 y = q5 R A Z V y T := rfl
theorem q5_len : (q5 R A Z V B T).length = T.length + 5 := rfl
theorem q5_app : q5 R A Z V B T ++ l = q5 R A Z V B (T ++ l) := rfl
theorem q5_l : (q5 R A Z V B (T ++ [y]))[T.length + 5]? = some y := by simp [q5]
theorem q5_sl : (q5 R A Z V B (T ++ [y])).set (T.length + 5) y' = q5 R A Z V B (T ++ [y']) := by simp [q5]
theorem q5_l2 : (q5 R A Z V B (T ++ [y, z]))[T.length + 5]? = some y := by simp [q5]
theorem q5_sl2 : (q5 R A Z V B (T ++ [y, z])).set (T.length + 5) y' = q5 R A Z V B (T ++ [y', z]) := by simp [q5]
theorem q5_l3 : (q5 R A Z V B (T ++ [y, z]))[T.length + 1 + 5]? = some z := by simp [q5]
theorem q5_sl3 : (q5 R A Z V B (T ++ [y, z])).set (T.length + 1 + 5) z' = q5 R A Z V B (T ++ [y, z']) := by simp [q5]
end
def q6 (R A Z V B C : Ob) (T : List Ob) : List Ob := R :: A :: Z :: V :: B :: C :: T
section
variable {R A Z V B C y y' z z' : Ob} {T l : List Ob}
theorem q6_0 : (q6 R A Z V B C T)[0]? = some R := rfl
theorem q6_s0 : (q6 R A Z V B C T).set 0 y = q6 y A Z V B C T := rfl
theorem q6_1 : (q6 R A Z V B C T)[1]? = some A := rfl
theorem q6_s1 : (q6 R A Z V B C T).set 1 y = q6 R y Z V B C T := rfl
theorem q6_2 : (q6 R A Z V B C T)[2]? = some Z := rfl
theorem q6_s2 : (q6 R A Z V B C T).set 2 y = q6 R A y V B C T := rfl
theorem q6_3 : (q6 R A Z V B C T)[3]? = some V := rfl
theorem q6_s3 : (q6 R A Z V B C T).set 3 y = q6 R A Z y B C T := rfl
theorem q6_4 : (q6 R A Z V B C T)[4]? = some B := rfl
theorem q6_s4 : (q6 R A Z V B C T).set 4 y = q6 R A Z V y C T := rfl
theorem q6_5 : (q6 R A Z V B C T)[5]? = some C := rfl
theorem q6_s5 : (q6 R A Z V B C T).set 5 y = q6 R A Z V B y T := rfl
theorem q6_len : (q6 R A Z V B C T).length = T.length + 6 := rfl
theorem q6_app : q6 R A Z V B C T ++ l = q6 R A Z V B C (T ++ l) := rfl
theorem q6_l : (q6 R A Z V B C (T ++ [y]))[T.length + 6]? = some y := by simp [q6]
theorem q6_sl : (q6 R A Z V B C (T ++ [y])).set (T.length + 6) y' = q6 R A Z V B C (T ++ [y']) := by simp [q6]
theorem q6_l2 : (q6 R A Z V B C (T ++ [y, z]))[T.length + 6]? = some y := by simp [q6]
theorem q6_sl2 : (q6 R A Z V B C (T ++ [y, z])).set (T.length + 6) y' = q6 R A Z V B C (T ++ [y', z]) := by simp [q6]
theorem q6_l3 : (q6 R A Z V B C (T ++ [y, z]))[T.length + 1 + 6]? = some z := by simp [q6]
theorem q6_sl3 : (q6 R A Z V B C (T ++ [y, z])).set (T.length + 1 + 6) z' = q6 R A Z V B C (T ++ [y, z']) := by simp [q6]
end
theorem Zj7 {n : Int} {d1 d2 d3 : D} {a b c : List (List D)} (h1 : Wk d1 (.sl 1 a)) (h2 : Wk d2 (.sl 4 b)) (h3 : Wk d3 (.sl 2 c)) : Wk (.agg [.v (.int .i64 n), d1, d2, d3]) (.agg [.v (.int .i64 n), .sl 1 a, .sl 4 b, .sl 2 c]) :=
 wk_agg (Wn (W7 _) (Wn h1 (Wn h2 (Wn h3 Yj5))))
theorem rdrOb_ren (π : Nat → Nat) (s : RS) : Ve π (X3 s) = X3 s := by
 rw [Ju]; simp only [Ve, renL, ren, renR_by]
theorem rdr_at {P : Program} {G : Nat → D} (hG : ∀ g, low 0 (G g)) {f : FuncId} {s s' : RS} {xs : List D} {r0 : D} (lx : lowL 0 xs) (lr : low 0 r0) (q : Does P G f [X3 s] (.ptr 0 0 :: xs) (fun h' r => h' = [X3 s'] ∧ r = r0)) {h : List Ob} {i : Nat} (hi : h[i]? = some (X3 s)) : Does P G f h (.ptr i 0 :: xs) (fun h' r => h' = h.set i (X3 s') ∧ r = r0) := by
 have L : Lies (fun _ => i) [X3 s] h := by
  refine ⟨fun k ob' hk => ?_, fun a b ha hb _ => ?_, ?_⟩
  · rcases k with _ | k
    · cases hk; rw [rdrOb_ren]; exact hi
    · simp at hk
  · simp at ha hb; omega
  · intro x hx
    simp at hx; subst hx; exact U6 _ s
 have F := Does.frame hG L (args := .ptr 0 0 :: xs) (by rw [lowL, low]; exact ⟨Nat.zero_lt_succ _, Uk (Nat.zero_le _) _ lx⟩) (K1 := fun h' r => h' = [X3 s'] ∧ r = r0) (by
  rintro _ _ ⟨rfl, _⟩
  refine ⟨fun a b ha hb _ => ?_, fun k h1 h2 => ?_⟩
  · simp at ha hb; omega
  · have h1 : 1 ≤ k := h1
    have h2 : k < 1 := h2
    omega) q
 rw [renL, ren, W0 _ _ lx] at F
 refine F.mono ?_
 rintro _ _ ⟨_, _, ⟨rfl, rfl⟩, rfl, rfl⟩
 refine ⟨?_, J3 _ _ lr⟩
 simp only [List.map_cons, List.map_nil, plc, rdrOb_ren]
def ReadD (G : Nat → D) (l : Lat) : Prop := ∀ s : RS, s.Ok → s.data.length ≤ 1000000 → Does Zb G 106 [X3 s] [.ptr 0 0, .agg (latX l)] (fun h' r => h' = [X3 (Xp l s).2] ∧ r = .agg (vaX (Xp l s).1))
theorem ReadD.at {G : Nat → D} (hG : ∀ g, low 0 (G g)) {l : Lat} (q : ReadD G l) {s : RS} (ho : s.Ok) (hl : s.data.length ≤ 1000000) {h : List Ob} {i : Nat} (hi : h[i]? = some (X3 s)) : Does Zb G 106 h [.ptr i 0, .agg (latX l)] (fun h' r => h' = h.set i (X3 (Xp l s).2) ∧ r = .agg (vaX (Xp l s).1)) :=
 rdr_at hG (Wu _ l) (by rw [low]; exact Yb _ _) (q s ho hl) hi
theorem endR {P : Program} {res : Array ResultVar} {K : List Ob → D → Prop} {s : S} {s' : RS} {ds : List D} {r : D} {T : List Ob} (h1 : resD P s res.toList = some ds) (h2 : s.h = X3 s' :: T) (lr : low 0 r) (hr : cvD (fun i => decide (1 ≤ i)) (X3 s' :: T) (outD ds) = r) (hK : K [X3 s'] r) : EndD P res 1 K s :=
 endX ds [X3 s'] T r h1 h2 (Ze _) (fun x hx => by simp at hx; subst hx; exact U6 _ s') (Zp3 (Nat.zero_le _) _ lr) hr hK
section
variable {l : Lat}
theorem rd_1 (h : l.kind = 1) (s : RS) : Xp l s = (.mk (if (Jw s).1 then 1 else 0) [] [] [], (Jw s).2) := by cases l; simp only [Lat.kind] at h; subst h; exact readV_1 s
theorem rd_23 (h : l.kind = 2 ∨ l.kind = 3) (s : RS) : Xp l s = (.mk (Zo7 s).1 [] [] [], (Zo7 s).2) := by cases l; exact Yl0 h s
theorem rd_410 (h : l.kind = 4 ∨ l.kind = 10) (s : RS) : Xp l s = (.mk 0 (Xk Wy (Ye s).1 (Ye s).2).1 [] [], (Xk Wy (Ye s).1 (Ye s).2).2) := by cases l; exact Zz0 h s
theorem rd_8 (h : l.kind = 8) (s : RS) : Xp l s = if (X9 2 s).1 = 1 then (.mk 1 [(Wy (X9 2 s).2).1] [] [], (Wy (X9 2 s).2).2) else (.mk ((X9 2 s).1 : Nat) [] [] [], (X9 2 s).2) := by cases l; simp only [Lat.kind] at h; subst h; exact readV_8 s
end
theorem va_mk2 (n : Int) (ns : List ByteArray) (ps : List Val) (es : List En) : vaX (.mk n ns ps es) = [.v (.int .i64 n), .sl 1 (ns.map strX), .sl 4 (ps.map vaX), .sl 2 (es.map enX)] := by rw [Y5]; rfl
variable (G : Nat → D) (hG : ∀ g, low 0 (G g))
include hG
attribute [local go_sem] Z4 Z8 Z9 Za Z3 Z5 Z0 Z1 Z6
attribute [local go_sem ↓] reduceIte
theorem rErr_d (i : Nat) (s : RS) (h : List Ob) (hi : h[i]? = some (X3 s)) : Does Zb G 170 h [.ptr i 0] (fun h' r => h' = h ∧ r = .v (.int .i64 s.err)) := by
 rw [Ju] at hi
 refine Y6 Tryz.func170 rfl (Z2 rfl) hG fun hl0 _ => ?_
 simp only [Tryz.ntmps170]
 have F := hi
 repeat' first
  | refine g0 ?_
  | fail
 exact ⟨.inr rfl, endV hl0 rfl rfl ⟨rfl, rfl⟩⟩
end
section
attribute [local irreducible] on aOp
attribute [local go_sem] decide_true decide_false Zc Z7
attribute [local simp] byD_len
theorem LoopAt.next2 {α : Type} {R : List α × RS} {f : RS → α × RS} {acc : List α} {k : Nat} {s : RS} (h : LoopAt R f acc k s) (hk : 0 < k) (he : s.err = 0) : LoopAt R f (acc ++ [(f s).1]) (k - 1) (f s).2 := by
 obtain ⟨j, rfl⟩ : ∃ j, k = j + 1 := ⟨k - 1, by omega⟩
 exact h.step he
theorem LoopAt.stop2 {α : Type} {R : List α × RS} {f : RS → α × RS} {acc : List α} {k : Nat} {s : RS} (h : LoopAt R f acc k s) (hk : ¬ (0 < k ∧ s.err = 0)) : R = (acc, s) := by
 by_cases h0 : k = 0
 · subst h0; exact h.end0
 · exact h.endE (fun q => hk ⟨by omega, q⟩)
theorem rowsOk_str (s : ByteArray) : Yz 1 [strX s] := fun row hr => by
 simp only [Zm] at hr; subst hr
 exact ⟨rfl, fun d hd => by simp only [strX, Zm] at hd; subst hd; rfl⟩
theorem low_vaR (n : Int) (ns : List ByteArray) : low 0 (.agg [.v (.int .i64 n), .sl 1 (ns.map strX), .v (.slice none 0 0), .v (.slice none 0 0)]) := by
 rw [low]; simp only [lowL]; exact ⟨by simp [low], Xw _ ns, by simp [low], by simp [low], trivial⟩
variable (G : Nat → D) (hG : ∀ g, low 0 (G g))
include hG
attribute [local go_sem] Z4 Z8 Z9 Za Zk Zg Zh Zf Zj Zd Z3 Z5 Z0 Z1 Z6 q5_0 q5_1 q5_2 q5_3 q5_4 q5_app q5_l q5_l2 q5_l3 q5_len q5_s0 q5_s1 q5_s2 q5_s3 q5_s4 q5_sl q5_sl2 q5_sl3
attribute [local go_sem ↓] reduceIte
theorem read_410 (l : Lat) (hk : l.kind = 4 ∨ l.kind = 10) : ReadD G l := fun s ho hl => by
 rw [rd_410 hk, va_mk2]
 have hb := fun (h : List Ob) (k : h[0]? = some (X3 s)) => rCount_d G hG 0 s h k ho (by omega)
 obtain ⟨ho2, hd2, hc2⟩ := Zi7 ho
 generalize Ye s = b at *
 obtain ⟨N, s1⟩ := b
 simp only at hb ho2 hd2 hc2 ⊢
 generalize hR : Xk Wy N s1 = R
 have h5 : ¬ l.kind = 5 := by omega
 have h5d : decide (l.kind = 5) = false := decide_eq_false h5
 have hgo : ∀ (H : l.kind = 4 ∨ l.kind = 10), True := fun _ => trivial
 clear hgo
 apply Does.weak
 refine Y6 Tryz.func106 rfl (Z2 rfl) hG fun hl0 _ => ?_
 simp only [Tryz.ntmps106]
 have hk' := hk
 rcases hk with hk | hk
 all_goals
  skip
  have F : _ ∧ _ := ⟨Y4 l, hk⟩
  repeat' first
   | refine g0 ?_
   | (with_reducible refine Y7 ?_; refine gc rfl rfl rfl ent_169 (hb _ (by first | rfl | simp)) ?_)
  refine Uf 9 1 3 [.v (.int .i64 0)] [.v (.slice none 0 0), .v (.slice none 0 0)] rfl ?_
  refine Yh (fun m e h' => ∃ (k : Nat) (acc : List ByteArray) (s2 : RS) (T : List Ob), m = k ∧ LoopAt R Wy acc k s2 ∧ s2.Ok ∧ s2.data.length = s.data.length ∧ acc.length + k ≤ 1000000 ∧ h' = q5 (X3 s2) (.cells (latX l)) (.cells nilV) (.cells [.v (.int .i64 0), .buf 4 acc.length, .v (.slice none 0 0), .v (.slice none 0 0)]) (.buf 9 1 (acc.map strX)) T ∧ e 0 = .ptr 0 0 ∧ e 3 = .ptr 1 0 ∧ e 4 = .ptr 2 0 ∧ e 5 = .ptr 3 0 ∧ e 6 = .v (.int .i64 k)) N ⟨N, [], s1, [], rfl, hR ▸ LoopAt.start Wy N s1, ho2, by rw [hd2], by simp; omega, by rw [Y4 l, hk]; rfl, rfl, rfl, rfl, rfl, rfl⟩ ?_
  rintro m e h' ⟨k, acc, s2, T, rfl, hLp, hoA, hdA, hlen, rfl, e0, e3, e4, e5, e6⟩
  have hEr := fun (h : List Ob) (q : h[0]? = some (X3 s2)) => rErr_d G hG 0 s2 h q
  have hlA : s2.data.length ≤ 1000000 := by omega
  have ht := fun (h : List Ob) (q : h[0]? = some (X3 s2)) => rText_d G hG 0 s2 h q hoA (by omega)
  by_cases hgo : 0 < m ∧ s2.err = 0
  · obtain ⟨hm0, he0⟩ := hgo
    have he0d : decide (s2.err = 0) = true := decide_eq_true he0
    have hm0d : decide ((0 : Int) < (m : Int)) = true := decide_eq_true (by omega)
    have wk : IntKind.i64.wrap ((m : Int) - 1) = ((m - 1 : Nat) : Int) := by rw [show (m : Int) - 1 = ((m - 1 : Nat) : Int) by omega]; exact IntWalk.i64_in _ (by omega)
    have hlr : (acc.map strX).length = acc.length := Zl _
    have hok := (Za8 hoA).1
    have hdk := (Za8 hoA).2.1
    have hN := hLp.next2 hm0 he0
    have F : _ ∧ _ ∧ _ ∧ _ ∧ _ ∧ _ ∧ _ ∧ _ ∧ _ ∧ _ ∧ _ := ⟨Y4 l, hk, h5d, e0, e3, e4, e5, e6, he0d, hm0d, wk⟩
    repeat' first
     | (with_reducible refine Yc ?_; refine Xc mixd (by kernel_rfl) ?_)
     | ((with_reducible refine Up ?_); first | (refine Zd7 rfl rfl rfl rfl (by (first | (simp only [go_sem, F]; rfl) | (simp only [go_sem, F]; done))) hlr (by simp only [go_sem, F]; rfl) (by (first | (simp only [go_sem, F]; rfl) | (simp only [go_sem, F]; done))) (by simp) (rowsOk_str _) (by simp; omega) ?_) | (refine aS1 rfl rfl fun K HK => ?_; (first | refine Yi rfl ?_ | skip); simp only [go_sem, F] <;> (refine HK _ _ rfl ?_; clear HK K)) | refine Xs rfl rfl rfl (by (first | (simp only [go_sem, F]; rfl) | (simp only [go_sem, F]; done))) (by rw [getD_one (by simp only [go_sem, F])]; rfl) ?_ | refine Ui rfl rfl (by (first | (simp only [go_sem, F]; rfl) | (simp only [go_sem, F]; done))) rfl (by simp only [go_sem, F]) (by simp) ?_ | refine Jp rfl rfl (by simp only [litD, Wb, go_sem, Zf, Zj, Option.map_some, Option.bind_some, and_self, ↓reduceIte, Z0, Z3, Z1, Z5, Z6, Z8, Za, Z9, Y4 l, hk, h5d, e0, e3, e4, e5, e6, he0d, hm0d, wk, q5_0, q5_1, q5_2, q5_3, q5_4, q5_s0, q5_s1, q5_s2, q5_s3, q5_s4, q5_len, q5_app, q5_l, q5_sl, q5_l2, q5_sl2, q5_l3, q5_sl3, Zk, Zg, Zd, Zh, Zf, Zj, Z4]; rfl) ?_ | refine V2 (by simp only [List.reverse_cons, List.reverse_nil, Zd, Zg, Wd, chk1]; repeat' (first | exact trivial | refine And.intro ?_ ?_ | exact .inr Yw | exact .inr X0 | exact .inr (Wt (by omega)) | exact .inr (compat_ww (by omega)) | (refine .inr ?_; simp [compat, Wl, V8, Vs, nop, q5_len] <;> omega) | exact .inl (by kernel_rfl))) ?_ | refine Zj6 rfl rfl rfl ent_171 (by (first | (simp only [go_sem, F]; rfl) | (simp only [go_sem, F]; done))) (fun h2 k2 => ht h2 k2) ?_)
     | refine g0 ?_
     | ((with_reducible refine Y7 ?_); first | refine gc rfl rfl rfl ent_170 (hEr _ (by first | rfl | simp)) ?_)
    exact ⟨rfl, m - 1, by omega, m - 1, acc ++ [(Wy s2).1], (Wy s2).2, _, rfl, hN, hok, by rw [← hdA]; exact congrArg List.length hdk, by simp; omega, by rw [Y4 l, List.map_append, Zh, hk]; rfl, e0, e3, e4, e5, rfl⟩
  · have hst := hLp.stop2 hgo
    rw [hst]
    have hgo2 : ¬ (0 < (m : Int)) ∨ (0 < (m : Int) ∧ ¬ s2.err = 0) := by omega
    rcases hgo2 with hm0 | ⟨hm0, he0⟩
    · skip
      repeat' first
       | (with_reducible first | refine sA rfl ?_ | refine sI rfl rfl ?_ | refine sT rfl ?_ | refine sB rfl ?_)
       | (with_reducible refine Y7 ?_; first | refine Yn ?_ | (refine ao1 rfl rfl fun K HK => ?_; (first | refine Yi rfl ?_ | skip); simp only [go_sem, e0, e3, e4, e5, e6, hm0, nilV] <;> (refine HK _ _ ?_; clear HK K)) | refine ao0 rfl rfl ?_ | (refine ao1' rfl fun K HK => ?_; simp only [go_sem, e0, e3, e4, e5, e6, hm0, nilV]; refine HK _ _ ?_; clear HK K))
      exact ⟨.inr rfl, endR (s' := s2) (ds := [.agg [.v (.int .i64 0), .buf 4 acc.length, .v (.slice none 0 0), .v (.slice none 0 0)]]) (r := .agg [.v (.int .i64 0), .sl 1 (acc.map strX), .v (.slice none 0 0), .v (.slice none 0 0)]) (T := _) (by simp only [resD, Tryz.results106, go_sem, ↓reduceIte, Z0, Z3, Z1, e4, nilV, q5_2, q5_s2]; try rfl) rfl (low_vaR _ _) (by simp [outD, cvD, cv1]) ⟨_, ⟨rfl, rfl⟩, Zj7 (W7 _) X7 X7⟩⟩
    · skip
      repeat' first
       | (with_reducible first | refine sA rfl ?_ | refine sI rfl rfl ?_ | refine sT rfl ?_ | refine sB rfl ?_)
       | (with_reducible refine Y7 ?_; first | refine Yn ?_ | (refine ao1 rfl rfl fun K HK => ?_; (first | refine Yi rfl ?_ | skip); simp only [go_sem, e0, e3, e4, e5, e6, hm0, he0, nilV] <;> (refine HK _ _ ?_; clear HK K)) | (refine ao1' rfl fun K HK => ?_; simp only [go_sem, e0, e3, e4, e5, e6, hm0, he0, nilV]; refine HK _ _ ?_; clear HK K))
       | ((with_reducible refine Y7 ?_); first | (refine ao2 rfl rfl rfl ent_170 (hEr _ (by first | rfl | simp)) ?_; rintro _ _ ⟨rfl, rfl⟩))
      exact ⟨.inr rfl, endR (s' := s2) (ds := [.agg [.v (.int .i64 0), .buf 4 acc.length, .v (.slice none 0 0), .v (.slice none 0 0)]]) (r := .agg [.v (.int .i64 0), .sl 1 (acc.map strX), .v (.slice none 0 0), .v (.slice none 0 0)]) (T := _) (by simp only [resD, Tryz.results106, go_sem, ↓reduceIte, Z0, Z3, Z1, e4, nilV, q5_2, q5_s2]; try rfl) rfl (low_vaR _ _) (by simp [outD, cvD, cv1]) ⟨_, ⟨rfl, rfl⟩, Zj7 (W7 _) X7 X7⟩⟩
end
section
attribute [local irreducible] on aOp
attribute [local go_sem] decide_true decide_false Zc Z7
attribute [local simp] byD_len
theorem rd_67 {l : Lat} (h : l.kind = 6 ∨ l.kind = 7) (s : RS) : Xp l s = (.mk 0 [] (X8 l.parts s).1 [], (X8 l.parts s).2) := by cases l; exact Yk9 h s
variable (G : Nat → D) (hG : ∀ g, low 0 (G g))
include hG
attribute [local go_sem] Z4 Z8 Z9 Za Zp Zk Zg Zh Zf Zl Zj Zd Z3 Z5 Z0 Z1 Z6 q5_0 q5_1 q5_2 q5_3 q5_4 q5_app q5_l q5_l2 q5_l3 q5_len q5_s0 q5_s1 q5_s2 q5_s3 q5_s4 q5_sl q5_sl2 q5_sl3 V9 J0
attribute [local go_sem ↓] reduceIte
end
section
attribute [local irreducible] on aOp
attribute [local go_sem] decide_true decide_false Zc Z7
attribute [local simp] byD_len
theorem rd_5 {l : Lat} {p : Lat} (h : l.kind = 5) (hp : l.parts = [p]) (s : RS) : Xp l s = (.mk 0 ((Xk (Zk3 (Xp p)) (Ye s).1 (Ye s).2).1.map Prod.fst) ((Xk (Zk3 (Xp p)) (Ye s).1 (Ye s).2).1.map Prod.snd) [], (Xk (Zk3 (Xp p)) (Ye s).1 (Ye s).2).2) := by
 cases l; simp only [Lat.kind, Lat.parts] at h hp; subst h hp; exact readV_5 s
variable (G : Nat → D) (hG : ∀ g, low 0 (G g))
include hG
attribute [local go_sem] Z4 Z8 Z9 Za Int.toNat_zero Zk Zg Zh Zf Zl Zj Zd Z3 Z5 Z0 Z1 Z6 q6_0 q6_1 q6_2 q6_3 q6_4 q6_5 q6_app q6_l q6_l2 q6_l3 q6_len q6_s0 q6_s1 q6_s2 q6_s3 q6_s4 q6_s5 q6_sl q6_sl2 q6_sl3 V9 J0
attribute [local go_sem ↓] reduceIte
end
section
attribute [local irreducible] on aOp
attribute [local go_sem] decide_true decide_false Zc Z7
attribute [local simp] byD_len
def w5 (R A Z V B : Ob) (T : List Ob) (X C : Ob) (U : List Ob) : List Ob := R :: A :: Z :: V :: B :: (T ++ X :: C :: U)
section
variable {R A Z V B X C y y' : Ob} {T U l : List Ob}
theorem w5_0 : (w5 R A Z V B T X C U)[0]? = some R := rfl
theorem w5_1 : (w5 R A Z V B T X C U)[1]? = some A := rfl
theorem w5_2 : (w5 R A Z V B T X C U)[2]? = some Z := rfl
theorem w5_3 : (w5 R A Z V B T X C U)[3]? = some V := rfl
theorem w5_4 : (w5 R A Z V B T X C U)[4]? = some B := rfl
theorem w5_s0 : (w5 R A Z V B T X C U).set 0 y = w5 y A Z V B T X C U := rfl
theorem w5_s3 : (w5 R A Z V B T X C U).set 3 y = w5 R A Z y B T X C U := rfl
theorem w5_s4 : (w5 R A Z V B T X C U).set 4 y = w5 R A Z V y T X C U := rfl
theorem w5_x : (w5 R A Z V B T X C U)[T.length + 5]? = some X := by simp [w5]
theorem w5_c : (w5 R A Z V B T X C U)[T.length + 6]? = some C := by simp [w5, Zn]
theorem w5_sx : (w5 R A Z V B T X C U).set (T.length + 5) y = w5 R A Z V B T y C U := by simp [w5]
theorem w5_sc : (w5 R A Z V B T X C U).set (T.length + 6) y = w5 R A Z V B T X y U := by
 simp only [w5, List.set_cons_succ]
 rw [List.set_append_right _ _ (by omega)]; simp
theorem w5_len : (w5 R A Z V B T X C U).length = T.length + (U.length + 7) := by simp [w5]; omega
theorem w5_app : w5 R A Z V B T X C U ++ l = w5 R A Z V B T X C (U ++ l) := by simp [w5]
theorem w5_l : (w5 R A Z V B T X C (U ++ [y]))[T.length + (U.length + 7)]? = some y := by
 simp only [w5]
 rw [show T.length + (U.length + 7) = T.length + (U.length + 2) + 1 + 1 + 1 + 1 + 1 by omega]
 simp only [List.getElem?_cons_succ]
 rw [Zn (by omega), show T.length + (U.length + 2) - T.length = U.length + 1 + 1 by omega]
 simp
theorem w5_sl : (w5 R A Z V B T X C (U ++ [y])).set (T.length + (U.length + 7)) y' = w5 R A Z V B T X C (U ++ [y']) := by
 simp only [w5]
 rw [show T.length + (U.length + 7) = T.length + (U.length + 2) + 1 + 1 + 1 + 1 + 1 by omega]
 simp only [List.set_cons_succ]
 rw [List.set_append_right _ _ (by omega), show T.length + (U.length + 2) - T.length = U.length + 1 + 1 by omega]
 simp
end
theorem rd_9 {l : Lat} (h : l.kind = 9) (s : RS) : Xp l s = (.mk 0 [] [] (Xk Zf5 (Ye s).1 (Ye s).2).1, (Xk Zf5 (Ye s).1 (Ye s).2).2) := by
 cases l; simp only [Lat.kind] at h; subst h; exact readV_9 s
variable (G : Nat → D) (hG : ∀ g, low 0 (G g))
include hG
attribute [local go_sem] Z4 Z8 Z9 Za Zk Zg Zh Zf Zj Zd Z3 Z5 Z0 Z1 Z6 q5_0 q5_1 q5_2 q5_3 q5_4 q5_app q5_l q5_l2 q5_l3 q5_len q5_s0 q5_s1 q5_s2 q5_s3 q5_s4 q5_sl q5_sl2 q5_sl3 w5_0 w5_1 w5_2 w5_3 w5_4 w5_app w5_c w5_l w5_len w5_s0 w5_s3 w5_s4 w5_sc w5_sl w5_sx w5_x
attribute [local go_sem ↓] reduceIte
end
section
attribute [local irreducible] on aOp
attribute [local go_sem] decide_true decide_false Zc Z7
attribute [local simp] byD_len
def Yh8 (l : Lat) (v : Val) : Bool := decide (chkE l = 0) && decide (valC v (botV l) = 0)
theorem Zb9 {α : Type} {f : RS → α × RS} {enc : α → List UInt8} {p : α → Prop} (hk : Tks f enc) (hf : ∀ s : RS, s.Ok → s.data.length ≤ 1000000 → p (f s).1) : ∀ (n : Nat) (s : RS), s.Ok → s.data.length ≤ 1000000 → ∀ x ∈ (Xk f n s).1, p x
 | 0, s, _, _, x, hx => by simp [Zl5] at hx
 | n + 1, s, h, hl, x, hx => by
   by_cases h0 : s.err = 0
   · rw [Zf3 f n s h0] at hx
     obtain ⟨h1, h2⟩ := hk.ok s h
     rcases List.mem_cons.1 hx with rfl | hx
     · exact hf s h hl
     · exact Zb9 hk hf n _ h1 (by rw [h2]; exact hl) x hx
   · rw [Za7 f _ s h0] at hx; simp at hx
theorem Jf {α : Type} (f : RS → α × RS) : ∀ (n : Nat) (s : RS), (Xk f n s).1.length ≤ n
 | 0, s => by simp [Zl5]
 | n + 1, s => by
   by_cases h0 : s.err = 0
   · rw [Zf3 f n s h0]; have := Jf f n (f s).2; simp; omega
   · rw [Za7 f _ s h0]; simp
theorem Zi0 {s : RS} (h : s.Ok) (hl : s.data.length ≤ 1000000) : (Wy s).1.size ≤ 9223372036854775807 := by
 have := (Za8 h).2.2
 show (strOf (W2 s).1).size ≤ _
 rw [strOf_size]; omega
theorem Yf4 {n : Int} {ns : List ByteArray} {ps : List Val} {es : List En} (h1 : ns.length ≤ 9223372036854775807) (h2 : ps.length ≤ 9223372036854775807) (h3 : es.length ≤ 9223372036854775807) (h4 : ∀ s ∈ ns, s.size ≤ 9223372036854775807) (h5 : ∀ e ∈ es, e.clock.length ≤ 9223372036854775807 ∧ e.name.size ≤ 9223372036854775807) (h6 : ∀ p ∈ ps, VSm p) : VSm (.mk n ns ps es) := .mk _ h1 h2 h3 h4 h5 h6
theorem Yj6 (n : Int) : VSm (.mk n [] [] []) := Yf4 (by simp) (by simp) (by simp) (by simp) (by simp) (by simp)
theorem Zo5 : ∀ (ps : List Lat), (∀ p ∈ ps, Tks (Xp p) (putV p)) → (∀ p ∈ ps, ∀ s : RS, s.Ok → s.data.length ≤ 1000000 → VSm (Xp p s).1) → ∀ s : RS, s.Ok → s.data.length ≤ 1000000 → (X8 ps s).1.length = ps.length ∧ ∀ x ∈ (X8 ps s).1, VSm x
 | [], _, _, s, _, _ => by simp [X8]
 | p :: ps, ht, hv, s, ho, hl => by
  obtain ⟨o2, d2⟩ := (ht p (by simp)).ok s ho
  obtain ⟨h1, h2⟩ := Zo5 ps (fun q hq => ht q (by simp [hq])) (fun q hq => hv q (by simp [hq])) (Xp p s).2 o2 (by rw [d2]; exact hl)
  rw [X8]
  refine ⟨by simp [h1], fun x hx => ?_⟩
  rcases List.mem_cons.1 hx with rfl | hx
  · exact hv p (by simp) s ho hl
  · exact h2 x hx
theorem count_okV {s : RS} (h : s.Ok) (hl : s.data.length ≤ 1000000) : (Ye s).2.Ok ∧ (Ye s).2.data.length ≤ 1000000 ∧ (Ye s).1 ≤ 1000000 := by
 obtain ⟨h1, h2, h3⟩ := Zi7 h
 exact ⟨h1, by rw [h2]; exact hl, by omega⟩
theorem read_smV (f : Nat) : ∀ l : Lat, SizeOf.sizeOf l ≤ f → WfL l → ∀ s : RS, s.Ok → s.data.length ≤ 1000000 → VSm (Xp l s).1 := by
 induction f with
 | zero => intro l hn; cases l; simp at hn
 | succ f ih =>
  intro l hn hwf s ho hl
  have hk := hwf.kinds
  have ip : ∀ p ∈ l.parts, ∀ s : RS, s.Ok → s.data.length ≤ 1000000 → VSm (Xp p s).1 := fun p hp => ih p (by have := Zu2 hp; omega) (hwf.part hp)
  have tp : ∀ p ∈ l.parts, Tks (Xp p) (putV p) := fun p hp => tks_read _ p (Ze _) (hwf.part hp)
  obtain ⟨co, cl, cn⟩ := count_okV ho hl
  rcases Yh4 hk.1 with e | e | e | e | e | e | e
  · rw [rd_1 e]; exact Yj6 _
  · rw [rd_23 e]; exact Yj6 _
  · rw [rd_410 e]
    have := Jf Wy (Ye s).1 (Ye s).2
    exact Yf4 (by omega) (by simp) (by simp) (fun x hx => Zb9 U0 (p := fun x => x.size ≤ 9223372036854775807) (fun s h hl => Zi0 h hl) _ _ co cl x hx) (by simp) (by simp)
  · obtain ⟨p, hb⟩ := List.length_eq_one_iff.1 (hk.2.1 e)
    rw [rd_5 e hb]
    have hpm : p ∈ l.parts := by rw [hb]; simp
    have := Jf (Zk3 (Xp p)) (Ye s).1 (Ye s).2
    have hall : ∀ x ∈ (Xk (Zk3 (Xp p)) (Ye s).1 (Ye s).2).1, x.1.size ≤ 9223372036854775807 ∧ VSm x.2 := fun x hx => Zb9 (tks_pair (tp p hpm)) (p := fun x => x.1.size ≤ 9223372036854775807 ∧ VSm x.2) (fun s h hl => by
     obtain ⟨o2, d2⟩ := U0.ok s h
     exact ⟨Zi0 h hl, ip p hpm _ o2 (by rw [d2]; exact hl)⟩) _ _ co cl x hx
    refine Yf4 (by rw [Zl]; omega) (by rw [Zl]; omega) (by simp) (fun x hx => ?_) (by simp) (fun x hx => ?_)
    · obtain ⟨y, hy, rfl⟩ := List.mem_map.1 hx; exact (hall y hy).1
    · obtain ⟨y, hy, rfl⟩ := List.mem_map.1 hx; exact (hall y hy).2
  · rw [rd_67 e]
    obtain ⟨h1, h2⟩ := Zo5 l.parts tp ip s ho hl
    have h67 : l.parts.length ≤ 8 := by rcases e with e | e; have := hk.2.2.2.1 e; omega; have := hk.2.2.1 e; omega
    exact Yf4 (by simp) (by omega) (by simp) (by simp) (by simp) h2
  · rw [rd_8 e]
    obtain ⟨o2, d2⟩ := Ja 2 ho
    split
    · exact Yf4 (by simp) (by simp) (by simp) (fun x hx => by simp only [Zm] at hx; subst hx; exact Zi0 o2 (by rw [d2]; exact hl)) (by simp) (by simp)
    · exact Yj6 _
  · rw [rd_9 e]
    have := Jf Zf5 (Ye s).1 (Ye s).2
    refine Yf4 (by simp) (by simp) (by omega) (by simp) (fun x hx => ?_) (by simp)
    exact Zb9 Zx8 (p := fun x : En => x.clock.length ≤ 9223372036854775807 ∧ x.name.size ≤ 9223372036854775807) (fun s h hl => by
     obtain ⟨o2, l2, n2⟩ := count_okV h hl
     have hlen := Jf rdTick (Ye s).1 (Ye s).2
     obtain ⟨o3, d3⟩ := Zf2 Zv8 (Ye s).1 (Ye s).2 o2
     exact ⟨show (Xk rdTick (Ye s).1 (Ye s).2).1.length ≤ _ by omega, Zi0 (s := (Yl6 s).2) o3 (by show (Xk rdTick (Ye s).1 (Ye s).2).2.data.length ≤ _; rw [d3]; exact l2)⟩) _ _ co cl x hx
theorem Yj4 (e : Int) : Wk (.tup [.agg nilV, .v (.int .i64 e)]) (.tup [.agg (vaX Ub), .v (.int .i64 e)]) := by
 rw [show vaX Ub = [.v (.int .i64 0), .sl 1 [], .sl 4 [], .sl 2 []] by rw [Y5]; rfl]
 exact wk_tup (Wn (Zj7 X7 X7 X7) (Wn (W7 _) Yj5))
variable (G : Nat → D) (hG : ∀ g, low 0 (G g))
include hG
attribute [local go_sem] Z4 Z8 Z9 Za Z3 Z5 Z0 Z1 Z6
attribute [local go_sem ↓] reduceIte
theorem decode_w (l : Lat) (hsm : Sm l) (b : List UInt8) (hb : b.length ≤ 1000000) (hR0 : WfL l → ReadD G l) (h : List Ob) : Does Zb G 49 h [.agg (latX l), .sl 1 (byD b)] (fun h' r => h' = h ∧ r = .tup [.agg (vaX (Zn1 l b).1), .v (.int .i64 (Zn1 l b).2)]) := by
 refine Y9 G hG (by simp only [lowL, low]; exact ⟨Yp _ l, Ze0 _ b, trivial⟩) (by simp only [lowL, low]; exact ⟨Yb _ _, trivial, trivial⟩) ?_ h
 clear h
 have hck := Zh5 G hG l hsm
 simp only [Y4 l] at hck
 apply Does.weak
 refine Y6 Tryz.func49 rfl (Z2 rfl) hG fun hl0 _ => ?_
 simp only [Tryz.ntmps49]
 by_cases hc : chkE l = 0
 rotate_left
 · have hR : Zn1 l b = (Ub, 1) := by unfold Zn1; rw [if_pos hc]
   rw [hR]
   have F : _ ∧ _ := ⟨Y4 l, hc⟩
   repeat' first
    | refine g0 ?_
    | (with_reducible refine Y7 ?_; refine gc rfl rfl rfl Uy (hck _) ?_)
   exact ⟨.inr rfl, endD (ds := [.agg nilV, .v (.int .i64 1)]) (r := .tup [.agg nilV, .v (.int .i64 1)]) hl0 (by simp only [resD, Tryz.results49, go_sem, ↓reduceIte, Z0, Z3, Z1]; try rfl) (by simp) (by simp) (by simp [outD, cvD, cv1, nilV]) (by simp [low, lowL, nilV]) ⟨_, ⟨rfl, rfl⟩, Yj4 1⟩⟩
 rw [hc] at hck
 have hwf := Ut hc
 have hvs := read_smV _ l (Ze _) hwf ⟨b, 0, 0, 0⟩ (new_ok b) hb
 obtain ⟨hto, htd⟩ := (tks_read _ l (Ze _) hwf).ok ⟨b, 0, 0, 0⟩ (new_ok b)
 have hrd := fun (h : List Ob) (q : h[2]? = some (X3 ⟨b, 0, 0, 0⟩)) => (hR0 hwf).at hG (new_ok b) hb q
 have hnw := newReader_d G hG b (by omega)
 have hR : Zn1 l b = if (Xp l ⟨b, 0, 0, 0⟩).2.ends ≠ 0 ∨ Ya l (Xp l ⟨b, 0, 0, 0⟩).1 = false then (Ub, 2) else ((Xp l ⟨b, 0, 0, 0⟩).1, 0) := by unfold Zn1; rw [if_neg (fun h => h hc)]
 generalize Xp l ⟨b, 0, 0, 0⟩ = y at *
 obtain ⟨v, t⟩ := y
 simp only at hvs hto htd hrd hR
 have hen := fun (h : List Ob) (q : h[2]? = some (X3 t)) => rEnd_d G hG 2 t h q hto (by rw [htd]; show b.length ≤ _; omega)
 have hel := Yd5 G hG _ l v (Ze _) hwf hsm hvs
 simp only [Y4 l, Y5 v] at hrd hel
 generalize t.ends = te at *
 by_cases he : te = 0
 rotate_left
 · rw [if_pos (.inl he)] at hR
   rw [hR]
   have F : _ ∧ _ := ⟨Y4 l, he⟩
   repeat' first
    | refine g0 ?_
    | (with_reducible refine Y7 ?_; first | refine gc rfl rfl rfl Uy (hck _) ?_ | refine gc rfl rfl rfl ent_105 (hnw _) ?_ | refine gc rfl rfl rfl ent_106 (hrd _ (by first | rfl | (simp; done))) ?_ | refine gc rfl rfl rfl ent_107 (hen _ (by first | rfl | (simp; done))) ?_)
   exact ⟨.inr rfl, endD (ds := [.agg nilV, .v (.int .i64 2)]) (r := .tup [.agg nilV, .v (.int .i64 2)]) hl0 (by simp only [resD, Tryz.results49, go_sem, ↓reduceIte, Z0, Z3, Z1]; try rfl) (by simp) (by simp) (by simp [outD, cvD, cv1, nilV]) (by simp [low, lowL, nilV]) ⟨_, ⟨rfl, rfl⟩, Yj4 2⟩⟩
 subst he
 cases hel2 : Ya l v <;> rw [hel2] at hel
 · rw [if_pos (.inr hel2)] at hR
   rw [hR]
   have F := Y4 l
   repeat' first
    | refine g0 ?_
    | (with_reducible refine Y7 ?_; first | refine gc rfl rfl rfl Uy (hck _) ?_ | refine gc rfl rfl rfl ent_105 (hnw _) ?_ | refine gc rfl rfl rfl ent_106 (hrd _ (by first | rfl | (simp; done))) ?_ | refine gc rfl rfl rfl ent_107 (hen _ (by first | rfl | (simp; done))) ?_ | refine gc rfl rfl rfl Zq9 (hel _) ?_)
   exact ⟨.inr rfl, endD (ds := [.agg nilV, .v (.int .i64 2)]) (r := .tup [.agg nilV, .v (.int .i64 2)]) hl0 (by simp only [resD, Tryz.results49, go_sem, ↓reduceIte, Z0, Z3, Z1]; try rfl) (by simp) (by simp) (by simp [outD, cvD, cv1, nilV]) (by simp [low, lowL, nilV]) ⟨_, ⟨rfl, rfl⟩, Yj4 2⟩⟩
 · rw [if_neg (by rw [hel2]; simp)] at hR
   rw [hR]
   have F := Y4 l
   repeat' first
    | refine g0 ?_
    | (with_reducible refine Y7 ?_; first | refine gc rfl rfl rfl Uy (hck _) ?_ | refine gc rfl rfl rfl ent_105 (hnw _) ?_ | refine gc rfl rfl rfl ent_106 (hrd _ (by first | rfl | (simp; done))) ?_ | refine gc rfl rfl rfl ent_107 (hen _ (by first | rfl | (simp; done))) ?_ | refine gc rfl rfl rfl Zq9 (hel _) ?_)
   refine ⟨.inr rfl, endD (ds := [.agg [.v (.int .i64 v.n), .sl 1 (v.names.map strX), .sl 4 (v.parts.map vaX), .sl 2 (v.entries.map enX)], .v (.int .i64 0)]) (r := .tup [.agg (vaX v), .v (.int .i64 0)]) hl0 (by simp only [resD, Tryz.results49, go_sem, ↓reduceIte, Z0, Z3, Z1]; try rfl) (by simp) (by simp) ?_ (by simp only [lowL, low]; exact ⟨Yb _ _, trivial, trivial⟩) ⟨_, ⟨rfl, rfl⟩, W7 _⟩⟩
   rw [Y5 v]; simp [outD, cvD, cv1]
theorem Yh7 (l : Lat) (hsm : Sm l) (v : Val) (hv : VSm v) (h : List Ob) : Does Zb G 84 h [.agg (latX l), .agg (vaX v)] (fun h' r => h' = h ∧ r = .v (.bool (Yh8 l v))) := by
 refine Y9 G hG (by simp only [lowL, low]; exact ⟨Yp _ l, Yb _ v, trivial⟩) (by rw [low]; trivial) ?_ h
 clear h
 have hck := Zh5 G hG l hsm
 simp only [Y4 l] at hck
 unfold Yh8
 refine Y6 Tryz.func84 rfl (Z2 rfl) hG fun hl0 _ => ?_
 simp only [Tryz.ntmps84]
 by_cases hc : chkE l = 0
 rotate_left
 · rw [decide_eq_false hc, Bool.false_and]
   have F : _ ∧ _ ∧ _ := ⟨Y4 l, Y5 v, hc⟩
   repeat' first
    | (with_reducible refine Yc ?_; refine Y8 mixd (by kernel_rfl) ?_)
    | refine g0 ?_
    | (with_reducible refine X6 ?_; refine aq2 rfl rfl rfl Uy (hck _) ?_)
   exact ⟨.inr rfl, endV hl0 rfl rfl ⟨rfl, rfl⟩⟩
 rw [hc] at hck
 have hbo := Yq6 G hG _ l (Ze _) (Ut hc)
 have heq := Zq8 G hG v (botV l) hv (Yj7 _ l (Ze _) hsm)
 simp only [Y4 l] at hbo
 simp only [Y5 v] at heq
 rw [decide_eq_true hc, Bool.true_and]
 generalize decide (valC v (botV l) = 0) = bb at *
 have F : _ ∧ _ := ⟨Y4 l, Y5 v⟩
 repeat' first
  | (with_reducible refine Yc ?_; refine Y8 mixd (by kernel_rfl) ?_)
  | refine g0 ?_
  | (with_reducible refine X6 ?_; first | refine aq2 rfl rfl rfl Uy (hck _) ?_ | refine aq2 rfl rfl rfl Yd2 (hbo _) ?_ | refine aq2 rfl rfl rfl Zc7 (heq _) ?_)
 exact ⟨.inr rfl, endV hl0 rfl rfl ⟨rfl, rfl⟩⟩
end
section
theorem Zt5 (a b : Int) : (cmpI a b = -1 ∧ a < b) ∨ (cmpI a b = 1 ∧ b < a) ∨ (cmpI a b = 0 ∧ a = b) := by
 unfold cmpI
 by_cases h : a < b
 · simp [h]
 · by_cases h' : b < a
   · simp [h, h']
   · simp [h, h']; omega
def Tri (x y z : Int) : Prop := x ≤ 0 → y ≤ 0 → z ≤ 0 ∧ (z = 0 ↔ x = 0 ∧ y = 0)
theorem Tri.or {x1 y1 z1 x2 y2 z2 : Int} (h1 : Tri x1 y1 z1) (h2 : Tri x2 y2 z2) : Tri (if x1 ≠ 0 then x1 else x2) (if y1 ≠ 0 then y1 else y2) (if z1 ≠ 0 then z1 else z2) := by
 intro hx hy
 have a : x1 ≤ 0 := by split at hx <;> omega
 have b : y1 ≤ 0 := by split at hy <;> omega
 obtain ⟨c, d⟩ := h1 a b
 by_cases z0 : z1 = 0
 · obtain ⟨x0, y0⟩ := d.1 z0
   rw [if_neg (fun h => h x0)] at hx
   rw [if_neg (fun h => h y0)] at hy
   rw [if_neg (fun h => h z0), if_neg (fun h => h x0), if_neg (fun h => h y0)]
   exact h2 hx hy
 · rw [if_pos z0]
   refine ⟨c, fun h => absurd h z0, fun ⟨p, q⟩ => absurd (d.2 ⟨?_, ?_⟩) z0⟩
   · split at p <;> omega
   · split at q <;> omega
theorem Zs6 {x1 y1 x2 y2 : Int} (h1 : y1 = -x1) (h2 : y2 = -x2) : (if y1 ≠ 0 then y1 else y2) = -(if x1 ≠ 0 then x1 else x2) := by
 subst h1 h2
 by_cases a : x1 = 0
 · simp [a]
 · rw [if_pos a, if_pos (by omega)]
theorem Zs5 {x y : Int} : (if x ≠ 0 then x else y) = 0 ↔ x = 0 ∧ y = 0 := by
 by_cases a : x = 0
 · simp [a]
 · simp [a]
theorem Yd9 (a b : Int) : cmpI b a = -cmpI a b := by unfold cmpI; split <;> split <;> omega
theorem Yq1 (a b c : Int) : Tri (cmpI a b) (cmpI b c) (cmpI a c) := by
 unfold Tri
 rcases Zt5 a b with ⟨h1, h2⟩ | ⟨h1, h2⟩ | ⟨h1, h2⟩ <;> rcases Zt5 b c with ⟨h3, h4⟩ | ⟨h3, h4⟩ | ⟨h3, h4⟩ <;> rcases Zt5 a c with ⟨h5, h6⟩ | ⟨h5, h6⟩ | ⟨h5, h6⟩ <;> omega
theorem Yd8 (a b : Int) : cmpI a b = 0 ↔ a = b := by unfold cmpI; split <;> (try split) <;> omega
theorem bl_eq : ∀ (x y : List UInt8), Op.bytesLess x y = decide (x < y)
 | [], [] => by simp [Op.bytesLess]
 | _ :: _, [] => by simp [Op.bytesLess]
 | [], _ :: _ => by simp [Op.bytesLess]
 | a :: x, b :: y => by
   rw [Op.bytesLess, bl_eq x y]
   simp only [List.cons_lt_cons_iff]
   by_cases h1 : a < b <;> by_cases h2 : a = b <;> by_cases h3 : x < y <;> simp [h1, h2, h3]
theorem strLt_eq (a b : ByteArray) : J2 a b = decide (a.data.toList < b.data.toList) := by
 unfold J2
 rw [bl_eq, Lib.toList_data, Lib.toList_data]
theorem Zl1 (a b : ByteArray) : strC a b = if a.data.toList < b.data.toList then -1 else if a.data.toList = b.data.toList then 0 else 1 := by
 have e : (a = b) = (a.data.toList = b.data.toList) := propext ⟨fun h => by rw [h], fun h => by cases a; cases b; simpa [Array.toList_inj] using h⟩
 unfold strC
 rw [strLt_eq]
 simp only [decide_eq_true_eq, e]
theorem strC_zero (a b : ByteArray) : strC a b = 0 ↔ a = b := by
 rw [Zl1]
 constructor
 · intro h
   by_cases h1 : a.data.toList < b.data.toList
   · rw [if_pos h1] at h; omega
   · rw [if_neg h1] at h
     by_cases h2 : a.data.toList = b.data.toList
     · exact ByteArray.ext (Array.toList_inj.1 h2)
     · rw [if_neg h2] at h; omega
 · rintro rfl
   rw [if_neg (Zo _), if_pos rfl]
theorem strC_anti (a b : ByteArray) : strC b a = -strC a b := by
 rw [Zl1, Zl1]
 by_cases h : a.data.toList < b.data.toList
 · rw [if_pos h, if_neg (List.lt_asymm h), if_neg (fun e => Zo _ (e ▸ h))]; rfl
 · rw [if_neg h]
   by_cases h2 : a.data.toList = b.data.toList
   · rw [if_pos h2, if_neg (fun h => Zo _ (h2 ▸ h)), if_pos h2.symm]; rfl
   · have : b.data.toList < a.data.toList := Decidable.byContradiction fun h' => h2 (List.le_antisymm (List.not_lt.1 h') (List.not_lt.1 h))
     rw [if_pos this, if_neg h2]
theorem strC_tri (a b c : ByteArray) : Tri (strC a b) (strC b c) (strC a c) := by
 intro h1 h2
 rw [Zl1] at h1 h2
 have l1 : a.data.toList < b.data.toList ∨ a.data.toList = b.data.toList := by
  by_cases h : a.data.toList < b.data.toList
  · exact .inl h
  · rw [if_neg h] at h1
    by_cases h' : a.data.toList = b.data.toList
    · exact .inr h'
    · rw [if_neg h'] at h1; omega
 have l2 : b.data.toList < c.data.toList ∨ b.data.toList = c.data.toList := by
  by_cases h : b.data.toList < c.data.toList
  · exact .inl h
  · rw [if_neg h] at h2
    by_cases h' : b.data.toList = c.data.toList
    · exact .inr h'
    · rw [if_neg h'] at h2; omega
 rw [Zl1 a c, Zl1 a b, Zl1 b c]
 rcases l1 with l1 | l1 <;> rcases l2 with l2 | l2
 · have := List.lt_trans l1 l2
   rw [if_pos this, if_pos l1, if_pos l2]
   omega
 · rw [← l2, if_pos l1]
   omega
 · rw [l1, if_pos l2]
   omega
 · rw [← l2, ← l1, if_neg (Zo _), if_pos rfl]
   omega
theorem Zg4 {α : Type} (c : α → α → Int) : ∀ (a b : List α), (∀ x ∈ a, ∀ y, c y x = -c x y) → lexC c b a = -lexC c a b
 | [], [], _ => rfl
 | [], _ :: _, _ => rfl
 | _ :: _, [], _ => rfl
 | x :: s, y :: t, h => by
   rw [lexC, lexC]
   exact Zs6 (h x (by simp) y) (Zg4 c s t fun z hz => h z (by simp [hz]))
theorem Zp6 {α : Type} (c : α → α → Int) : ∀ (a b d : List α), (∀ x ∈ a, ∀ y z, Tri (c x y) (c y z) (c x z)) → Tri (lexC c a b) (lexC c b d) (lexC c a d)
 | [], [], [], _ => by intro _ _; simp [lexC]
 | [], [], _ :: _, _ => by intro _ _; simp [lexC]
 | [], _ :: _, [], _ => by intro _ h; simp [lexC] at h
 | [], _ :: _, _ :: _, _ => by intro _ _; simp [lexC]
 | _ :: _, [], _, _ => by intro h; simp [lexC] at h
 | _ :: _, _ :: _, [], _ => by intro _ h; simp [lexC] at h
 | x :: s, y :: t, z :: u, h => by
   rw [lexC, lexC, lexC]
   exact (h x (by simp) y z).or (Zp6 c s t u fun w hw => h w (by simp [hw]))
theorem Zg3 {α : Type} (c : α → α → Int) : ∀ (a b : List α), (∀ x ∈ a, ∀ y, c x y = 0 ↔ x = y) → (lexC c a b = 0 ↔ a = b)
 | [], [], _ => by simp [lexC]
 | [], _ :: _, _ => by simp [lexC]
 | _ :: _, [], _ => by simp [lexC]
 | x :: s, y :: t, h => by
   rw [lexC, Zs5, h x (by simp) y, Zg3 c s t fun z hz => h z (by simp [hz]), List.cons.injEq]
theorem Zd9 (x y : Int) : orI [x, y] = if x ≠ 0 then x else y := by
 unfold orI orI orI
 by_cases h : x = 0
 · simp [h]; intro h; exact h.symm
 · simp [h]
theorem tickC_anti (a b : Tk) : U1 b a = -U1 a b := by
 unfold U1; rw [Zd9, Zd9]; exact Zs6 (Yd9 _ _) (Yd9 _ _)
theorem tickC_tri (a b c : Tk) : Tri (U1 a b) (U1 b c) (U1 a c) := by
 unfold U1; rw [Zd9, Zd9, Zd9]; exact (Yq1 _ _ _).or (Yq1 _ _ _)
theorem tickC_zero (a b : Tk) : U1 a b = 0 ↔ a = b := by
 unfold U1; rw [Zd9, Zs5, Yd8, Yd8]
 cases a; cases b; simp
theorem Yd4 (a b : En) : entC b a = -entC a b := by
 unfold entC; rw [Zd9, Zd9]; exact Zs6 (strC_anti _ _) (Zg4 _ _ _ fun x _ y => tickC_anti x y)
theorem entC_tri (a b c : En) : Tri (entC a b) (entC b c) (entC a c) := by
 unfold entC; rw [Zd9, Zd9, Zd9]; exact (strC_tri _ _ _).or (Zp6 _ _ _ _ fun x _ y z => tickC_tri x y z)
theorem Vn (a b : En) : entC a b = 0 ↔ a = b := by
 unfold entC; rw [Zd9, Zs5, strC_zero, Zg3 _ _ _ fun x _ y => tickC_zero x y]
 cases a; cases b; simp [and_comm]
theorem Ze7 {v p : Val} (h : p ∈ v.parts) : SizeOf.sizeOf p < SizeOf.sizeOf v := by
 cases v
 have := List.sizeOf_lt_of_mem h
 simp only [Val.parts] at this
 simp only [Val.mk.sizeOf_spec]
 omega
theorem Vm (a b : Val) : valC b a = -valC a b := by
 rw [Ze3 a b, Ze3 b a]
 refine Zs6 (Yd9 _ _) (Zs6 (Zg4 _ _ _ fun x _ y => strC_anti x y) (Zs6 (Zg4 _ _ _ fun x hx y => ?_) (Zg4 _ _ _ fun x _ y => Yd4 x y)))
 have := Ze7 hx
 exact Vm x y
 termination_by SizeOf.sizeOf a
theorem Zv4 (a b c : Val) : Tri (valC a b) (valC b c) (valC a c) := by
 rw [Ze3 a b, Ze3 b c, Ze3 a c]
 refine (Yq1 _ _ _).or ((Zp6 _ _ _ _ fun x _ y z => strC_tri x y z).or ((Zp6 _ _ _ _ fun x hx y z => ?_).or (Zp6 _ _ _ _ fun x _ y z => entC_tri x y z)))
 have := Ze7 hx
 exact Zv4 x y z
 termination_by SizeOf.sizeOf a
theorem Xd (a b : Val) : valC a b = 0 ↔ a = b := by
 rw [Ze3 a b, Zs5, Zs5, Zs5, Yd8, Zg3 _ _ _ fun x _ y => strC_zero x y, Zg3 valC a.parts b.parts fun x hx y => by
   have := Ze7 hx
   exact Xd x y, Zg3 _ _ _ fun x _ y => Vn x y]
 cases a; cases b; simp [Val.n, Val.names, Val.parts, Val.entries]
 termination_by SizeOf.sizeOf a
theorem valC_self (a : Val) : valC a a = 0 := (Xd a a).2 rfl
end
section

end
section
attribute [local irreducible] on aOp
attribute [local go_sem] decide_true decide_false Zc Z7
attribute [local simp] byD_len
theorem Yn1 {only list : List ByteArray} (h : Yf only list = true) : ∀ s ∈ list, s.size ≤ 16 := fun s hs => (name_le (Yq9 h s hs)).2
variable (G : Nat → D) (hG : ∀ g, low 0 (G g))
include hG
attribute [local go_sem] Z4 Z8 Z9 Za Z3 Z5 Z0 Z1 Z6
attribute [local go_sem ↓] reduceIte
theorem encode_w (l : Lat) (hsm : Sm l) (v : Val) (hv : VSm v) (hc : chkE l = 0) (he : Ya l v = true) (hb : (putV l v).length ≤ 1000000) (hW : WriteD G l v) (h : List Ob) : Does Zb G 47 h [.agg (latX l), .agg (vaX v)] (fun h' r => h' = h ∧ r = .tup [.sl 1 (byD (putV l v)), .v (.int .i64 0)]) := by
 refine Y9 G hG (by simp only [lowL, low]; exact ⟨Yp _ l, Yb _ v, trivial⟩) (by rw [low, lowL, lowL, lowL, low]; exact ⟨Ze0 _ _, trivial, trivial⟩) ?_ h
 clear h
 have hck := Zh5 G hG l hsm
 rw [hc] at hck
 have hel := Yd5 G hG _ l v (Ze _) (Ut hc) hsm hv
 rw [he] at hel
 have hw := hW [] (by simpa using hb)
 rw [Zd] at hw
 have hlp : low 0 (.agg (latX l)) := by rw [low]; exact Yp _ l
 have hlx : low 0 (.agg (vaX v)) := by rw [low]; exact Yb _ v
 have hwd := wData_d G hG (putV l v) (by omega)
 generalize putV l v = X at *
 simp only [Y4 l, Y5 v] at hck hel hw hlp hlx
 refine Y6 Tryz.func47 rfl (Z2 rfl) hG fun hl0 _ => ?_
 simp only [Tryz.ntmps47]
 have F : _ ∧ _ := ⟨Y4 l, Y5 v⟩
 repeat' first
  | (with_reducible refine Y7 ?_; (refine ao_nilcell 5 1 2 [] [] rfl ?_))
  | refine g0 ?_
  | (with_reducible refine Y7 ?_; first | refine gc rfl rfl rfl Uy (hck _) ?_ | refine gc rfl rfl rfl Zq9 (hel _) ?_ | refine gc rfl rfl rfl ent_99 (w_at G hG (by rw [lowL, lowL, lowL]; exact ⟨hlp, hlx, trivial⟩) (by simp [low, lowL]) hw (i := 2) (j := 3) rfl rfl) ?_ | refine gc rfl rfl rfl ent_100 (w_at G hG (by rw [lowL]; trivial) (Ze0 _ _) hwd (i := 2) (j := 3) rfl rfl) ?_)
 exact ⟨.inr rfl, endD (ds := [.sl 1 (byD X), .v (.int .i64 0)]) (r := .tup [.sl 1 (byD X), .v (.int .i64 0)]) hl0 rfl (by simp) (by simp) rfl (by rw [low, lowL, lowL, lowL, low]; exact ⟨Ze0 _ _, trivial, trivial⟩) ⟨rfl, rfl⟩⟩
theorem valid_v (l : Lat) (hsm : Sm l) (v : Val) (hv : VSm v) (h : List Ob) : Does Zb G 80 h [.agg (latX l), .agg (vaX v)] (fun h' r => h' = h ∧ r = .v (.bool (Zt8 l v))) := by
 refine Y9 G hG (by simp only [lowL, low]; exact ⟨Yp _ l, Yb _ v, trivial⟩) (by rw [low]; trivial) ?_ h
 clear h
 have hck := Zh5 G hG l hsm
 simp only [Y4 l] at hck
 unfold Zt8
 refine Y6 Tryz.func80 rfl (Z2 rfl) hG fun hl0 _ => ?_
 simp only [Tryz.ntmps80]
 by_cases hc : chkE l = 0
 rotate_left
 · rw [decide_eq_false hc, Bool.false_and]
   have F : _ ∧ _ ∧ _ := ⟨Y4 l, Y5 v, hc⟩
   repeat' first
    | refine g0 ?_
    | (with_reducible refine Y7 ?_; refine gc rfl rfl rfl Uy (hck _) ?_)
   exact ⟨.inr rfl, endV hl0 rfl rfl ⟨rfl, rfl⟩⟩
 rw [hc] at hck
 have hel := Yd5 G hG _ l v (Ze _) (Ut hc) hsm hv
 simp only [Y4 l, Y5 v] at hel
 rw [decide_eq_true hc, Bool.true_and]
 generalize Ya l v = bb at *
 have F : _ ∧ _ := ⟨Y4 l, Y5 v⟩
 repeat' first
  | refine g0 ?_
  | (with_reducible refine Y7 ?_; first | refine gc rfl rfl rfl Uy (hck _) ?_ | refine gc rfl rfl rfl Zq9 (hel _) ?_)
 exact ⟨.inr rfl, endV hl0 rfl rfl ⟨rfl, rfl⟩⟩
end
end Go.Proofs.YtbhkcbidcfofiaaGreat
