/-
  What the statements of the chapter share, part 20: RR2, RR3, RR4, RR5, CM1, RB1, CY, RB2, AL3.
-/
import Derived.Test.YtgkjcmglcnhpaaaGreatDoorG13
import Derived.Test.YtgkjcmglcnhpaaaGreatDoorG16
import Derived.Test.YtgkjcmglcnhpaaaGreatDoorG19
set_option linter.unusedVariables false
set_option linter.unusedSimpArgs false
set_option maxRecDepth 100000
set_option maxHeartbeats 8000000
namespace Go.Proofs.YtgkjcmglcnhpaaaGreatDoor
open Go.RowKit
section
set_option maxRecDepth 100000
set_option maxHeartbeats 1000000
attribute [local irreducible] on aOp
attribute [local go_sem] decide_true decide_false Bool.not_true Bool.not_false
attribute [local simp] byD_len
variable (G : Nat → D) (hG : ∀ g, low 0 (G g))
include hG
theorem rNum_e {s : RS} {d : D} (q : s.rawN = d) {i : Nat} {h : List Ob} (hi : h[i]? = some (rdrOb s)) (ho : s.Ok) (hl : s.data.length ≤ 1000000000) :
 Does Tryz.prog G 83 h [.ptr i 0] (fun h' r => h' = h ∧ r = d) := q ▸ rNum_d G hG i s h hi ho hl
theorem rBegin_d (i : Nat) (s : RS) (h : List Ob) (hi : h[i]? = some (rdrOb s)) :
 Does Tryz.prog G 82 h [.ptr i 0] (fun h' r => h' = h.set i (rdrOb (if s.err = 0 then s.begun else s)) ∧ r = .v (.bool (decide (s.err = 0)))) := by
 have hil := (List.getElem?_eq_some_iff.1 hi).1
 have hi0 := hi
 rw [rdrOb_eq] at hi
 obtain ⟨g1, g2, g3, g4, g5⟩ := own_get hi
 refine does_of_aw Tryz.func82 rfl (Nat.le_of_ble_eq_true rfl) hG fun hl0 _ => ?_
 simp only [Tryz.ntmps82]
 by_cases hb : s.err = 0
 · rw [if_pos hb, decide_eq_true hb]
   rw [hb] at hi
   repeat' first
    | (with_reducible refine gd_aw ?_; first
     | refine aw_seq' ?_
     | refine aw_region' ?_
     | refine aw_if0 rfl ?_
     | refine aw_skip ?_
     | refine aw_ret ?_)
    | (with_reducible refine gd_ao ?_; first
     | refine ao_nil ?_
     | (refine ao1 rfl rfl fun K HK => ?_; simp only [go_sem, ↓reduceIte, Nat.reduceEqDiff, Nat.reduceAdd, Nat.reduceLeDiff, Nat.reduceBEq, Nat.reduceMul, Int.reduceEq, Int.reduceLT, Int.reduceLE, hi, g1] <;> (refine HK _ _ ?_; clear HK K))
     | (refine ao1' rfl fun K HK => ?_; simp only [go_sem, ↓reduceIte, Nat.reduceEqDiff, Nat.reduceAdd, Nat.reduceLeDiff, Nat.reduceBEq, Nat.reduceMul, Int.reduceEq, Int.reduceLT, Int.reduceLE, hi, g1]; refine HK _ _ ?_; clear HK K))
    | (with_reducible refine gd_th ?_; first
     | refine thenS_n ?_)
   exact ⟨.inr rfl, endS (i := i) (ob := rdrOb s.begun) (r := .v (.bool true)) hl0 (low_rdr _ _) rfl (by simp [rdrOb, RS.begun, hb, putL_succ, putL_zero, take_set]) (by simp) rfl (by rw [low]; trivial) ⟨rfl, rfl⟩⟩
 · rw [if_neg hb, decide_eq_false hb]
   repeat' first
    | (with_reducible refine gd_aw ?_; first
     | refine aw_seq' ?_
     | refine aw_region' ?_
     | refine aw_if1 rfl ?_
     | refine aw_ret ?_)
    | (with_reducible refine gd_ao ?_; first
     | refine ao_nil ?_
     | (refine ao1 rfl rfl fun K HK => ?_; simp only [go_sem, ↓reduceIte, Nat.reduceEqDiff, Nat.reduceAdd, Nat.reduceLeDiff, Nat.reduceBEq, Nat.reduceMul, Int.reduceEq, Int.reduceLT, Int.reduceLE, hi, g1, hb] <;> (refine HK _ _ ?_; clear HK K)))
    | (with_reducible refine gd_th ?_; first
     | refine thenS_n ?_
     | refine thenS_r ?_)
   exact ⟨.inr rfl, endS (i := i) (ob := rdrOb s) (r := .v (.bool false)) hl0 (low_rdr _ _) rfl (by simp [set_same hi0]) (by simp) rfl (by rw [low]; trivial) ⟨rfl, rfl⟩⟩
theorem rBegin_ok {i : Nat} {s : RS} {h : List Ob} (hb : s.err = 0) (hi : h[i]? = some (rdrOb s)) :
 Does Tryz.prog G 82 h [.ptr i 0] (fun h' r => h' = h.set i (rdrOb s.begun) ∧ r = .v (.bool true)) := by
 have := rBegin_d G hG i s h hi
 rwa [if_pos hb, decide_eq_true hb] at this
theorem rBegin_h {i : Nat} {s : RS} {h h1 : List Ob} (q : h.set i (rdrOb s.begun) = h1) (hb : s.err = 0) (hi : h[i]? = some (rdrOb s)) :
 Does Tryz.prog G 82 h [.ptr i 0] (fun h' r => h' = h1 ∧ r = .v (.bool true)) := q ▸ rBegin_ok G hG hb hi
theorem rBegin_no {i : Nat} {s : RS} {h : List Ob} (hb : ¬ s.err = 0) (hi : h[i]? = some (rdrOb s)) :
 Does Tryz.prog G 82 h [.ptr i 0] (fun h' r => h' = h ∧ r = .v (.bool false)) := by
 have := rBegin_d G hG i s h hi
 rw [if_neg hb, decide_eq_false hb, set_same hi] at this
 exact this
theorem rUint_d (i : Nat) (s : RS) (h : List Ob) (hi : h[i]? = some (rdrOb s)) (ho : s.Ok) (hl : s.data.length ≤ 1000000000) :
 Does Tryz.prog G 81 h [.ptr i 0] (fun h' r => h' = h.set i (rdrOb (rdUint s).2) ∧ r = .v (.int .u64 (rdUint s).1)) := by
 have hil := (List.getElem?_eq_some_iff.1 hi).1
 have g1 := fun ob => List.getElem?_set_self (a := ob) hil
 refine does_of_aw Tryz.func81 rfl (Nat.le_of_ble_eq_true rfl) hG fun hl0 _ => ?_
 simp only [Tryz.ntmps81]
 by_cases hb : s.err = 0
 rotate_left
 · skip
   repeat' first
    | (with_reducible refine gd_aw ?_; first
     | refine aw_seq' ?_
     | refine aw_region' ?_
     | refine aw_if1 rfl ?_
     | refine aw_ret ?_)
    | (with_reducible refine gd_ao ?_; first
     | refine ao_nil ?_
     | (refine ao1 rfl rfl fun K HK => ?_; simp only [go_sem, ↓reduceIte, Nat.reduceEqDiff, Nat.reduceAdd, Nat.reduceLeDiff, Nat.reduceBEq, Nat.reduceMul, Int.reduceEq, Int.reduceLT, Int.reduceLE, g1] <;> (refine HK _ _ ?_; clear HK K))
     | (refine ao2 rfl rfl rfl ent_82 (rBegin_no G hG hb hi) ?_; rintro _ _ ⟨rfl, rfl⟩))
    | (with_reducible refine gd_th ?_; first
     | refine thenS_n ?_
     | refine thenS_r ?_)
   have hR : rdUint s = (0, s) := by unfold rdUint; rw [if_pos hb]
   exact ⟨by simp, endS (i := i) (ob := rdrOb s) (r := .v (.int .u64 (0 : Int))) hl0 (low_rdr _ _) rfl (by simp [set_same hi]) (by simp) rfl (by rw [low]; trivial) ⟨by rw [hR], by rw [hR]; rfl⟩⟩
 have hO : s.begun.Ok := ⟨ho.pos, Nat.le_refl _, ho.err⟩
 obtain ⟨h1, hh⟩ : ∃ h1, h.set i (rdrOb s.begun) = h1 := ⟨_, rfl⟩
 have hB : h1[i]? = some (rdrOb s.begun) := hh ▸ g1 _
 have hS : ∀ x, h1.set i x = h.set i x := fun x => by rw [← hh, List.set_set]
 have hT : ∀ x, (h1.set i x).take h.length = h.set i x := fun x => by rw [hS]; exact take_set
 have hL : h1.length = h.length := by rw [← hh, List.length_set]
 have hB2 := hB
 rw [rdrOb_eq] at hB2
 obtain ⟨k1, k2, k3, k4, k5⟩ := own_get hB2
 rcases hN : s.num with _ | ⟨m, c⟩
 · obtain ⟨a, b, hr⟩ := rawN_none (s := s.begun) hN
   repeat' first
    | (with_reducible refine gd_aw ?_; first
     | refine aw_seq' ?_
     | refine aw_region' ?_
     | refine aw_if1 rfl ?_
     | refine aw_if0 rfl ?_
     | refine aw_skip ?_
     | refine aw_ret ?_)
    | (with_reducible refine gd_ao ?_; first
     | refine ao_nil ?_
     | (refine ao1 rfl rfl fun K HK => ?_; simp only [go_sem, ↓reduceIte, Nat.reduceEqDiff, Nat.reduceAdd, Nat.reduceLeDiff, Nat.reduceBEq, Nat.reduceMul, Int.reduceEq, Int.reduceLT, Int.reduceLE, hB2, k1] <;> (refine HK _ _ ?_; clear HK K))
     | (refine ao2 rfl rfl rfl ent_82 (rBegin_h G hG hh hb hi) ?_; rintro _ _ ⟨rfl, rfl⟩)
     | (refine ao1' rfl fun K HK => ?_; simp only [go_sem, ↓reduceIte, Nat.reduceEqDiff, Nat.reduceAdd, Nat.reduceLeDiff, Nat.reduceBEq, Nat.reduceMul, Int.reduceEq, Int.reduceLT, Int.reduceLE, hB2, k1]; refine HK _ _ ?_; clear HK K))
    | (with_reducible refine gd_th ?_; first
     | refine thenS_n ?_
     | refine thenS_r ?_)
    | ((with_reducible refine gd_ao ?_); first
     | (refine ao2 rfl rfl rfl ent_83 (rNum_e G hG hr hB hO hl) ?_; rintro _ _ ⟨rfl, rfl⟩))
   have hR : rdUint s = (0, s.bad) := by unfold rdUint; rw [if_neg (fun h => h hb), hN]
   exact ⟨by simp, endS (i := i) (ob := rdrOb s.bad) (r := .v (.int .u64 (0 : Int))) hl0 (low_rdr _ _) rfl (by simp [rdrOb, RS.bad, RS.begun, putL_succ, putL_zero, hT]) (by simp [hL]) rfl (by rw [low]; trivial) ⟨by rw [hR], by rw [hR]; rfl⟩⟩
 · have hr := rawN_some (s := s.begun) hN
   repeat' first
    | (with_reducible refine gd_aw ?_; first
     | refine aw_seq' ?_
     | refine aw_region' ?_
     | refine aw_if0 rfl ?_
     | refine aw_skip ?_
     | refine aw_ret ?_)
    | (with_reducible refine gd_ao ?_; first
     | refine ao_nil ?_
     | (refine ao1 rfl rfl fun K HK => ?_; simp only [go_sem, ↓reduceIte, Nat.reduceEqDiff, Nat.reduceAdd, Nat.reduceLeDiff, Nat.reduceBEq, Nat.reduceMul, Int.reduceEq, Int.reduceLT, Int.reduceLE, hB2, k1] <;> (refine HK _ _ ?_; clear HK K))
     | (refine ao2 rfl rfl rfl ent_82 (rBegin_h G hG hh hb hi) ?_; rintro _ _ ⟨rfl, rfl⟩)
     | (refine ao1' rfl fun K HK => ?_; simp only [go_sem, ↓reduceIte, Nat.reduceEqDiff, Nat.reduceAdd, Nat.reduceLeDiff, Nat.reduceBEq, Nat.reduceMul, Int.reduceEq, Int.reduceLT, Int.reduceLE, hB2, k1]; refine HK _ _ ?_; clear HK K))
    | (with_reducible refine gd_th ?_; first
     | refine thenS_n ?_)
    | ((with_reducible refine gd_ao ?_); first
     | (refine ao2 rfl rfl rfl ent_83 (rNum_e G hG hr hB hO hl) ?_; rintro _ _ ⟨rfl, rfl⟩))
   have hR : rdUint s = (m, s.go c) := by unfold rdUint; rw [if_neg (fun h => h hb), hN]
   exact ⟨by simp, endS (i := i) (ob := rdrOb (s.go c)) (r := .v (.int .u64 (m : Int))) hl0 (low_rdr _ _) rfl (by simp [rdrOb, RS.go, RS.begun, putL_succ, putL_zero, hT]) (by simp [hL]) rfl (by rw [low]; trivial) ⟨by rw [hR], by rw [hR]⟩⟩
theorem rLeft_d (i : Nat) (s : RS) (h : List Ob) (hi : h[i]? = some (rdrOb s)) (ho : s.Ok) (hl : s.data.length ≤ 1000000000) :
 Does Tryz.prog G 84 h [.ptr i 0] (fun h' r => h' = h ∧ r = .v (.int .i64 ((s.data.length - s.pos : Nat) : Int))) := by
 rw [rdrOb_eq] at hi
 refine does_of_aw Tryz.func84 rfl (Nat.le_of_ble_eq_true rfl) hG fun hl0 _ => ?_
 simp only [Tryz.ntmps84]
 have hp := ho.pos
 have w1 : IntKind.i64.wrap ((s.data.length : Int) - (s.pos : Int)) = ((s.data.length - s.pos : Nat) : Int) := by rw [← Int.ofNat_sub hp]; exact IntWalk.i64_in _ (by omega)
 repeat' first
  | (with_reducible refine gd_aw ?_; first
   | refine aw_seq' ?_
   | refine aw_region' ?_
   | refine aw_ret ?_
   | refine aw_draw mixd (by kernel_rfl) ?_)
  | (with_reducible refine gd_ao ?_; first
   | refine ao_nil ?_
   | (refine ao1 rfl rfl fun K HK => ?_; simp only [go_sem, ↓reduceIte, Nat.reduceEqDiff, Nat.reduceAdd, Nat.reduceLeDiff, Nat.reduceBEq, Nat.reduceMul, Int.reduceEq, Int.reduceLT, Int.reduceLE, hi, w1] <;> (refine HK _ _ ?_; clear HK K)))
  | (with_reducible refine gd_aq ?_; first
   | (refine aq1 rfl rfl fun K HK => ?_; simp only [go_sem, ↓reduceIte, Nat.reduceEqDiff, Nat.reduceAdd, Nat.reduceLeDiff, Nat.reduceBEq, Nat.reduceMul, Int.reduceEq, Int.reduceLT, Int.reduceLE, hi, w1] <;> (refine HK _ _ rfl ?_; clear HK K))
   | refine aq_nil ?_)
  | (with_reducible refine gd_th ?_; first
   | refine thenS_n ?_)
 exact ⟨.inr rfl, endD (r := .v (.int .i64 ((s.data.length - s.pos : Nat) : Int))) hl0 rfl (by simp) (by simp) rfl (by rw [low]; trivial) ⟨rfl, rfl⟩⟩
end
section
set_option maxRecDepth 100000
set_option maxHeartbeats 1000000
attribute [local irreducible] on aOp
attribute [local go_sem] decide_true decide_false Bool.not_true Bool.not_false
attribute [local simp] byD_len
theorem i64_xor_zero (a : Nat) (h : a ≤ 9223372036854775807) : bits .xor .i64 (a : Int) 0 = (a : Int) := by
 show IntKind.i64.wrap ((BitVec.ofInt 64 (a : Int) ^^^ BitVec.ofInt 64 0).toNat : Int) = _
 have e0 : BitVec.ofInt 64 0 = 0#64 := rfl
 rw [e0, BitVec.xor_zero, BitVec.ofInt_natCast, BitVec.toNat_ofNat, IntKind.wrap_i64]
 omega
theorem unzz_bits (n : Nat) (h : n < 18446744073709551616) : bits .xor .i64 ((n : Int) / 2) (-((n : Int) % 2)) = unzz n := by
 unfold unzz
 by_cases h0 : n % 2 = 0
 · rw [if_pos h0]
   have e : -((n : Int) % 2) = 0 := by omega
   rw [e]
   have e2 : (n : Int) / 2 = ((n / 2 : Nat) : Int) := by omega
   rw [e2]
   exact i64_xor_zero (n / 2) (by omega)
 · rw [if_neg h0]
   have e : -((n : Int) % 2) = -1 := by omega
   rw [e]
   have e2 : (n : Int) / 2 = ((n / 2 : Nat) : Int) := by omega
   rw [e2]
   have hc : bits .xor .i64 ((n / 2 : Nat) : Int) (-1) = bits .xor .i64 (-1) ((n / 2 : Nat) : Int) := by
    unfold bits
    simp only
    rw [BitVec.xor_comm]
   rw [hc, Lib.i64_not _ (by omega)]
theorem and_one' (m : Nat) (h : m < 18446744073709551616) : IntKind.u64.wrap ((BitVec.ofInt 64 (m : Int) &&& BitVec.ofInt 64 1).toNat : Int) = ((m : Int) % 2) := by
 have e : BitVec.ofInt 64 (m : Int) &&& BitVec.ofInt 64 1 = BitVec.ofNat 64 (m % 2) := by
  apply BitVec.eq_of_toNat_eq
  have e1 : (BitVec.ofInt 64 1).toNat = 1 := rfl
  rw [BitVec.toNat_and, BitVec.ofInt_natCast, BitVec.toNat_ofNat, e1, Nat.and_one_is_mod, BitVec.toNat_ofNat]
  omega
 rw [e, BitVec.toNat_ofNat, IntKind.wrap_u64]; omega
theorem int_val (m : Nat) (h : m < 18446744073709551616) : IntKind.i64.wrap ((BitVec.ofInt 64 (IntKind.i64.wrap ((m : Int).fdiv (2 ^ min (Int.toNat 1) 64))) ^^^ BitVec.ofInt 64 (IntKind.i64.wrap (0 - IntKind.i64.wrap (IntKind.u64.wrap ((BitVec.ofInt 64 (m : Int) &&& BitVec.ofInt 64 1).toNat : Int))))).toNat : Int) = unzz m := by
 have e1 : (m : Int).fdiv (2 ^ min (Int.toNat 1) 64) = (m : Int) / 2 := by
  rw [show (2 : Int) ^ min (Int.toNat 1) 64 = 2 by decide, Int.fdiv_eq_ediv_of_nonneg _ (by omega)]
 have w1 : IntKind.i64.wrap ((m : Int) / 2) = (m : Int) / 2 := IntWalk.i64_in _ (by omega)
 have w2 : IntKind.i64.wrap ((m : Int) % 2) = (m : Int) % 2 := IntWalk.i64_in _ (by omega)
 have w3 : IntKind.i64.wrap (0 - (m : Int) % 2) = -((m : Int) % 2) := by rw [Int.zero_sub]; exact IntWalk.i64_in _ (by omega)
 rw [e1, w1, and_one' m h, w2, w3]
 exact unzz_bits m h
variable (G : Nat → D) (hG : ∀ g, low 0 (G g))
include hG
theorem rInt_d (i : Nat) (s : RS) (h : List Ob) (hi : h[i]? = some (rdrOb s)) (ho : s.Ok) (hl : s.data.length ≤ 1000000000) :
 Does Tryz.prog G 48 h [.ptr i 0] (fun h' r => h' = h.set i (rdrOb (rdInt s).2) ∧ r = .v (.int .i64 (rdInt s).1)) := by
 have hlt := (rdUint_ok ho).2.2
 have hc := rUint_d G hG i s h hi ho hl
 have hI : rdInt s = (unzz (rdUint s).1, (rdUint s).2) := rfl
 rw [hI]
 generalize rdUint s = ru at hc hlt ⊢
 obtain ⟨m, t⟩ := ru
 simp only at hc hlt ⊢
 refine does_of_aw Tryz.func48 rfl (Nat.le_of_ble_eq_true rfl) hG fun hl0 _ => ?_
 simp only [Tryz.ntmps48]
 repeat' first
  | (with_reducible refine gd_aw ?_; first
   | refine aw_seq' ?_
   | refine aw_region' ?_
   | refine aw_ret ?_)
  | (with_reducible refine gd_ao ?_; first
   | refine ao_nil ?_
   | (refine ao1 rfl rfl fun K HK => ?_; simp only [go_sem, ↓reduceIte, Nat.reduceEqDiff, Nat.reduceAdd, Nat.reduceLeDiff, Nat.reduceBEq, Nat.reduceMul, Int.reduceEq, Int.reduceLT, Int.reduceLE] <;> (refine HK _ _ ?_; clear HK K))
   | (refine ao2 rfl rfl rfl ent_81 (hc) ?_; rintro _ _ ⟨rfl, rfl⟩))
  | (with_reducible refine gd_th ?_; first
   | refine thenS_n ?_)
 exact ⟨.inr rfl, endS (i := i) (ob := rdrOb t) (r := .v (.int .i64 (unzz m))) hl0 (low_rdr _ _) rfl (by simp [take_set]) (by simp) (congrArg (fun z : Int => D.v (.int .i64 z)) (int_val m hlt)) (by rw [low]; trivial) ⟨rfl, rfl⟩⟩
theorem rEnd_d (i : Nat) (s : RS) (h : List Ob) (hi : h[i]? = some (rdrOb s)) (ho : s.Ok) (hl : s.data.length ≤ 1000000000) :
 Does Tryz.prog G 52 h [.ptr i 0] (fun h' r => h' = h ∧ r = .v (.int .i64 s.ends)) := by
 have hL := rLeft_d G hG i s h hi ho hl
 rw [rdrOb_eq] at hi
 refine does_of_aw Tryz.func52 rfl (Nat.le_of_ble_eq_true rfl) hG fun hl0 _ => ?_
 simp only [Tryz.ntmps52]
 by_cases hb : s.err = 0
 · rw [hb] at hi
   by_cases hp : s.pos < s.data.length
   · have w1 : decide (((s.data.length - s.pos : Nat) : Int) > 0) = true := decide_eq_true (by omega)
     have w2 : decide (0 < ((s.data.length - s.pos : Nat) : Int)) = true := decide_eq_true (by omega)
     repeat' first
      | (with_reducible refine gd_aw ?_; first
       | refine aw_seq' ?_
       | refine aw_region' ?_
       | refine aw_if1 rfl ?_
       | refine aw_ret ?_)
      | (with_reducible refine gd_ao ?_; first
       | refine ao_nil ?_
       | (refine ao1 rfl rfl fun K HK => ?_; (first | refine aOp_pick rfl ?_ | skip); simp only [go_sem, ↓reduceIte, Nat.reduceEqDiff, Nat.reduceAdd, Nat.reduceLeDiff, Nat.reduceBEq, Nat.reduceMul, Int.reduceEq, Int.reduceLT, Int.reduceLE, hi, w1, w2, Bool.false_eq_true] <;> (refine HK _ _ ?_; clear HK K))
       | (refine ao2 rfl rfl rfl ent_84 (hL) ?_; rintro _ _ ⟨rfl, rfl⟩))
      | (with_reducible refine gd_th ?_; first
       | refine thenS_n ?_
       | refine thenS_r ?_)
     have hE : s.ends = 2 := by unfold RS.ends; rw [if_pos ⟨hb, hp⟩]
     exact ⟨.inr rfl, endD (r := .v (.int .i64 2)) hl0 rfl (by simp) (by simp) rfl (by rw [low]; trivial) ⟨rfl, by rw [hE]⟩⟩
   · have w1 : s.data.length - s.pos = 0 := by omega
     rw [w1] at hL
     repeat' first
      | (with_reducible refine gd_aw ?_; first
       | refine aw_seq' ?_
       | refine aw_region' ?_
       | refine aw_if1 rfl ?_
       | refine aw_if0 rfl ?_
       | refine aw_skip ?_
       | refine aw_ret ?_)
      | (with_reducible refine gd_ao ?_; first
       | refine ao_nil ?_
       | (refine ao1 rfl rfl fun K HK => ?_; (first | refine aOp_pick rfl ?_ | skip); simp only [go_sem, ↓reduceIte, Nat.reduceEqDiff, Nat.reduceAdd, Nat.reduceLeDiff, Nat.reduceBEq, Nat.reduceMul, Int.reduceEq, Int.reduceLT, Int.reduceLE, hi, Bool.false_eq_true]; (first | refine splitB (fun hq => ?_) (fun hq => ?_) | skip) <;> (refine HK _ _ ?_; clear HK K))
       | (refine ao2 rfl rfl rfl ent_84 (hL) ?_; rintro _ _ ⟨rfl, rfl⟩))
      | (with_reducible refine gd_th ?_; first
       | refine thenS_n ?_
       | refine thenS_r ?_)
      | (exfalso; omega)
     have hE : s.ends = 0 := by unfold RS.ends; rw [if_neg (fun h => hp h.2), hb]
     exact ⟨.inr rfl, endD (r := .v (.int .i64 0)) hl0 rfl (by simp) (by simp) rfl (by rw [low]; trivial) ⟨rfl, by rw [hE]⟩⟩
 · skip
   repeat' first
    | (with_reducible refine gd_aw ?_; first
     | refine aw_seq' ?_
     | refine aw_region' ?_
     | refine aw_if0 rfl ?_
     | refine aw_skip ?_
     | refine aw_ret ?_)
    | (with_reducible refine gd_ao ?_; first
     | refine ao_nil ?_
     | (refine ao1 rfl rfl fun K HK => ?_; (first | refine aOp_pick rfl ?_ | skip); simp only [go_sem, ↓reduceIte, Nat.reduceEqDiff, Nat.reduceAdd, Nat.reduceLeDiff, Nat.reduceBEq, Nat.reduceMul, Int.reduceEq, Int.reduceLT, Int.reduceLE, hi, hb, Bool.false_eq_true] <;> (refine HK _ _ ?_; clear HK K))
     | refine ao0 rfl rfl ?_)
    | (with_reducible refine gd_th ?_; first
     | refine thenS_n ?_)
   have hE : s.ends = s.err := by unfold RS.ends; rw [if_neg (fun h => hb h.1)]
   exact ⟨.inr rfl, endD (r := .v (.int .i64 s.err)) hl0 rfl (by simp) (by simp) rfl (by rw [low]; trivial) ⟨rfl, by rw [hE]⟩⟩
theorem rCount_d (i : Nat) (s : RS) (h : List Ob) (hi : h[i]? = some (rdrOb s)) (ho : s.Ok) (hl : s.data.length ≤ 1000000000) :
 Does Tryz.prog G 49 h [.ptr i 0] (fun h' r => h' = h.set i (rdrOb (rdCount s).2) ∧ r = .v (.int .i64 ((rdCount s).1 : Nat))) := by
 have hil := (List.getElem?_eq_some_iff.1 hi).1
 have g1 := fun ob => List.getElem?_set_self (a := ob) hil
 refine does_of_aw Tryz.func49 rfl (Nat.le_of_ble_eq_true rfl) hG fun hl0 _ => ?_
 simp only [Tryz.ntmps49]
 have hp := ho.pos
 by_cases hb : s.err = 0
 rotate_left
 · skip
   repeat' first
    | (with_reducible refine gd_aw ?_; first
     | refine aw_seq' ?_
     | refine aw_region' ?_
     | refine aw_if1 rfl ?_
     | refine aw_ret ?_)
    | (with_reducible refine gd_ao ?_; first
     | refine ao_nil ?_
     | (refine ao1 rfl rfl fun K HK => ?_; simp only [go_sem, ↓reduceIte, Nat.reduceEqDiff, Nat.reduceAdd, Nat.reduceLeDiff, Nat.reduceBEq, Nat.reduceMul, Int.reduceEq, Int.reduceLT, Int.reduceLE, g1] <;> (refine HK _ _ ?_; clear HK K))
     | (refine ao2 rfl rfl rfl ent_82 (rBegin_no G hG hb hi) ?_; rintro _ _ ⟨rfl, rfl⟩))
    | (with_reducible refine gd_th ?_; first
     | refine thenS_n ?_
     | refine thenS_r ?_)
   have hR : rdCount s = (0, s) := by unfold rdCount; rw [if_pos hb]
   exact ⟨by simp, endS (i := i) (ob := rdrOb s) (r := .v (.int .i64 (0 : Int))) hl0 (low_rdr _ _) rfl (by simp [set_same hi]) (by simp) rfl (by rw [low]; trivial) ⟨by rw [hR], by rw [hR]; rfl⟩⟩
 have hO : s.begun.Ok := ⟨ho.pos, Nat.le_refl _, ho.err⟩
 obtain ⟨h1, hh⟩ : ∃ h1, h.set i (rdrOb s.begun) = h1 := ⟨_, rfl⟩
 have hB : h1[i]? = some (rdrOb s.begun) := hh ▸ g1 _
 have hS : ∀ x, h1.set i x = h.set i x := fun x => by rw [← hh, List.set_set]
 have hT : ∀ x, (h1.set i x).take h.length = h.set i x := fun x => by rw [hS]; exact take_set
 have hL : h1.length = h.length := by rw [← hh, List.length_set]
 have hB2 := hB
 rw [rdrOb_eq] at hB2
 have hB2 : h1[i]? = some (.cells [.sl 1 (byD s.data), .v (.int .i64 s.pos), .v (.int .i64 s.pos), .v (.int .i64 s.err)]) := hB2
 obtain ⟨k1, k2, k3, k4, k5⟩ := own_get hB2
 rcases hN : s.num with _ | ⟨m, c⟩
 · obtain ⟨a, b, hr⟩ := rawN_none (s := s.begun) hN
   repeat' first
    | (with_reducible refine gd_aw ?_; first
     | refine aw_seq' ?_
     | refine aw_region' ?_
     | refine aw_if1 rfl ?_
     | refine aw_if0 rfl ?_
     | refine aw_skip ?_
     | refine aw_ret ?_)
    | (with_reducible refine gd_ao ?_; first
     | refine ao_nil ?_
     | (refine ao1 rfl rfl fun K HK => ?_; (first | refine aOp_pick rfl ?_ | skip); simp only [go_sem, ↓reduceIte, Nat.reduceEqDiff, Nat.reduceAdd, Nat.reduceLeDiff, Nat.reduceBEq, Nat.reduceMul, Int.reduceEq, Int.reduceLT, Int.reduceLE, hB2, k1, Bool.false_eq_true] <;> (refine HK _ _ ?_; clear HK K))
     | refine ao0 rfl rfl ?_
     | (refine ao2 rfl rfl rfl ent_82 (rBegin_h G hG hh hb hi) ?_; rintro _ _ ⟨rfl, rfl⟩)
     | (refine ao1' rfl fun K HK => ?_; simp only [go_sem, ↓reduceIte, Nat.reduceEqDiff, Nat.reduceAdd, Nat.reduceLeDiff, Nat.reduceBEq, Nat.reduceMul, Int.reduceEq, Int.reduceLT, Int.reduceLE, hB2, k1, Bool.false_eq_true]; refine HK _ _ ?_; clear HK K))
    | (with_reducible refine gd_th ?_; first
     | refine thenS_n ?_
     | refine thenS_r ?_)
    | ((with_reducible refine gd_ao ?_); first
     | (refine ao2 rfl rfl rfl ent_83 (rNum_e G hG hr hB hO hl) ?_; rintro _ _ ⟨rfl, rfl⟩))
   have hR : rdCount s = (0, s.bad) := by unfold rdCount; rw [if_neg (fun h => h hb), hN]
   exact ⟨by simp, endS (i := i) (ob := rdrOb s.bad) (r := .v (.int .i64 (0 : Int))) hl0 (low_rdr _ _) rfl (by simp [rdrOb, RS.bad, putL_succ, putL_zero, hT]) (by simp [hL]) rfl (by rw [low]; trivial) ⟨by rw [hR], by rw [hR]; rfl⟩⟩
 · have hr := rawN_some (s := s.begun) hN
   have hr : s.begun.rawN = .tup [.v (.int .u64 m), .v (.int .i64 ((s.pos : Int) + (c : Int))), .v (.bool true)] := hr
   obtain ⟨hn1, hn2, hn3, hn4⟩ := RS.num_some hN hp
   have w1 : IntKind.i64.wrap ((s.data.length : Int) - ((s.pos : Int) + (c : Int))) = (s.data.length : Int) - ((s.pos : Int) + (c : Int)) := IntWalk.i64_in _ (by omega)
   have w2 : IntKind.u64.wrap ((s.data.length : Int) - ((s.pos : Int) + (c : Int))) = (s.data.length : Int) - ((s.pos : Int) + (c : Int)) := by rw [IntKind.wrap_u64]; omega
   have w3 : m ≤ 1000000000 → IntKind.i64.wrap (m : Int) = (m : Int) := fun h => IntWalk.i64_in _ (by omega)
   have hR : rdCount s = (if s.data.length - (s.pos + c) < m then (0, s.bad) else (m, s.go c)) := by unfold rdCount; rw [if_neg (fun h => h hb), hN]
   repeat' first
    | (with_reducible refine gd_aw ?_; first
     | refine aw_seq' ?_
     | refine aw_region' ?_
     | refine aw_if1 rfl ?_
     | refine aw_if0 rfl ?_
     | refine aw_skip ?_
     | refine aw_ret ?_)
    | (with_reducible refine gd_ao ?_; first
     | refine ao_nil ?_
     | (refine ao1 rfl rfl fun K HK => ?_; (first | refine aOp_pick rfl ?_ | skip); simp only [go_sem, ↓reduceIte, Nat.reduceEqDiff, Nat.reduceAdd, Nat.reduceLeDiff, Nat.reduceBEq, Nat.reduceMul, Int.reduceEq, Int.reduceLT, Int.reduceLE, hB2, k1, w1, w2, Bool.false_eq_true]; (first | refine splitB (fun hq => ?_) (fun hq => ?_) | skip) <;> (refine HK _ _ ?_; clear HK K))
     | (refine ao2 rfl rfl rfl ent_82 (rBegin_h G hG hh hb hi) ?_; rintro _ _ ⟨rfl, rfl⟩)
     | (refine ao1' rfl fun K HK => ?_; simp only [go_sem, ↓reduceIte, Nat.reduceEqDiff, Nat.reduceAdd, Nat.reduceLeDiff, Nat.reduceBEq, Nat.reduceMul, Int.reduceEq, Int.reduceLT, Int.reduceLE, hB2, k1, w1, w2, Bool.false_eq_true]; refine HK _ _ ?_; clear HK K))
    | (with_reducible refine gd_th ?_; first
     | refine thenS_n ?_
     | refine thenS_r ?_)
    | ((with_reducible refine gd_ao ?_); first
     | (refine ao2 rfl rfl rfl ent_83 (rNum_e G hG hr hB hO hl) ?_; rintro _ _ ⟨rfl, rfl⟩))
   all_goals
    first
    | (have hR2 : rdCount s = (0, s.bad) := by (rw [hR, if_pos (by omega)])
       exact ⟨by simp, endS (i := i) (ob := rdrOb s.bad) (r := .v (.int .i64 (0 : Int))) hl0 (low_rdr _ _) rfl (by simp [rdrOb, RS.bad, putL_succ, putL_zero, hT]) (by simp [hL]) rfl (by rw [low]; trivial) ⟨by rw [hR2], by rw [hR2]; rfl⟩⟩)
    | (have hR2 : rdCount s = (m, s.go c) := by (rw [hR, if_neg (by omega)])
       exact ⟨by simp, endS (i := i) (ob := rdrOb (s.go c)) (r := .v (.int .i64 (m : Int))) hl0 (low_rdr _ _) rfl (by simp [rdrOb, RS.go, putL_succ, putL_zero, hT]) (by simp [hL]) (congrArg (fun z : Int => D.v (.int .i64 z)) (w3 (by omega))) (by rw [low]; trivial) ⟨by rw [hR2], by rw [hR2]⟩⟩)
end
section
set_option maxRecDepth 100000
set_option maxHeartbeats 1000000
attribute [local irreducible] on aOp
attribute [local go_sem] decide_true decide_false Bool.not_true Bool.not_false
attribute [local simp] byD_len
variable (G : Nat → D) (hG : ∀ g, low 0 (G g))
include hG
theorem rBytes_d (i : Nat) (s : RS) (h : List Ob) (hi : h[i]? = some (rdrOb s)) (ho : s.Ok) (hl : s.data.length ≤ 1000000000) :
 Does Tryz.prog G 51 h [.ptr i 0] (fun h' r => h' = h.set i (rdrOb (rdBytes s).2) ∧ r = .sl 1 (byD (rdBytes s).1)) := by
 have hil := (List.getElem?_eq_some_iff.1 hi).1
 have g1 := fun ob => List.getElem?_set_self (a := ob) hil
 apply Does.weak
 refine does_of_aw Tryz.func51 rfl (Nat.le_of_ble_eq_true rfl) hG fun hl0 _ => ?_
 simp only [Tryz.ntmps51]
 have hp := ho.pos
 by_cases hb : s.err = 0
 rotate_left
 · skip
   repeat' first
    | (with_reducible refine gd_aw ?_; first
     | refine aw_seq' ?_
     | refine aw_region' ?_
     | refine aw_if1 rfl ?_
     | refine aw_ret ?_)
    | (with_reducible refine gd_ao ?_; first
     | refine ao_nil ?_
     | (refine ao1 rfl rfl fun K HK => ?_; simp only [go_sem, ↓reduceIte, Nat.reduceEqDiff, Nat.reduceAdd, Nat.reduceLeDiff, Nat.reduceBEq, Nat.reduceMul, Int.reduceEq, Int.reduceLT, Int.reduceLE, g1] <;> (refine HK _ _ ?_; clear HK K))
     | (refine ao2 rfl rfl rfl ent_82 (rBegin_no G hG hb hi) ?_; rintro _ _ ⟨rfl, rfl⟩))
    | (with_reducible refine gd_th ?_; first
     | refine thenS_n ?_
     | refine thenS_r ?_)
   have hR : rdBytes s = ([], s) := by unfold rdBytes; rw [if_pos hb]
   exact ⟨by simp, endS (i := i) (ob := rdrOb s) (r := .v _) hl0 (low_rdr _ _) rfl (by simp [set_same hi]) (by simp) rfl (by rw [low]; trivial) ⟨_, ⟨by rw [hR], by rw [hR]; rfl⟩, nil_sl⟩⟩
 have hO : s.begun.Ok := ⟨ho.pos, Nat.le_refl _, ho.err⟩
 obtain ⟨h1, hh⟩ : ∃ h1, h.set i (rdrOb s.begun) = h1 := ⟨_, rfl⟩
 have hB : h1[i]? = some (rdrOb s.begun) := hh ▸ g1 _
 have hS : ∀ x, h1.set i x = h.set i x := fun x => by rw [← hh, List.set_set]
 have hT : ∀ x, (h1.set i x).take h.length = h.set i x := fun x => by rw [hS]; exact take_set
 have hT2 : ∀ x (l : List Ob), (h1.set i x ++ l).take h.length = h.set i x := fun x l => by rw [hS]; exact take_set_app
 have hL : h1.length = h.length := by rw [← hh, List.length_set]
 have hB2 := hB
 rw [rdrOb_eq] at hB2
 have hB2 : h1[i]? = some (.cells [.sl 1 (byD s.data), .v (.int .i64 s.pos), .v (.int .i64 s.pos), .v (.int .i64 s.err)]) := hB2
 obtain ⟨k1, k2, k3, k4, k5⟩ := own_get hB2
 rcases hN : s.num with _ | ⟨m, c⟩
 · obtain ⟨a, b, hr⟩ := rawN_none (s := s.begun) hN
   repeat' first
    | (with_reducible refine gd_aw ?_; first
     | refine aw_seq' ?_
     | refine aw_region' ?_
     | refine aw_if1 rfl ?_
     | refine aw_if0 rfl ?_
     | refine aw_skip ?_
     | refine aw_ret ?_)
    | (with_reducible refine gd_ao ?_; first
     | refine ao_nil ?_
     | (refine ao1 rfl rfl fun K HK => ?_; (first | refine aOp_pick rfl ?_ | skip); simp only [go_sem, ↓reduceIte, Nat.reduceEqDiff, Nat.reduceAdd, Nat.reduceLeDiff, Nat.reduceBEq, Nat.reduceMul, Int.reduceEq, Int.reduceLT, Int.reduceLE, hB2, k1, Bool.false_eq_true] <;> (refine HK _ _ ?_; clear HK K))
     | refine ao0 rfl rfl ?_
     | (refine ao2 rfl rfl rfl ent_82 (rBegin_h G hG hh hb hi) ?_; rintro _ _ ⟨rfl, rfl⟩)
     | (refine ao1' rfl fun K HK => ?_; simp only [go_sem, ↓reduceIte, Nat.reduceEqDiff, Nat.reduceAdd, Nat.reduceLeDiff, Nat.reduceBEq, Nat.reduceMul, Int.reduceEq, Int.reduceLT, Int.reduceLE, hB2, k1, Bool.false_eq_true]; refine HK _ _ ?_; clear HK K))
    | (with_reducible refine gd_th ?_; first
     | refine thenS_n ?_
     | refine thenS_r ?_)
    | ((with_reducible refine gd_ao ?_); first
     | (refine ao2 rfl rfl rfl ent_83 (rNum_e G hG hr hB hO hl) ?_; rintro _ _ ⟨rfl, rfl⟩))
   have hR : rdBytes s = ([], s.bad) := by unfold rdBytes; rw [if_neg (fun h => h hb), hN]
   exact ⟨by simp, endS (i := i) (ob := rdrOb s.bad) (r := .v _) hl0 (low_rdr _ _) rfl (by simp [rdrOb, RS.bad, putL_succ, putL_zero, hT]) (by simp [hL]) rfl (by rw [low]; trivial) ⟨_, ⟨by rw [hR], by rw [hR]; rfl⟩, nil_sl⟩⟩
 · have hr := rawN_some (s := s.begun) hN
   have hr : s.begun.rawN = .tup [.v (.int .u64 m), .v (.int .i64 ((s.pos : Int) + (c : Int))), .v (.bool true)] := hr
   obtain ⟨hn1, hn2, hn3, hn4⟩ := RS.num_some hN hp
   have w1 : IntKind.i64.wrap ((s.data.length : Int) - ((s.pos : Int) + (c : Int))) = (s.data.length : Int) - ((s.pos : Int) + (c : Int)) := IntWalk.i64_in _ (by omega)
   have w2 : IntKind.u64.wrap ((s.data.length : Int) - ((s.pos : Int) + (c : Int))) = (s.data.length : Int) - ((s.pos : Int) + (c : Int)) := by rw [IntKind.wrap_u64]; omega
   have hR : rdBytes s = (if s.data.length - (s.pos + c) < m then ([], s.bad) else ((s.data.drop (s.pos + c)).take m, s.go (c + m))) := by unfold rdBytes; rw [if_neg (fun h => h hb), hN]
   by_cases hm : s.data.length - (s.pos + c) < m
   · have hR2 : rdBytes s = ([], s.bad) := by rw [hR, if_pos hm]
     repeat' first
      | (with_reducible refine gd_aw ?_; first
       | refine aw_seq' ?_
       | refine aw_region' ?_
       | refine aw_if1 rfl ?_
       | refine aw_if0 rfl ?_
       | refine aw_skip ?_
       | refine aw_ret ?_
       | refine aw_draw mixd (by kernel_rfl) ?_)
      | (with_reducible refine gd_ao ?_; first
       | refine ao_nil ?_
       | (refine ao1 rfl rfl fun K HK => ?_; (first | refine aOp_pick rfl ?_ | skip); simp only [go_sem, ↓reduceIte, Nat.reduceEqDiff, Nat.reduceAdd, Nat.reduceLeDiff, Nat.reduceBEq, Nat.reduceMul, Int.reduceEq, Int.reduceLT, Int.reduceLE, hB2, k1, w1, w2, Bool.false_eq_true]; (first | refine splitB (fun hq => ?_) (fun hq => ?_) | skip) <;> (refine HK _ _ ?_; clear HK K))
       | (refine ao2 rfl rfl rfl ent_82 (rBegin_h G hG hh hb hi) ?_; rintro _ _ ⟨rfl, rfl⟩)
       | (refine ao1' rfl fun K HK => ?_; simp only [go_sem, ↓reduceIte, Nat.reduceEqDiff, Nat.reduceAdd, Nat.reduceLeDiff, Nat.reduceBEq, Nat.reduceMul, Int.reduceEq, Int.reduceLT, Int.reduceLE, hB2, k1, w1, w2, Bool.false_eq_true]; refine HK _ _ ?_; clear HK K))
      | (with_reducible refine gd_th ?_; first
       | refine thenS_n ?_
       | refine thenS_r ?_)
      | ((with_reducible refine gd_ao ?_); first
       | (refine ao2 rfl rfl rfl ent_83 (rNum_e G hG hr hB hO hl) ?_; rintro _ _ ⟨rfl, rfl⟩))
      | (exfalso; omega)
     exact ⟨by simp, endS (i := i) (ob := rdrOb s.bad) (r := .v _) hl0 (low_rdr _ _) rfl (by simp [rdrOb, RS.bad, putL_succ, putL_zero, hT]) (by simp [hL]) rfl (by rw [low]; trivial) ⟨_, ⟨by rw [hR2], by rw [hR2]; rfl⟩, nil_sl⟩⟩
   · have w3 : IntKind.i64.wrap (m : Int) = (m : Int) := IntWalk.i64_in _ (by omega)
     have w4 : IntKind.i64.wrap ((s.pos : Int) + (c : Int) + (m : Int)) = (s.pos : Int) + (c : Int) + (m : Int) := IntWalk.i64_in _ (by omega)
     have hR2 : rdBytes s = ((s.data.drop (s.pos + c)).take m, s.go (c + m)) := by rw [hR, if_neg hm]
     repeat' first
      | (with_reducible refine gd_aw ?_; first
       | refine aw_seq' ?_
       | refine aw_region' ?_
       | refine aw_if1 rfl ?_
       | refine aw_if0 rfl ?_
       | refine aw_skip ?_
       | refine aw_ret ?_
       | refine aw_drawE mixd (by kernel_rfl) ?_)
      | (with_reducible refine gd_ao ?_; first
       | refine ao_nil ?_
       | (refine ao1 rfl rfl fun K HK => ?_; (first | refine aOp_pick rfl ?_ | skip); simp only [go_sem, ↓reduceIte, Nat.reduceEqDiff, Nat.reduceAdd, Nat.reduceLeDiff, Nat.reduceBEq, Nat.reduceMul, Int.reduceEq, Int.reduceLT, Int.reduceLE, hB2, k1, k2, k3, k4, k5, w1, w2, w3, w4, Bool.false_eq_true]; (first | refine splitB (fun hq => ?_) (fun hq => ?_) | (refine slc_sl (by simp only [go_sem]) rfl rfl (by first | omega | simp) (by first | omega | simp) (by simp only [go_sem]; omega) ?_) | skip) <;> (refine HK _ _ ?_; clear HK K))
       | (refine ao2 rfl rfl rfl ent_82 (rBegin_h G hG hh hb hi) ?_; rintro _ _ ⟨rfl, rfl⟩)
       | (refine ao1' rfl fun K HK => ?_; simp only [go_sem, ↓reduceIte, Nat.reduceEqDiff, Nat.reduceAdd, Nat.reduceLeDiff, Nat.reduceBEq, Nat.reduceMul, Int.reduceEq, Int.reduceLT, Int.reduceLE, hB2, k1, k2, k3, k4, k5, w1, w2, w3, w4, Bool.false_eq_true]; refine HK _ _ ?_; clear HK K))
      | ((with_reducible refine gd_aS ?_); first
       | (refine aS1 rfl rfl fun K HK => ?_; (first | refine aOp_pick rfl ?_ | skip); simp only [go_sem, ↓reduceIte, Nat.reduceEqDiff, Nat.reduceAdd, Nat.reduceLeDiff, Nat.reduceBEq, Nat.reduceMul, Int.reduceEq, Int.reduceLT, Int.reduceLE, hB2, k1, k2, k3, k4, k5, w1, w2, w3, w4, Bool.false_eq_true]; (first | refine splitB (fun hq => ?_) (fun hq => ?_) | (refine slc_sl (by simp only [go_sem]) rfl rfl (by first | omega | simp) (by first | omega | simp) (by simp only [go_sem]; omega) ?_) | skip) <;> (refine HK _ _ rfl ?_; clear HK K))
       | refine aS_load rfl rfl rfl (by (first | assumption | (simp only [go_sem, ↓reduceIte, Nat.reduceEqDiff, Nat.reduceAdd, Nat.reduceLeDiff, Nat.reduceBEq, Nat.reduceMul, Int.reduceEq, Int.reduceLT, Int.reduceLE, hB2, k1, k2, k3, k4, k5, w1, w2, w3, w4, Bool.false_eq_true]; rfl))) (by rw [getD_one (by simp only [go_sem, ↓reduceIte, Nat.reduceEqDiff, Nat.reduceAdd, Nat.reduceLeDiff, Nat.reduceBEq, Nat.reduceMul, Int.reduceEq, Int.reduceLT, Int.reduceLE, hB2, k1, k2, k3, k4, k5, w1, w2, w3, w4, Bool.false_eq_true])]; rfl) ?_
       | refine aS_lit rfl rfl (by simp only [litD, litRows, go_sem, List.length_cons, List.length_nil, Option.map_some, Option.bind_some, and_self, ↓reduceIte, Nat.reduceEqDiff, Nat.reduceAdd, Nat.reduceLeDiff, Nat.reduceBEq, Nat.reduceMul, Int.reduceEq, Int.reduceLT, Int.reduceLE, hB2, k1, k2, k3, k4, k5, w1, w2, w3, w4, Bool.false_eq_true]; rfl) ?_
       | refine aS_appR rfl rfl rfl (by (first | assumption | (simp only [go_sem, ↓reduceIte, Nat.reduceEqDiff, Nat.reduceAdd, Nat.reduceLeDiff, Nat.reduceBEq, Nat.reduceMul, Int.reduceEq, Int.reduceLT, Int.reduceLE, hB2, k1, k2, k3, k4, k5, w1, w2, w3, w4, Bool.false_eq_true]; rfl))) (by simp) (by simp only [go_sem]; rfl) rfl (by (rw [byD_cut]; exact rowsOk_by _)) (by (simp; omega)) ?_
       | refine aS_nil (by simp only [List.reverse_cons, List.reverse_nil, List.nil_append, List.cons_append, chkAll, chk1]; repeat' (first | exact trivial | refine And.intro ?_ ?_ | exact .inr compat_pl | exact .inr compat_pr | exact .inr compat_rr | (refine .inr ?_; simp [compat, readE, writE, pureE, nop] <;> omega) | exact .inl (by kernel_rfl))) ?_)
      | (with_reducible refine gd_th ?_; first
       | refine thenS_n ?_
       | refine thenS_r ?_)
      | ((with_reducible refine gd_ao ?_); first
       | (refine ao2 rfl rfl rfl ent_83 (rNum_e G hG hr hB hO hl) ?_; rintro _ _ ⟨rfl, rfl⟩))
      | (exfalso; omega)
     have e2 : ((s.pos : Int) + (c : Int) + (m : Int)).toNat = s.pos + c + m := by omega
     have e1 : ((s.pos : Int) + (c : Int)).toNat = s.pos + c := by omega
     refine ⟨by simp, endS (i := i) (ob := rdrOb (s.go (c + m))) (r := .sl 1 _) hl0 (low_rdr _ _) rfl (by simp [rdrOb, RS.go, putL_succ, putL_zero, hT, hT2, Int.add_assoc]) (by simp [hL]) (by simp [outD, cvD, cv1, upd_app, hL]; rfl) ?_ ⟨_, ⟨by rw [hR2], rfl⟩, ?_⟩⟩
     · rw [byD_cut, e1, e2]; exact low_by _ _
     · rw [byD_cut, e1, e2, hR2, show (s.data.take (s.pos + c + m)).drop (s.pos + c) = (s.data.drop (s.pos + c)).take m by rw [List.drop_take]; congr 1; omega]
       exact fun _ _ _ _ h => h
end
section
set_option maxRecDepth 100000
set_option maxHeartbeats 1000000
attribute [local irreducible] on aOp
attribute [local go_sem] decide_true decide_false Bool.not_true Bool.not_false
attribute [local simp] byD_len
section
variable {P : Program} {G : Nat → D} {n : Nat} {e : Nat → D} {h : List Ob} {ops : Array Oper} {rest : List Oper} {Q : S → Prop} {t : Option Nat} {ty : TypeId} {pos : String} {aft : Array Edge}
theorem ao_bldG {u t' j n1 E1 k1 : Nat} {xs : List (List D)} (hx : e t' = .buf j n1) (hj : h[j]? = some (.buf E1 k1 xs)) (hn : xs.length = n1)
 (q : ao P G ops (⟨t, .build u #[(0, .tmp t')], ty, pos, aft, none⟩ :: rest) Q ⟨n, upd e t' (.sl k1 xs), h.set j .dead⟩) : ao P G ops (⟨t, .build u #[(0, .tmp t')], ty, pos, aft, none⟩ :: rest) Q ⟨n, e, h⟩ := by
 refine ao_give j t' ?_
 have e1 : cvD (fun i => i == j) h (e t') = .sl k1 xs := by rw [hx]; simp [cvD, cv1, hj, hn]
 rw [e1]
 exact q
end
variable (G : Nat → D) (hG : ∀ g, low 0 (G g))
include hG
theorem newReader0 (l : List UInt8) (hl : l.length ≤ 1000000000) : Does Tryz.prog G 47 [] [.sl 1 (byD l)] (fun h' r => h' = [.dead, rdrOb ⟨l, 0, 0, 0⟩] ∧ r = .ptr 1 0) := by
 refine does_of_aw Tryz.func47 rfl (Nat.le_of_ble_eq_true rfl) hG fun hl0 _ => ?_
 simp only [Tryz.ntmps47]
 repeat' first
  | (refine ao_bldG rfl rfl (by first | rfl | (simp; done) | (simp; omega)) ?_)
  | refine aw_seq' ?_
  | refine aw_region' ?_
  | refine ao_nil ?_
  | (refine ao1 rfl rfl fun K HK => ?_; simp only [go_sem, ↓reduceIte, Nat.reduceEqDiff, Nat.reduceAdd, Nat.reduceLeDiff, Nat.reduceBEq, Nat.reduceMul, Int.reduceEq, Int.reduceLT, Int.reduceLE] <;> (refine HK _ _ ?_; clear HK K))
  | refine ao_appR rfl rfl rfl (by (simp only [go_sem, ↓reduceIte, Nat.reduceEqDiff, Nat.reduceAdd, Nat.reduceLeDiff, Nat.reduceBEq, Nat.reduceMul, Int.reduceEq, Int.reduceLT, Int.reduceLE]; rfl)) (by simp) (by simp only [go_sem]; rfl) rfl (by exact rowsOk_by _) (by (simp; omega)) ?_
  | refine aw_ret ?_
 refine ⟨.inr rfl, [.ptr 1 0], 2, rfl, by simp, by simp, ?_, ?_, ?_, ?_⟩
 · intro x hx
   have hx : x ∈ [Ob.dead, rdrOb ⟨l, 0, 0, 0⟩] := hx
   simp at hx
   rcases hx with rfl | rfl
   · trivial
   · exact low_rdr _ _
 · simp [outD, cvD, cv1, low]
 · rfl
 · simp [outD, cvD, cv1]
theorem newReader1 (l : List UInt8) (hl : l.length ≤ 1000000000) : Does Tryz.prog G 47 [] [.sl 1 (byD l)] (fun h' r => h' = [rdrOb ⟨l, 0, 0, 0⟩] ∧ r = .ptr 0 0) := by
 refine (newReader0 G hG l hl).shrink hG ?_
 rintro _ _ ⟨rfl, rfl⟩
 refine ⟨[rdrOb ⟨l, 0, 0, 0⟩], .ptr 0 0, ⟨[1], ?_, rfl, ?_, Nat.zero_le _, fun k hk => by simp at hk⟩, rfl, rfl⟩
 · have e : rnR [1] (byD l) = some (byD l) := rnR_low0 _ _ (by have := low_by 0 l; rwa [low] at this)
   simp [rnH, rdrOb, rnOb, rnL, rnO, e]
 · simp [rnO, pos]
theorem newReader_d (l : List UInt8) (hl : l.length ≤ 1000000000) (h : List Ob) : Does Tryz.prog G 47 h [.sl 1 (byD l)] (fun h' r => h' = h ++ [rdrOb ⟨l, 0, 0, 0⟩] ∧ r = .ptr h.length 0) := by
 have la : lowL 0 [D.sl 1 (byD l)] := by rw [lowL, lowL]; exact ⟨low_by _ _, trivial⟩
 have lo : lowL 0 [D.sl 1 (byD l), .v (.int .i64 (0 : Int)), .v (.int .i64 (0 : Int)), .v (.int .i64 (0 : Int))] := by
  simp only [lowL]; exact ⟨low_by _ _, by simp [low], by simp [low], by simp [low], trivial⟩
 refine Does.holes 1 ?_
 have L : Lies (fun _ => h.length) [] (h ++ holes 1) := ⟨fun i ob q => by simp at q, fun i j q => by simp at q, fun ob q => by simp at q⟩
 have F := Does.frame hG L (args := [.sl 1 (byD l)]) la (K1 := fun h' r => h' = [rdrOb ⟨l, 0, 0, 0⟩] ∧ r = .ptr 0 0) (by
  rintro _ _ ⟨rfl, _⟩
  refine ⟨fun i j hi hj _ => by simp at hi hj; omega, fun j _ hj => ?_⟩
  simp [holes]) (newReader1 G hG l hl)
 rw [renL_low0 _ _ la] at F
 refine F.mono ?_
 rintro _ _ ⟨_, _, ⟨rfl, rfl⟩, rfl, rfl⟩
 have e1 := renL_low0 (fun _ => h.length) _ lo
 simp [plc, renOb, ren, holes, rdrOb, e1]
theorem rText_d (i : Nat) (s : RS) (h : List Ob) (hi : h[i]? = some (rdrOb s)) (ho : s.Ok) (hl : s.data.length ≤ 1000000000) :
 Does Tryz.prog G 50 h [.ptr i 0] (fun h' r => h' = h.set i (rdrOb (rdBytes s).2) ∧ r = .v (.string ⟨(rdBytes s).1.toArray⟩)) := by
 have hil := (List.getElem?_eq_some_iff.1 hi).1
 refine does_of_aw Tryz.func50 rfl (Nat.le_of_ble_eq_true rfl) hG fun hl0 _ => ?_
 simp only [Tryz.ntmps50]
 repeat' first
  | refine aw_seq' ?_
  | refine aw_region' ?_
  | refine ao_nil ?_
  | (refine ao1 rfl rfl fun K HK => ?_; simp only [go_sem, ↓reduceIte, Nat.reduceEqDiff, Nat.reduceAdd, Nat.reduceLeDiff, Nat.reduceBEq, Nat.reduceMul, Int.reduceEq, Int.reduceLT, Int.reduceLE, hi] <;> (refine HK _ _ ?_; clear HK K))
  | (refine ao2 rfl rfl rfl ent_51 (rBytes_d G hG _ _ _ hi ho hl) ?_; rintro _ _ ⟨rfl, rfl⟩)
 refine ao1 rfl rfl fun K HK => ?_
 simp only [go_sem, ↓reduceIte, Nat.reduceEqDiff]
 refine bst_by (by simp only [go_sem]) (by simp only [go_sem]) ?_
 refine HK _ _ ?_; clear HK K
 repeat' first
  | refine ao_nil ?_
  | (refine ao1 rfl rfl fun K HK => ?_; simp only [go_sem, ↓reduceIte, Nat.reduceEqDiff, Nat.reduceAdd, Nat.reduceLeDiff, Nat.reduceBEq, Nat.reduceMul, Int.reduceEq, Int.reduceLT, Int.reduceLE, hi] <;> (refine HK _ _ ?_; clear HK K))
  | refine aw_ret ?_
 exact ⟨by simp, endS (i := i) (ob := rdrOb (rdBytes s).2) (r := .v _) hl0 (low_rdr _ _) rfl (by simp [take_set]) (by simp) rfl (by rw [low]; trivial) ⟨rfl, rfl⟩⟩
end
section
set_option maxRecDepth 100000
set_option maxHeartbeats 4000000
set_option pp.maxSteps 1000000
set_option pp.deepTerms true
attribute [local irreducible] on aOp
attribute [local go_sem] decide_true decide_false Bool.not_true Bool.not_false
attribute [local simp] byD_len
def dM (A B x w : Ob) (T : List Ob) : List Ob := A :: B :: x :: w :: T
section
variable {A B x w y z : Ob} {T l : List Ob}
theorem dM_0 : (dM A B x w T)[0]? = some A := rfl
theorem dM_1 : (dM A B x w T)[1]? = some B := rfl
theorem dM_2 : (dM A B x w T)[2]? = some x := rfl
theorem dM_3 : (dM A B x w T)[3]? = some w := rfl
theorem dM_s1 : (dM A B x w T).set 1 y = dM A y x w T := rfl
theorem dM_s2 : (dM A B x w T).set 2 y = dM A B y w T := rfl
theorem dM_s3 : (dM A B x w T).set 3 y = dM A B x y T := rfl
theorem dM_app : dM A B x w T ++ l = dM A B x w (T ++ l) := rfl
theorem dM_len : (dM A B x w T).length = T.length + 4 := rfl
theorem dM_l : (dM A B x w (T ++ [y]))[T.length + 4]? = some y := by simp [dM]
theorem dM_sl : (dM A B x w (T ++ [y])).set (T.length + 4) z = dM A B x w (T ++ [z]) := by simp [dM]
theorem dM_l2 : (dM A B x w (T ++ [y, z]))[T.length + 4]? = some y := by simp [dM]
theorem dM_sl2 {y' : Ob} : (dM A B x w (T ++ [y, z])).set (T.length + 4) y' = dM A B x w (T ++ [y', z]) := by simp [dM]
theorem dM_l4 : (dM A B x w (T ++ [y, z]))[T.length + 1 + 4]? = some z := by simp [dM]
theorem dM_l3 : (dM A B x w (T ++ [y, z]))[(T ++ [y]).length + 4]? = some z := by simp [dM]
end
def zC : List D := [.v (.int .i64 0), .v (.int .i64 0), .v (.int .i64 0), .v (.slice none 0 0), .v (.int .i64 0), .v (.slice none 0 0)]
theorem zC_weak : ∀ (hd : List Value) (hh : List Ob) (W : World) (u : Value), rd hd hh W (.tup [.agg zC, .v (.int .i64 2)]) u → rd hd hh W (.tup [.agg (cmdX zeroC), .v (.int .i64 2)]) u := fun hd hh W u q => by
 simp only [rd, rdL, zC] at q
 obtain ⟨cs, rfl, u1, t1, e1, ⟨ar, rfl, a0, b0, f0, rfl, a1, b1, f1, rfl, a2, b2, f2, rfl, a3, b3, f3, g3, a4, b4, f4, rfl, a5, b5, f5, g5, rfl⟩, u2, t2, e2, rfl, rfl⟩ := q
 subst g3 g5 f5 f4 f3 f2 f1 e2
 simp only [rd, rdL, cmdX, zeroC]
 refine ⟨cs, rfl, _, _, e1, ⟨ar, rfl, _, _, f0, rfl, _, _, rfl, rfl, _, _, rfl, rfl, _, _, rfl, ?_, _, _, rfl, rfl, _, _, rfl, ?_, rfl⟩, _, _, rfl, rfl, rfl⟩
 · have := nil_sl (k := 2) hd hh W (.slice none 0 0) (by rw [rd]); rw [rd] at this; exact this
 · have := nil_sl (k := 1) hd hh W (.slice none 0 0) (by rw [rd]); rw [rd] at this; exact this
variable (G : Nat → D) (hG : ∀ g, low 0 (G g))
include hG
theorem decode_p (b : List UInt8) (hb : b.length ≤ 100000000) : Does Tryz.prog G 18 [] [.sl 1 (byD b)] (fun h' r => h' = [] ∧ r = .tup [.agg (cmdX (decC b).1), .v (.int .i64 (decC b).2)]) := by
 apply Does.weak
 obtain ⟨o1, k1, _⟩ := rdInt_ok (newR_ok b)
 obtain ⟨o2, k2, _⟩ := rdInt_ok o1
 obtain ⟨o3, k3, _⟩ := rdInt_ok o2
 obtain ⟨o4, k4, hN⟩ := rdCount_ok o3
 refine does_of_aw Tryz.func18 rfl (Nat.le_of_ble_eq_true rfl) hG fun hl0 _ => ?_
 simp only [Tryz.ntmps18]
 repeat' first
  | refine aw_seq' ?_
  | refine aw_region' ?_
  | refine aw_block ?_
  | refine ao_nil ?_
  | (refine ao1 rfl rfl fun K HK => ?_; simp only [go_sem, ↓reduceIte, Nat.reduceEqDiff, Nat.reduceAdd, Nat.reduceLeDiff, Nat.reduceBEq, Nat.reduceMul, Int.reduceEq, Int.reduceLT, Int.reduceLE] <;> (refine HK _ _ ?_; clear HK K))
  | (refine ao2 rfl rfl rfl ent_47 (newReader_d G hG b (by omega) _) ?_; rintro _ _ ⟨rfl, rfl⟩)
  | (refine ao2 rfl rfl rfl ent_48 (rInt_d G hG 1 ⟨b, 0, 0, 0⟩ _ rfl (newR_ok b) (by show b.length ≤ _; omega)) ?_; rintro _ _ ⟨rfl, rfl⟩)
  | (refine ao2 rfl rfl rfl ent_48 (rInt_d G hG 1 _ _ rfl o1 (by rw [k1]; show b.length ≤ _; omega)) ?_; rintro _ _ ⟨rfl, rfl⟩)
  | (refine ao2 rfl rfl rfl ent_48 (rInt_d G hG 1 _ _ rfl o2 (by rw [k2, k1]; show b.length ≤ _; omega)) ?_; rintro _ _ ⟨rfl, rfl⟩)
  | (refine ao2 rfl rfl rfl ent_49 (rCount_d G hG 1 _ _ rfl o3 (by rw [k3, k2, k1]; show b.length ≤ _; omega)) ?_; rintro _ _ ⟨rfl, rfl⟩)
  | (refine ao1' rfl fun K HK => ?_; simp only [go_sem, ↓reduceIte, Nat.reduceEqDiff, Nat.reduceAdd, Nat.reduceLeDiff, Nat.reduceBEq, Nat.reduceMul, Int.reduceEq, Int.reduceLT, Int.reduceLE]; refine HK _ _ ?_; clear HK K)
 generalize e1 : rdInt ⟨b, 0, 0, 0⟩ = r1 at o1 k1 o2 k2 o3 k3 o4 k4 hN ⊢
 generalize e2 : rdInt r1.2 = r2 at o2 k2 o3 k3 o4 k4 hN ⊢
 generalize e3 : rdInt r2.2 = r3 at o3 k3 o4 k4 hN ⊢
 generalize e4 : rdCount r3.2 = r4 at o4 k4 hN ⊢
 have hd : r4.2.data = b := by rw [k4, k3, k2, k1]
 have hN' : r4.1 ≤ b.length := by rw [k3, k2, k1] at hN; exact hN
 refine aw_nilcell 72 2 2 [.v (.int .i64 r1.1), .v (.int .i64 r2.1), .v (.int .i64 r3.1)] [.v (.int .i64 0), .v (.slice none 0 0)] rfl ?_
 refine aw_for (fun m e h' => ∃ (k : Nat) (acc : List (ByteArray × List UInt8)) (s : RS) (T : List Ob), k ≤ r4.1 ∧ m = r4.1 - k ∧ (acc ++ (rdAll rdWr (r4.1 - k) s).1, (rdAll rdWr (r4.1 - k) s).2) = rdAll rdWr r4.1 r4.2 ∧ s.Ok ∧ s.data = b ∧ acc.length = k ∧ h' = dM (.cells [.v (.int .i64 0), .v (.int .i64 0), .v (.int .i64 0), .v (.slice none 0 0), .v (.int .i64 0), .v (.slice none 0 0)]) (rdrOb s) (.cells [.v (.int .i64 r1.1), .v (.int .i64 r2.1), .v (.int .i64 r3.1), .buf 3 k, .v (.int .i64 0), .v (.slice none 0 0)]) (.buf 72 2 (acc.map wrX)) T ∧ e 2 = .ptr 0 0 ∧ e 4 = .ptr 1 0 ∧ e 5 = .ptr 2 0 ∧ e 19 = .v (.int .i64 r4.1) ∧ e 20 = .v (.int .i64 k)) r4.1 ⟨0, [], r4.2, [], Nat.zero_le _, rfl, rfl, o4, hd, rfl, rfl, rfl, rfl, rfl, rfl, rfl⟩ ?_
 rintro m e h' ⟨k, acc, s, T, hk, rfl, hR, ho, hsd, hal, rfl, e2', e4', e5', e19, e20⟩
 have hsl : s.data.length ≤ 1000000000 := by rw [hsd]; omega
 by_cases hlt : k < r4.1
 · have ⟨ob, kb, hbl⟩ := rdBytes_ok ho
   have ⟨oc, kc, hcl⟩ := rdBytes_ok ob
   have hbl2 : (rdBytes s).2.data.length ≤ 1000000000 := by rw [kb]; exact hsl
   have wk : IntKind.i64.wrap ((k : Int) + 1) = ((k + 1 : Nat) : Int) := IntWalk.i64_in _ (by omega)
   repeat' first
    | (refine ao_appB rfl rfl rfl rfl dM_3 (by simp [hal]) (by simp only [go_sem]; rfl) (by first | exact dM_l4 | exact dM_l3 | exact dM_l) (by simp) (by simp [rowsOk, D.one, Value.oneCell']) (by simp; omega) ?_)
    | refine aw_seq' ?_
    | refine aw_region' ?_
    | refine aw_block ?_
    | refine ao_nil ?_
    | (refine ao1 rfl rfl fun K HK => ?_; simp only [go_sem, ↓reduceIte, Nat.reduceEqDiff, Nat.reduceAdd, Nat.reduceLeDiff, Nat.reduceBEq, Nat.reduceMul, Int.reduceEq, Int.reduceLT, Int.reduceLE, e2', e4', e5', e19, e20, wk, dM_0, dM_1, dM_2, dM_3, dM_s1, dM_s2, dM_s3, dM_app, dM_len, dM_l, dM_sl, dM_l2, dM_sl2]; (first | refine splitB (fun hq => ?_) (fun hq => ?_) | skip) <;> (refine HK _ _ ?_; clear HK K))
    | (refine ao2 rfl rfl rfl ent_50 (rText_d G hG 1 s _ dM_1 ho hsl) ?_; rintro _ _ ⟨rfl, rfl⟩)
    | (refine ao2 rfl rfl rfl ent_51 (rBytes_d G hG 1 (rdBytes s).2 _ (by first | exact dM_1 | rfl) ob hbl2) ?_; rintro _ _ ⟨rfl, rfl⟩)
    | (refine ao1' rfl fun K HK => ?_; simp only [go_sem, ↓reduceIte, Nat.reduceEqDiff, Nat.reduceAdd, Nat.reduceLeDiff, Nat.reduceBEq, Nat.reduceMul, Int.reduceEq, Int.reduceLT, Int.reduceLE, e2', e4', e5', e19, e20, wk, dM_0, dM_1, dM_2, dM_3, dM_s1, dM_s2, dM_s3, dM_app, dM_len, dM_l, dM_sl, dM_l2, dM_sl2]; refine HK _ _ ?_; clear HK K)
    | refine aw_if1 rfl ?_
    | refine aw_if0 rfl ?_
    | refine aw_skip ?_
    | refine aw_exit ?_
    | refine thenS_n ?_
    | (exfalso; omega)
   refine ⟨rfl, r4.1 - (k + 1), by omega, k + 1, acc ++ [(rdWr s).1], (rdWr s).2, T ++ [.cells (wrX (rdWr s).1), .buf 72 2 [wrX (rdWr s).1]], by omega, rfl, ?_, oc, (kc.trans (kb.trans hsd) : (rdBytes (rdBytes s).2).2.data = b), by simp [hal], ?_, by simp [upd, e2'], by simp [upd, e4'], by simp [upd, e5'], by simp [upd, e19], rfl⟩
   · rw [← hR, show r4.1 - k = r4.1 - (k + 1) + 1 by omega, rdAll]
     simp only [List.append_assoc, List.singleton_append]
   · exact congrArg (fun x => dM (.cells [.v (.int .i64 0), .v (.int .i64 0), .v (.int .i64 0), .v (.slice none 0 0), .v (.int .i64 0), .v (.slice none 0 0)]) (rdrOb (rdWr s).2) (.cells [.v (.int .i64 r1.1), .v (.int .i64 r2.1), .v (.int .i64 r3.1), .buf 3 (k + 1), .v (.int .i64 0), .v (.slice none 0 0)]) (  .buf 72 2 x) (T ++ [.cells (wrX (rdWr s).1), .buf 72 2 [wrX (rdWr s).1]])) (by simp : acc.map wrX ++ [wrX (rdWr s).1] = (acc ++ [(rdWr s).1]).map wrX)
 have hk' : k = r4.1 := by omega
 subst hk'
 rw [Nat.sub_self, rdAll, List.append_nil] at hR
 have hA : rdCmdA ⟨b, 0, 0, 0⟩ = (⟨r1.1, r2.1, r3.1, acc, (rdInt s).1, (rdBytes (rdInt s).2).1⟩, (rdBytes (rdInt s).2).2) := by
  unfold rdCmdA rdCw rdListA
  simp only [e1, e2, e3, e4, ← hR]
 have ⟨o5, k5, _⟩ := rdInt_ok ho
 have ⟨o6, k6, _⟩ := rdBytes_ok o5
 have l5 : (rdInt s).2.data.length ≤ 1000000000 := by rw [k5]; exact hsl
 have l6 : (rdBytes (rdInt s).2).2.data.length ≤ 1000000000 := by rw [k6, k5]; exact hsl
 repeat' first
  | (refine ao_ldgive (j := 3) (d' := .agg (cmdX ⟨r1.1, r2.1, r3.1, acc, (rdInt s).1, (rdBytes (rdInt s).2).1⟩)) rfl rfl (by first | rfl | (simp only [go_sem, e5']; rfl)) dM_2 (by rw [getD_agg' (by simp only [go_sem])]; simp only [go_sem]; rfl) (by simp [cvD, cv1, dM_3, hal, cmdX]) ?_)
  | (refine ao1' rfl fun K HK => ?_; refine aOp_stw (i := 0) (es := cmdX ⟨r1.1, r2.1, r3.1, acc, (rdInt s).1, (rdBytes (rdInt s).2).1⟩) (by first | rfl | (simp only [go_sem, e2']; rfl)) rfl rfl (by simp only [go_sem]; rfl) rfl ?_; refine HK _ _ ?_; clear HK K)
  | refine aw_seq' ?_
  | refine aw_region' ?_
  | refine aw_block ?_
  | refine ao_nil ?_
  | (refine ao1 rfl rfl fun K HK => ?_; simp only [go_sem, ↓reduceIte, Nat.reduceEqDiff, Nat.reduceAdd, Nat.reduceLeDiff, Nat.reduceBEq, Nat.reduceMul, Int.reduceEq, Int.reduceLT, Int.reduceLE, e2', e4', e5', e19, e20, dM_0, dM_1, dM_2, dM_3, dM_s1, dM_s2, dM_s3, dM_app, dM_len, dM_l, dM_sl, dM_l2, dM_sl2]; (first | refine splitB (fun hq => ?_) (fun hq => ?_) | refine splitN (fun hq => ?_) (fun hq => ?_) | skip) <;> (refine HK _ _ ?_; clear HK K))
  | (refine ao2 rfl rfl rfl ent_48 (rInt_d G hG 1 s _ dM_1 ho hsl) ?_; rintro _ _ ⟨rfl, rfl⟩)
  | (refine ao2 rfl rfl rfl ent_51 (rBytes_d G hG 1 (rdInt s).2 _ (by first | exact dM_1 | rfl) o5 l5) ?_; rintro _ _ ⟨rfl, rfl⟩)
  | (refine ao2 rfl rfl rfl ent_52 (rEnd_d G hG 1 (rdBytes (rdInt s).2).2 _ (by first | exact dM_1 | rfl) o6 l6) ?_; rintro _ _ ⟨rfl, rfl⟩)
  | (refine ao1' rfl fun K HK => ?_; simp only [go_sem, ↓reduceIte, Nat.reduceEqDiff, Nat.reduceAdd, Nat.reduceLeDiff, Nat.reduceBEq, Nat.reduceMul, Int.reduceEq, Int.reduceLT, Int.reduceLE, e2', e4', e5', e19, e20, dM_0, dM_1, dM_2, dM_3, dM_s1, dM_s2, dM_s3, dM_app, dM_len, dM_l, dM_sl, dM_l2, dM_sl2]; refine HK _ _ ?_; clear HK K)
  | refine aw_if1 rfl ?_
  | refine aw_if0 rfl ?_
  | refine aw_skip ?_
  | refine aw_exit ?_
  | refine aw_ret ?_
  | refine thenS_r ?_
  | (exfalso; omega)
 · have hdec := decC_yes hA hq o6.pos (by rw [k6, k5, hsd])
   rw [hdec]
   exact ⟨.inr rfl, endD (ds := [.agg (cmdX ⟨r1.1, r2.1, r3.1, acc, (rdInt s).1, (rdBytes (rdInt s).2).1⟩), .v (.int .i64 0)]) (r := .tup [.agg (cmdX ⟨r1.1, r2.1, r3.1, acc, (rdInt s).1, (rdBytes (rdInt s).2).1⟩), .v (.int .i64 0)]) hl0 (resD_cell2 (i := 0) (o := 0) (by simp [upd, e2']) rfl (by rw [getD_agg' (by simp only [go_sem])]; simp only [go_sem]; rfl) rfl) (by simp) (by simp) rfl (by rw [low, lowL, lowL, lowL]; exact ⟨low_agg _ _, by rw [low]; trivial, trivial⟩) ⟨_, ⟨rfl, rfl⟩, fun _ _ _ _ q => q⟩⟩
 · rw [decC_no hA hq (by rw [k6, k5, hsd])]
   exact ⟨.inr rfl, endD (ds := [.agg zC, .v (.int .i64 2)]) (r := .tup [.agg zC, .v (.int .i64 2)]) hl0 (resD_cell2 (i := 0) (o := 0) (by simp [upd, e2']) rfl (by rw [getD_agg' (by simp only [go_sem])]; simp only [go_sem]; rfl) rfl) (by simp) (by simp) rfl (by simp [low, lowL, zC]) ⟨_, ⟨rfl, rfl⟩, zC_weak⟩⟩
end
section
set_option maxRecDepth 100000
set_option maxHeartbeats 1000000
attribute [local irreducible] on aOp
attribute [local go_sem] decide_true decide_false Bool.not_true Bool.not_false
attribute [local simp] byD_len
def rG (rows : List (List D)) (T : List Ob) : List Ob := .buf 5 1 rows :: T
section
variable {rows r2 : List (List D)} {T l : List Ob}
end
variable (G : Nat → D) (hG : ∀ g, low 0 (G g))
include hG
omit hG in
omit hG in
end
section
set_option maxRecDepth 100000
set_option maxHeartbeats 1000000
attribute [local irreducible] on aOp
attribute [local go_sem] decide_true decide_false Bool.not_true Bool.not_false
attribute [local simp] byD_len
def cmpC (a b : Cmd) : Int := orI [cmpI a.client b.client, cmpI a.seq b.seq, Lib.compareBytes (encC a) (encC b)]
variable (G : Nat → D) (hG : ∀ g, low 0 (G g))
include hG
theorem or_s (l : List Int) (hl : l.length ≤ 1000) (h : List Ob) (i : Nat) (hi : h[i]? = some (.buf 3 1 (l.map intX))) : Does Tryz.prog G 68 h [.buf i l.length] (fun h' r => h' = h.set i (.buf 3 1 (l.map intX)) ∧ r = .v (.int .i64 (orI l))) := by
 rw [set_same hi]; exact or_b G hG l hl h i hi
theorem compare_d (a b : Cmd) (ha : a.Ok) (hb : b.Ok) (h : List Ob) : Does Tryz.prog G 27 h [.agg (cmdX a), .agg (cmdX b)] (fun h' r => h' = h ∧ r = .v (.int .i64 (cmpC a b))) := by
 refine does_any G hG (by rw [lowL, lowL, lowL]; exact ⟨low_agg _ _, low_agg _ _, trivial⟩) (by rw [low]; trivial) ?_ h
 have la := encC_len a ha
 have lb := encC_len b hb
 refine does_of_aw Tryz.func27 rfl (Nat.le_of_ble_eq_true rfl) hG fun hl0 _ => ?_
 simp only [Tryz.ntmps27]
 repeat' first
  | (refine aS_load rfl rfl rfl (by (simp only [go_sem, ↓reduceIte, Nat.reduceEqDiff, Nat.reduceAdd, Nat.reduceLeDiff, Nat.reduceBEq, Nat.reduceMul, Int.reduceEq, Int.reduceLT, Int.reduceLE, cmdX_eq]; rfl)) (by rw [getD_agg' aggT_40, szT_40]; rfl) ?_)
  | (refine aS1 rfl rfl fun K HK => ?_; simp only [go_sem]; refine bst_by (n := 1) (h := []) byT_38 strT_9 ?_; refine HK _ _ rfl ?_; clear HK K)
  | refine aw_seq' ?_
  | refine aw_region' ?_
  | refine ao_nil ?_
  | ((first | refine ao1 rfl rfl fun K HK => ?_ | refine aS1 rfl rfl fun K HK => ?_); simp only [go_sem, ↓reduceIte, Nat.reduceEqDiff, Nat.reduceAdd, Nat.reduceLeDiff, Nat.reduceBEq, Nat.reduceMul, Int.reduceEq, Int.reduceLT, Int.reduceLE, cmdX_eq] <;> ((first | refine HK _ _ ?_ | refine HK _ _ rfl ?_); clear HK K))
  | (refine aw_drawE mixd (by kernel_rfl) ?_)
  | refine aS_load rfl rfl rfl (by (simp only [go_sem, ↓reduceIte, Nat.reduceEqDiff, Nat.reduceAdd, Nat.reduceLeDiff, Nat.reduceBEq, Nat.reduceMul, Int.reduceEq, Int.reduceLT, Int.reduceLE, cmdX_eq]; rfl)) (by rw [getD_one (by simp only [go_sem, ↓reduceIte, Nat.reduceEqDiff, Nat.reduceAdd, Nat.reduceLeDiff, Nat.reduceBEq, Nat.reduceMul, Int.reduceEq, Int.reduceLT, Int.reduceLE, cmdX_eq])]; rfl) ?_
  | refine aS_lit rfl rfl (by simp only [litD, litRows, go_sem, List.length_cons, List.length_nil, Option.map_some, Option.bind_some, and_self, ↓reduceIte, Nat.reduceEqDiff, Nat.reduceAdd, Nat.reduceLeDiff, Nat.reduceBEq, Nat.reduceMul, Int.reduceEq, Int.reduceLT, Int.reduceLE, cmdX_eq]; rfl) ?_
  | refine aS_nil (by simp only [List.reverse_cons, List.reverse_nil, List.nil_append, List.cons_append, chkAll, chk1]; repeat' (first | exact trivial | refine And.intro ?_ ?_ | exact .inr compat_pl | exact .inr compat_pr | exact .inr compat_rr | exact .inr (compat_rw (by omega)) | (refine .inr ?_; simp [compat, readE, writE, pureE, nop] <;> omega) | exact .inl (by kernel_rfl))) ?_
  | refine aS_call0 rfl rfl rfl ent_69 (fun h2 => cmpInt_d G hG _ _ _) ?_
  | refine aS_call0 rfl rfl rfl ent_17 (fun h2 => encode_d G hG a ha _) ?_
  | refine aS_call0 rfl rfl rfl ent_17 (fun h2 => encode_d G hG b hb _) ?_
  | refine aS_call0 rfl rfl rfl ent_70 (fun h2 => scmp_d G hG _ _ _) ?_
  | refine aS_call1 rfl rfl rfl ent_68 (by (simp only [go_sem, ↓reduceIte, Nat.reduceEqDiff, Nat.reduceAdd, Nat.reduceLeDiff, Nat.reduceBEq, Nat.reduceMul, Int.reduceEq, Int.reduceLT, Int.reduceLE, cmdX_eq]; rfl)) (fun h2 k2 => or_s G hG [cmpI a.client b.client, cmpI a.seq b.seq, Lib.compareBytes (encC a) (encC b)] (by simp) h2 2 k2) ?_
  | refine aw_ret ?_
 exact ⟨.inr rfl, endD (r := .v _) hl0 rfl (by simp) (by simp) rfl (by rw [low]; trivial) ⟨rfl, rfl⟩⟩
end
section
set_option maxRecDepth 100000
set_option maxHeartbeats 1000000
attribute [local irreducible] on aOp
attribute [local go_sem] decide_true decide_false Bool.not_true Bool.not_false
attribute [local simp] byD_len
variable (G : Nat → D) (hG : ∀ g, low 0 (G g))
include hG
end
section
def kC (l : List UInt8) : List D := l.map fun b => .v (.int .u8 b.toNat)
theorem kC_len (l : List UInt8) : (kC l).length = l.length := List.length_map ..
theorem all_kC : ∀ l : List UInt8, (kC l).all D.one = true
 | [] => rfl
 | a :: l => by unfold kC; rw [List.map_cons, List.all_cons]; have := all_kC l; unfold kC at this; rw [this]; rfl
theorem low_kC (m : Nat) : ∀ l : List UInt8, lowL m (kC l)
 | [] => by unfold kC; rw [List.map_nil, lowL]; trivial
 | a :: l => by unfold kC; rw [List.map_cons, lowL]; exact ⟨by rw [low]; trivial, low_kC m l⟩
theorem kC_rows (l : List UInt8) : (kC l).map (fun d => [d]) = byD l := by simp [kC, byD]
theorem byD_flatten (l : List UInt8) : (byD l).flatten = kC l := by
 induction l with
 | nil => rfl
 | cons a t ih => simp only [byD, kC, List.map_cons, List.flatten_cons] at ih ⊢; rw [ih]; rfl
theorem putL_kb {W : List UInt8} {k : Nat} {b : UInt8} {z : Int} (h : k < W.length) (hz : z = (b.toNat : Int)) : putL (kC W) (0 + k) [.v (.int .u8 z)] = kC (W.set k b) := by
 subst hz
 rw [Nat.zero_add]
 apply List.ext_getElem?
 intro i
 unfold kC
 rw [putL_get (by simp; omega), List.getElem?_map, List.getElem?_map, List.getElem?_set]
 by_cases hi : i = k
 · subst hi; simp [h]
 · rw [if_neg (by simp; omega), if_neg (fun e => hi e.symm)]
theorem putL_k0 {W k : List UInt8} (h : k.length ≤ W.length) : putL (kC W) 0 (byD k).flatten = kC (k ++ W.drop k.length) := by
 rw [byD_flatten]
 unfold putL kC
 simp [List.map_drop]
section
variable {P : Program} {G : Nat → D} {e : Nat → D} {h : List Ob} {K : List Ob → D → Prop} {u : TypeId} {x y : Operand} {i n m k : Nat}
theorem getD_kb {W : List UInt8} {b : UInt8} (ha : aggT P u = some false) (hx : W[k]? = some b) : getD P u (kC W) (0 + k) = some (.v (.int .u8 b.toNat)) := by
 rw [getD_one ha, Nat.zero_add]; unfold kC; rw [List.getElem?_map, hx]; rfl
theorem getD_ka {W : List UInt8} (ha : aggT P u = some true) (hs : szT P u = some n) (hl : W.length = n) : getD P u (kC W) 0 = some (.agg (kC W)) := by
 rw [getD_agg ha hs (by rw [kC_len]; omega), List.drop_zero, List.take_of_length_le (by rw [kC_len]; omega)]
theorem aOp_alc {ds : List D} (hz : zeroD P u = some ds) (q : K (h ++ [.cells ds]) (.ptr h.length 0)) : aOp P G e h K (.alloc u) := by
 have e1 : aOp P G e h K (.alloc u) = on (zeroD P u) fun ds => K (h ++ [.cells ds]) (.ptr h.length 0) := rfl
 rw [e1, hz]; exact q
end
theorem aOp_bsl {P : Program} {G : Nat → D} {e : Nat → D} {h : List Ob} {K : List Ob → D → Prop} {t u : TypeId} {x : Operand} {bs : List UInt8} (hx : ev G e x = .sl 1 (byD bs)) (h1 : byT P t = true) (h2 : strT P u = true) (q : K h (.v (.string ⟨bs.toArray⟩))) : aOp P G e h K (.convert t u x) := by
 have e1 : aOp P G e h K (.convert t u x) = cvA P h t u (ev G e x) K := rfl
 rw [e1, hx]
 exact ⟨h1, h2, bs, rfl, q⟩
theorem xor_byte (w x : UInt8) : IntKind.u8.wrap ((BitVec.ofInt 8 (w.toNat : Int) ^^^ BitVec.ofInt 8 (x.toNat : Int)).toNat : Int) = ((w ^^^ x).toNat : Int) := by
 have e : ∀ w : UInt8, BitVec.ofInt 8 (w.toNat : Int) = w.toBitVec := fun w => by
  apply BitVec.eq_of_toNat_eq
  have := w.toNat_lt
  simp
 rw [e, e, wrap8_nn]
 have := (w ^^^ x).toNat_lt
 have h2 : (w.toBitVec ^^^ x.toBitVec).toNat = (w ^^^ x).toNat := rfl
 rw [h2]; omega
theorem ao_mkfc {P : Program} {G : Nat → D} {n : Nat} {e : Nat → D} {h : List Ob} {ops : Array Oper} {rest : List Oper} {Q : S → Prop} {t : Nat} {ty : TypeId} {pos : String} {aft : Array Edge} {gd : Option (Nat × Bool)} {f : FuncId} {caps : Array Operand} (hw : wantedD ops gd e = some true) (ht : decide (t < n) = true)
 (q : ao P G ops rest Q ⟨n, upd e t (.fn f (caps.toList.map (ev G e))), h⟩) : ao P G ops (⟨some t, .makeFunc (.func f) #[] caps, ty, pos, aft, gd⟩ :: rest) Q ⟨n, e, h⟩ := by
 have hN : nF P G e h (.makeFunc (.func f) #[] caps) = some (h, .fn f (caps.toList.map (ev G e))) := rfl
 exact ao_nFc hw ht hN q
section
variable {P : Program} {G : Nat → D} {n : Nat} {e : Nat → D} {h : List Ob} {ops : Array Oper} {rest : List Oper} {Q : S → Prop} {t : Nat} {ty : TypeId} {pos : String} {aft : Array Edge} {gd : Option (Nat × Bool)}
theorem ao_tri1 {op : Op} {h' : List Ob} {d : D} (hw : wantedD ops gd e = some true) (ht : decide (t < n) = true) (q : OpTri P G ⟨some t, op, ty, pos, aft, gd⟩ ((opds op).map (ev G e)) h (fun h1 d1 => h1 = h' ∧ d1 = d)) (k : ao P G ops rest Q ⟨n, upd e t d, h'⟩) : ao P G ops (⟨some t, op, ty, pos, aft, gd⟩ :: rest) Q ⟨n, e, h⟩ := by
 refine ao_tri hw q ?_
 unfold putE
 simp only [if_pos (of_decide_eq_true ht)]
 exact k
end
theorem Does.give1c {P : Program} {G : Nat → D} {f : FuncId} {h : List Ob} {i E k n : Nat} {rows : List (List D)} {K : List Ob → D → Prop} (hi : h[i]? = some (.buf E k rows)) (hn : rows.length = n) (q : Does P G f (h.set i .dead) [.sl k rows] K) : Does P G f h [.buf i n] K := fun w hd p vs ok ha => by
 rw [rdL] at ha
 obtain ⟨u, t, rfl, hu, ht⟩ := ha
 rw [rdL] at ht; subst ht
 obtain ⟨p', o', ev, cv⟩ := ok.give (fun j => j == i)
 have hr := cv _ _ hu
 have e : cvD (fun j => j == i) h (.buf i n) = .sl k rows := by simp [cvD, cv1, hi, hn]
 rw [e] at hr
 rw [killH_one] at o' ev hr
 refine (q w hd p' [u] o' (by rw [rdL]; exact ⟨u, [], rfl, hr, by rw [rdL]⟩)).mono ?_
 rintro e w' ⟨v, hd', h', r, p2, rfl, hK, ok2, hr2, ev2⟩
 exact ⟨v, hd', h', r, p2, rfl, hK, ok2, hr2, ev.trans ev2⟩
end
end Go.Proofs.YtgkjcmglcnhpaaaGreatDoor
