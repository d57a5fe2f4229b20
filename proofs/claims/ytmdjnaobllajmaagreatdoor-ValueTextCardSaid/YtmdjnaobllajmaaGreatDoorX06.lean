/-
  What the statements of the chapter share, part 06: VVal2.
-/
import Derived.Test.YtmdjnaobllajmaaGreatDoorX05
import Derived.BigGuardPart
set_option linter.unusedVariables false
set_option linter.unusedSimpArgs false
set_option maxRecDepth 100000
set_option maxHeartbeats 8000000
namespace Go.Proofs.YtmdjnaobllajmaaGreatDoor
open Go.RowKit
theorem used_walk (n : Int) (nl pl el : Nat) (an ap ae : Option Addr) (cn cp ce : Nat) (b1 b2 b3 b4 : Bool) (w : World) :
 Calls Tryz.prog 64 #[.agg #[.int .i64 n, .slice an nl cn, .slice ap pl cp, .slice ae el ce], .bool b1, .bool b2, .bool b3, .bool b4] w fun e w' =>
  e = .returned (.bool ((b1 || (n == 0)) && (b2 || ((nl : Int) == 0)) && (b3 || ((pl : Int) == 0)) && (b4 || ((el : Int) == 0)))) ∧ Below w.heap.size w w' := by
 have HB : Hid (∀ O, Below w.heap.size w (w.alloc O)) := hid fun O => (Below.refl _ _).alloc (Nat.le_refl _) O
 go_enter Tryz.func64, Tryz.ntmps64
 go_wp2_with fail
 all_goals
  go_ret
  exact ⟨ret_bool (by simp_all), HB.out _⟩
theorem beq0 (n : Nat) : ((n : Int) == 0) = decide (n = 0) := by
 by_cases h : n = 0
 · subst h; rfl
 · rw [decide_eq_false h]; simp; exact h
theorem used_any (v : Val) (cs : List Value) (b1 b2 b3 b4 : Bool) (w : World) (hv : valRd w v cs) :
 Calls Tryz.prog 64 #[.agg cs.toArray, .bool b1, .bool b2, .bool b3, .bool b4] w fun e w' => e = .returned (.bool (usedB v b1 b2 b3 b4)) ∧ Below w.heap.size w w' := by
 obtain ⟨an, cn, ap, cp, ae, ce, rfl, _, hn, hp, he, _⟩ := valRd.lay hv
 refine (used_walk v.n v.names.length v.parts.length v.entries.length an ap ae cn cp ce b1 b2 b3 b4 w).mono ?_
 rintro e w' ⟨rfl, hb⟩
 refine ⟨ret_bool ?_, hb⟩
 rw [beq0, beq0, beq0]
 unfold usedB
 rw [show (v.n == 0) = decide (v.n = 0) from rfl]
theorem allowed_any (v u : Value) (a b : List ByteArray) (w : World) (hv : Strs w v a) (hu : Strs w u b) :
 Calls Tryz.prog 65 #[v, u] w fun e w' => e = .returned (.bool (allowedB a b)) ∧ Below w.heap.size w w' := by
 obtain ⟨aa, ca, rfl, _, hma⟩ := hv.shape
 obtain ⟨ab, cb, rfl, _, hmb⟩ := hu.shape
 have HV := hid hv
 have HU := hid hu
 clear hv hu
 go_enter Tryz.func65, Tryz.ntmps65
 go_wp2_with fail
 refine (sorted_any _ b _ HU.out).mono ?_
 rintro e w1 ⟨rfl, n, hw1⟩
 have HB1 : Hid (Below w.heap.size w w1) := hid (by rw [hw1]; exact below_drewN' (Below.refl _ _) _)
 clear hw1
 cases hs : sortedB b
 · have HX : Hid (allowedB a b = false) := hid (by unfold allowedB; rw [hs]; rfl)
   clear hs
   go_wp2_with fail
   go_ret
   exact ⟨ret_bool HX.out.symm, HB1.out⟩
 · have HX : Hid (allowedB a b = b.all (memB a)) := hid (by unfold allowedB; rw [hs]; rfl)
   clear hs
   have HU1 := hid (HU.out.below HB1.out)
   have HV1 := hid (HV.out.below HB1.out)
   go_wp2_with fail
   go_loop [6, 12] (fun _ i => ∃ (k : Nat), k ≤ b.length ∧ i = .int .i64 k ∧ Hid (allowedB a b = (b.drop k).all (memB a))) (fun _ i => b.length - (intOf i).toNat)
   case atStart => exact ⟨0, Nat.zero_le _, rfl, hid (by rw [HX.out, List.drop_zero])⟩
   case round =>
    obtain ⟨k, hk, rfl, He⟩ := hrel
    by_cases hlt : k < b.length
    · obtain ⟨bb, o, rfl, hcell, hsz⟩ := HU1.out.cell k hlt
      have HD : Hid (allowedB a b = (nameB b[k] && (decide (a.length = 0) || hasS a b[k]) && (b.drop (k + 1)).all (memB a))) := hid (by rw [He.out, drop_consS b k hlt, List.all_cons]; rfl)
      cases h1 : nameB b[k]
      · have HE : Hid (allowedB a b = false) := hid (by rw [HD.out, h1]; rfl)
        have HC := hid h1
        clear h1
        go_wp2_with fail
        refine (nameValid_any _ _ hsz).mono ?_
        rintro e w2 ⟨rfl, rfl⟩
        rw [HC.out]
        go_wp2_with fail
        go_ret
        exact ⟨ret_bool HE.out.symm, HB1.out⟩
      · have HE : Hid (allowedB a b = ((decide (a.length = 0) || hasS a b[k]) && (b.drop (k + 1)).all (memB a))) := hid (by rw [HD.out, h1, Bool.true_and])
        have HC := hid h1
        clear h1
        by_cases h0 : a.length = 0
        · have HE2 : Hid (allowedB a b = (b.drop (k + 1)).all (memB a)) := hid (by rw [HE.out, decide_eq_true h0, Bool.true_or, Bool.true_and])
          have h0b : decide (0 < a.length) = false := decide_eq_false (by omega)
          have h0c : decide ((0 : Int) < (a.length : Int)) = false := decide_eq_false (by omega)
          clear h0
          go_wp2_with fail
          refine (nameValid_any _ _ hsz).mono ?_
          rintro e w2 ⟨rfl, rfl⟩
          rw [HC.out]
          go_wp2_with fail
          go_round
          case rel => exact ⟨k + 1, by omega, by go_num, HE2⟩
          case measure => simp [intOf]; omega
        · have HE2 : Hid (allowedB a b = (hasS a b[k] && (b.drop (k + 1)).all (memB a))) := hid (by rw [HE.out, decide_eq_false h0, Bool.false_or])
          have h0b : decide (0 < a.length) = true := decide_eq_true (by omega)
          have h0c : decide ((0 : Int) < (a.length : Int)) = true := decide_eq_true (by omega)
          clear h0
          go_wp2_with fail
          refine (nameValid_any _ _ hsz).mono ?_
          rintro e w2 ⟨rfl, rfl⟩
          rw [HC.out]
          go_wp2_with fail
          refine (has_any _ a _ _ HV1.out).mono ?_
          rintro e w2 ⟨rfl, rfl⟩
          cases h2 : hasS a b[k]
          · have HE3 : Hid (allowedB a b = false) := hid (by rw [HE2.out, h2]; rfl)
            clear h2
            go_wp2_with fail
            go_ret
            exact ⟨ret_bool HE3.out.symm, HB1.out⟩
          · have HE3 : Hid (allowedB a b = (b.drop (k + 1)).all (memB a)) := hid (by rw [HE2.out, h2]; rfl)
            clear h2
            go_wp2_with fail
            go_round
            case rel => exact ⟨k + 1, by omega, by go_num, HE3⟩
            case measure => simp [intOf]; omega
    · have HF : Hid (allowedB a b = true) := hid (by rw [He.out, List.drop_eq_nil_of_le (by omega)]; rfl)
      go_wp2_with fail
      go_ret
      exact ⟨ret_bool HF.out.symm, HB1.out⟩
theorem closed_any (v u : Value) (rs : List Rl) (b : List ByteArray) (w : World) (hv : SlRd w 2 (ruleRd w) v rs) (hu : Strs w u b) :
 Calls Tryz.prog 66 #[v, u] w fun e w' => e = .returned (.bool (closedB rs b)) ∧ Below w.heap.size w w' := by
 obtain ⟨ar, cr, rfl, _, hmr⟩ := hv.shape
 obtain ⟨ab, cb, rfl, _, hmb⟩ := hu.shape
 have HV := hid hv
 have HU := hid hu
 clear hv hu
 go_enter Tryz.func66, Tryz.ntmps66
 go_wp2_with fail
 go_loopw [6, 9] (fun _ i wr => ∃ (k : Nat), k ≤ rs.length ∧ i = .int .i64 k ∧ Hid (closedB rs b = closedB (rs.drop k) b) ∧ Hid (Below w.heap.size w wr)) (fun _ i _ => rs.length - (intOf i).toNat)
 case atStart => exact ⟨0, Nat.zero_le _, rfl, hid (by rw [List.drop_zero]), hid (Below.refl _ _)⟩
 case round =>
  obtain ⟨k, hk, rfl, He, HW⟩ := hrel
  by_cases hlt : k < rs.length
  · obtain ⟨bb, o, cs, ha, hl0, hcs, vc, hcv, hcond, hconcl⟩ := HV.out.at k hlt
    subst ha
    subst hcv
    have c0 : wr.cell? ⟨bb, o + k * 2, none⟩ = some vc := (hcs.below HW.out) 0 (by simp)
    have c1 : wr.cell? ⟨bb, o + k * 2 + 1, none⟩ = some (.string rs[k].concl) := (hcs.below HW.out) 1 (by simp)
    have HC0 := hid (hcond.below HW.out)
    have HU0 := hid (HU.out.below HW.out)
    obtain ⟨ac, cc, rfl, hlc, hmc⟩ := hcond.shape
    clear hcond hcs
    have HD : Hid (closedB rs b = ((!subsetS rs[k].cond b || hasS b rs[k].concl) && closedB (rs.drop (k + 1)) b)) := hid (by rw [He.out, drop_consS rs k hlt]; unfold closedB; rw [List.all_cons])
    have HA : Hid (∀ O, Below wr.heap.size wr (wr.alloc O)) := hid fun O => (Below.refl _ _).alloc (Nat.le_refl _) O
    have HAW : Hid (∀ O, Below w.heap.size w (wr.alloc O)) := hid fun O => HW.out.alloc HW.out.size O
    go_wp2_with fail
    refine (subset_any _ _ rs[k].cond b _ (HC0.out.below (HA.out _)) (HU0.out.below (HA.out _))).mono ?_
    rintro e w3 ⟨rfl, rfl⟩
    cases h2 : subsetS rs[k].cond b
    · have HE : Hid (closedB rs b = closedB (rs.drop (k + 1)) b) := hid (by rw [HD.out, h2]; rfl)
      clear h2
      go_wp2_with fail
      go_roundw
      case rel => exact ⟨k + 1, by omega, by go_num, HE, hid (HAW.out _)⟩
      case measure => simp [intOf]; omega
    · have HE : Hid (closedB rs b = (hasS b rs[k].concl && closedB (rs.drop (k + 1)) b)) := hid (by rw [HD.out, h2]; rfl)
      clear h2
      go_wp2_with fail
      refine (has_any _ b _ _ (HU0.out.below (HA.out _))).mono ?_
      rintro e w3 ⟨rfl, rfl⟩
      cases h3 : hasS b rs[k].concl
      · have HE2 : Hid (closedB rs b = false) := hid (by rw [HE.out, h3]; rfl)
        clear h3
        go_wp2_with fail
        go_ret
        exact ⟨ret_bool HE2.out.symm, HAW.out _⟩
      · have HE2 : Hid (closedB rs b = closedB (rs.drop (k + 1)) b) := hid (by rw [HE.out, h3]; rfl)
        clear h3
        go_wp2_with fail
        go_roundw
        case rel => exact ⟨k + 1, by omega, by go_num, HE2, hid (HAW.out _)⟩
        case measure => simp [intOf]; omega
  · have HF : Hid (closedB rs b = true) := hid (by rw [He.out, List.drop_eq_nil_of_le (by omega)]; rfl)
    go_wp2_with fail
    go_ret
    exact ⟨ret_bool HF.out.symm, HW.out⟩
end Go.Proofs.YtmdjnaobllajmaaGreatDoor
