/-
  What the statements of the chapter share, part 08: VVal2, VClk, VClk2, VClk3, VReg, VWf, VBot.
-/
import Derived.Test.YtmdjnaobllajmaaGreatDoorE02
import Derived.Test.YtmdjnaobllajmaaGreatDoorE06
import Derived.Test.YtmdjnaobllajmaaGreatDoorE07
import Derived.BigGuardPart
set_option linter.unusedVariables false
set_option linter.unusedSimpArgs false
set_option maxRecDepth 100000
set_option maxHeartbeats 8000000
namespace Go.Proofs.YtmdjnaobllajmaaGreatDoor
open Go.RowKit
theorem used_walk (n : Int) (nl pl el : Nat) (an ap ae : Option Addr) (cn cp ce : Nat) (b1 b2 b3 b4 : Bool) (w : World) :
 Calls Tryz.prog 64 #[.agg #[.int .i64 n, .slice an nl cn, .slice ap pl cp, .slice ae el ce], .bool b1, .bool b2, .bool b3, .bool b4] w fun e w' =>
  e = .returned (.bool ((b1 || (n == 0)) && (b2 || ((nl : Int) == 0)) && (b3 || ((pl : Int) == 0)) && (b4 || ((el : Int) == 0)))) ∧ Below w.heap.size w w' := by
 have HB : Hid (∀ O, Below w.heap.size w (w.alloc O)) := hid fun O => (Below.refl _ _).alloc (Nat.le_refl _) O
 go_enter Tryz.func64, Tryz.ntmps64
 go_wp2_with fail
 all_goals
  go_ret
  exact ⟨ret_bool (by simp_all), HB.out _⟩
theorem beq0 (n : Nat) : ((n : Int) == 0) = decide (n = 0) := by
 by_cases h : n = 0
 · subst h; rfl
 · rw [decide_eq_false h]; simp; exact h
theorem used_any (v : Val) (cs : List Value) (b1 b2 b3 b4 : Bool) (w : World) (hv : valRd w v cs) :
 Calls Tryz.prog 64 #[.agg cs.toArray, .bool b1, .bool b2, .bool b3, .bool b4] w fun e w' => e = .returned (.bool (usedB v b1 b2 b3 b4)) ∧ Below w.heap.size w w' := by
 obtain ⟨an, cn, ap, cp, ae, ce, rfl, _, hn, hp, he, _⟩ := valRd.lay hv
 refine (used_walk v.n v.names.length v.parts.length v.entries.length an ap ae cn cp ce b1 b2 b3 b4 w).mono ?_
 rintro e w' ⟨rfl, hb⟩
 refine ⟨ret_bool ?_, hb⟩
 rw [beq0, beq0, beq0]
 unfold usedB
 rw [show (v.n == 0) = decide (v.n = 0) from rfl]
theorem allowed_any (v u : Value) (a b : List ByteArray) (w : World) (hv : Strs w v a) (hu : Strs w u b) :
 Calls Tryz.prog 65 #[v, u] w fun e w' => e = .returned (.bool (allowedB a b)) ∧ Below w.heap.size w w' := by
 obtain ⟨aa, ca, rfl, _, hma⟩ := hv.shape
 obtain ⟨ab, cb, rfl, _, hmb⟩ := hu.shape
 have HV := hid hv
 have HU := hid hu
 clear hv hu
 go_enter Tryz.func65, Tryz.ntmps65
 go_wp2_with fail
 refine (sorted_any _ b _ HU.out).mono ?_
 rintro e w1 ⟨rfl, n, hw1⟩
 have HB1 : Hid (Below w.heap.size w w1) := hid (by rw [hw1]; exact below_drewN' (Below.refl _ _) _)
 clear hw1
 cases hs : sortedB b
 · have HX : Hid (allowedB a b = false) := hid (by unfold allowedB; rw [hs]; rfl)
   clear hs
   go_wp2_with fail
   go_ret
   exact ⟨ret_bool HX.out.symm, HB1.out⟩
 · have HX : Hid (allowedB a b = b.all (memB a)) := hid (by unfold allowedB; rw [hs]; rfl)
   clear hs
   have HU1 := hid (HU.out.below HB1.out)
   have HV1 := hid (HV.out.below HB1.out)
   go_wp2_with fail
   go_loop [6, 12] (fun _ i => ∃ (k : Nat), k ≤ b.length ∧ i = .int .i64 k ∧ Hid (allowedB a b = (b.drop k).all (memB a))) (fun _ i => b.length - (intOf i).toNat)
   case atStart => exact ⟨0, Nat.zero_le _, rfl, hid (by rw [HX.out, List.drop_zero])⟩
   case round =>
    obtain ⟨k, hk, rfl, He⟩ := hrel
    by_cases hlt : k < b.length
    · obtain ⟨bb, o, rfl, hcell, hsz⟩ := HU1.out.cell k hlt
      have HD : Hid (allowedB a b = (nameB b[k] && (decide (a.length = 0) || hasS a b[k]) && (b.drop (k + 1)).all (memB a))) := hid (by rw [He.out, drop_consS b k hlt, List.all_cons]; rfl)
      cases h1 : nameB b[k]
      · have HE : Hid (allowedB a b = false) := hid (by rw [HD.out, h1]; rfl)
        have HC := hid h1
        clear h1
        go_wp2_with fail
        refine (nameValid_any _ _ hsz).mono ?_
        rintro e w2 ⟨rfl, rfl⟩
        rw [HC.out]
        go_wp2_with fail
        go_ret
        exact ⟨ret_bool HE.out.symm, HB1.out⟩
      · have HE : Hid (allowedB a b = ((decide (a.length = 0) || hasS a b[k]) && (b.drop (k + 1)).all (memB a))) := hid (by rw [HD.out, h1, Bool.true_and])
        have HC := hid h1
        clear h1
        by_cases h0 : a.length = 0
        · have HE2 : Hid (allowedB a b = (b.drop (k + 1)).all (memB a)) := hid (by rw [HE.out, decide_eq_true h0, Bool.true_or, Bool.true_and])
          have h0b : decide (0 < a.length) = false := decide_eq_false (by omega)
          have h0c : decide ((0 : Int) < (a.length : Int)) = false := decide_eq_false (by omega)
          clear h0
          go_wp2_with fail
          refine (nameValid_any _ _ hsz).mono ?_
          rintro e w2 ⟨rfl, rfl⟩
          rw [HC.out]
          go_wp2_with fail
          go_round
          case rel => exact ⟨k + 1, by omega, by go_num, HE2⟩
          case measure => simp [intOf]; omega
        · have HE2 : Hid (allowedB a b = (hasS a b[k] && (b.drop (k + 1)).all (memB a))) := hid (by rw [HE.out, decide_eq_false h0, Bool.false_or])
          have h0b : decide (0 < a.length) = true := decide_eq_true (by omega)
          have h0c : decide ((0 : Int) < (a.length : Int)) = true := decide_eq_true (by omega)
          clear h0
          go_wp2_with fail
          refine (nameValid_any _ _ hsz).mono ?_
          rintro e w2 ⟨rfl, rfl⟩
          rw [HC.out]
          go_wp2_with fail
          refine (has_any _ a _ _ HV1.out).mono ?_
          rintro e w2 ⟨rfl, rfl⟩
          cases h2 : hasS a b[k]
          · have HE3 : Hid (allowedB a b = false) := hid (by rw [HE2.out, h2]; rfl)
            clear h2
            go_wp2_with fail
            go_ret
            exact ⟨ret_bool HE3.out.symm, HB1.out⟩
          · have HE3 : Hid (allowedB a b = (b.drop (k + 1)).all (memB a)) := hid (by rw [HE2.out, h2]; rfl)
            clear h2
            go_wp2_with fail
            go_round
            case rel => exact ⟨k + 1, by omega, by go_num, HE3⟩
            case measure => simp [intOf]; omega
    · have HF : Hid (allowedB a b = true) := hid (by rw [He.out, List.drop_eq_nil_of_le (by omega)]; rfl)
      go_wp2_with fail
      go_ret
      exact ⟨ret_bool HF.out.symm, HB1.out⟩
theorem closed_any (v u : Value) (rs : List Rl) (b : List ByteArray) (w : World) (hv : SlRd w 2 (ruleRd w) v rs) (hu : Strs w u b) :
 Calls Tryz.prog 66 #[v, u] w fun e w' => e = .returned (.bool (closedB rs b)) ∧ Below w.heap.size w w' := by
 obtain ⟨ar, cr, rfl, _, hmr⟩ := hv.shape
 obtain ⟨ab, cb, rfl, _, hmb⟩ := hu.shape
 have HV := hid hv
 have HU := hid hu
 clear hv hu
 go_enter Tryz.func66, Tryz.ntmps66
 go_wp2_with fail
 go_loopw [6, 9] (fun _ i wr => ∃ (k : Nat), k ≤ rs.length ∧ i = .int .i64 k ∧ Hid (closedB rs b = closedB (rs.drop k) b) ∧ Hid (Below w.heap.size w wr)) (fun _ i _ => rs.length - (intOf i).toNat)
 case atStart => exact ⟨0, Nat.zero_le _, rfl, hid (by rw [List.drop_zero]), hid (Below.refl _ _)⟩
 case round =>
  obtain ⟨k, hk, rfl, He, HW⟩ := hrel
  by_cases hlt : k < rs.length
  · obtain ⟨bb, o, cs, ha, hl0, hcs, vc, hcv, hcond, hconcl⟩ := HV.out.at k hlt
    subst ha
    subst hcv
    have c0 : wr.cell? ⟨bb, o + k * 2, none⟩ = some vc := (hcs.below HW.out) 0 (by simp)
    have c1 : wr.cell? ⟨bb, o + k * 2 + 1, none⟩ = some (.string rs[k].concl) := (hcs.below HW.out) 1 (by simp)
    have HC0 := hid (hcond.below HW.out)
    have HU0 := hid (HU.out.below HW.out)
    obtain ⟨ac, cc, rfl, hlc, hmc⟩ := hcond.shape
    clear hcond hcs
    have HD : Hid (closedB rs b = ((!subsetS rs[k].cond b || hasS b rs[k].concl) && closedB (rs.drop (k + 1)) b)) := hid (by rw [He.out, drop_consS rs k hlt]; unfold closedB; rw [List.all_cons])
    have HA : Hid (∀ O, Below wr.heap.size wr (wr.alloc O)) := hid fun O => (Below.refl _ _).alloc (Nat.le_refl _) O
    have HAW : Hid (∀ O, Below w.heap.size w (wr.alloc O)) := hid fun O => HW.out.alloc HW.out.size O
    go_wp2_with fail
    refine (subset_any _ _ rs[k].cond b _ (HC0.out.below (HA.out _)) (HU0.out.below (HA.out _))).mono ?_
    rintro e w3 ⟨rfl, rfl⟩
    cases h2 : subsetS rs[k].cond b
    · have HE : Hid (closedB rs b = closedB (rs.drop (k + 1)) b) := hid (by rw [HD.out, h2]; rfl)
      clear h2
      go_wp2_with fail
      go_roundw
      case rel => exact ⟨k + 1, by omega, by go_num, HE, hid (HAW.out _)⟩
      case measure => simp [intOf]; omega
    · have HE : Hid (closedB rs b = (hasS b rs[k].concl && closedB (rs.drop (k + 1)) b)) := hid (by rw [HD.out, h2]; rfl)
      clear h2
      go_wp2_with fail
      refine (has_any _ b _ _ (HU0.out.below (HA.out _))).mono ?_
      rintro e w3 ⟨rfl, rfl⟩
      cases h3 : hasS b rs[k].concl
      · have HE2 : Hid (closedB rs b = false) := hid (by rw [HE.out, h3]; rfl)
        clear h3
        go_wp2_with fail
        go_ret
        exact ⟨ret_bool HE2.out.symm, HAW.out _⟩
      · have HE2 : Hid (closedB rs b = closedB (rs.drop (k + 1)) b) := hid (by rw [HE.out, h3]; rfl)
        clear h3
        go_wp2_with fail
        go_roundw
        case rel => exact ⟨k + 1, by omega, by go_num, HE2, hid (HAW.out _)⟩
        case measure => simp [intOf]; omega
  · have HF : Hid (closedB rs b = true) := hid (by rw [He.out, List.drop_eq_nil_of_le (by omega)]; rfl)
    go_wp2_with fail
    go_ret
    exact ⟨ret_bool HF.out.symm, HW.out⟩
theorem tick_cells {w : World} {a : Option Addr} {n cap : Nat} {c : List Tk} (h : SlRd w 2 tickRd (.slice a n cap) c) (k : Nat) (hk : k < c.length) :
 ∃ b o, a = some ⟨b, o, none⟩ ∧ w.cell? ⟨b, o + k * 2, none⟩ = some (.int .i64 c[k].process) ∧ w.cell? ⟨b, o + k * 2 + 1, none⟩ = some (.int .i64 c[k].n) ∧ I64 c[k].process ∧ I64 c[k].n := by
 obtain ⟨b, o, cs, ha, _, hcs, rfl, h1, h2⟩ := h.at k hk
 exact ⟨b, o, ha, hcs 0 (by simp), hcs 1 (by simp), h1, h2⟩
def lastOf (c : List Tk) : Nat → Int
 | 0 => -1
 | k + 1 => match c[k]? with
   | some t => t.process
   | none => -1
theorem lastOf_succ (c : List Tk) (k : Nat) (h : k < c.length) : lastOf c (k + 1) = c[k].process := by
 show (match c[k]? with
  | some t => t.process
  | none => -1) = _
 rw [List.getElem?_eq_getElem h]
theorem clockValid_any (v : Value) (c : List Tk) (w : World) (hv : SlRd w 2 tickRd v c) :
 Calls Tryz.prog 117 #[v] w fun e w' => e = .returned (.bool (clockB c)) ∧ Below w.heap.size w w' := by
 obtain ⟨a, cap, rfl, _, hmax⟩ := hv.shape
 have HV := hid hv
 clear hv
 go_enter Tryz.func117, Tryz.ntmps117
 go_wp2_with fail
 go_loopw [3, 5, 8] (fun l _ i wr => ∃ (k : Nat), k ≤ c.length ∧ i = .int .i64 k ∧ l = .int .i64 (lastOf c k) ∧ Hid (clockB c = clockFrom (lastOf c k) (c.drop k)) ∧ Hid (Below w.heap.size w wr)) (fun _ _ i _ => c.length - (intOf i).toNat)
 case atStart => exact ⟨0, Nat.zero_le _, rfl, rfl, hid (by rw [List.drop_zero]; rfl), hid (Below.refl _ _)⟩
 case round =>
  obtain ⟨k, hk, rfl, rfl, He, HW⟩ := hrel
  by_cases hlt : k < c.length
  · obtain ⟨b, o, rfl, h0, h1, hi0, hi1⟩ := tick_cells HV.out k hlt
    have c0 : wr.cell? ⟨b, o + k * 2, none⟩ = some (.int .i64 c[k].process) := (HW.out.cell (World.block_lt_of_cell? w _ h0)).trans h0
    have c1 : wr.cell? ⟨b, o + k * 2 + 1, none⟩ = some (.int .i64 c[k].n) := (HW.out.cell (World.block_lt_of_cell? w _ h1)).trans h1
    have HL := hid (lastOf_succ c k hlt)
    have HD : Hid (clockB c = (tickB (lastOf c k) c[k] && clockFrom c[k].process (c.drop (k + 1)))) := hid (by rw [He.out, drop_consS c k hlt, clockFrom])
    have HA : Hid (∀ O, Below w.heap.size w (wr.alloc O)) := hid fun O => HW.out.alloc HW.out.size O
    clear h0 h1
    generalize lastOf c k = l at HD ⊢
    have HT : Hid (tickB l c[k] = decide (l < c[k].process ∧ c[k].process ≤ 63 ∧ 1 ≤ c[k].n ∧ c[k].n ≤ 1000000000000000)) := hid rfl
    generalize hp : c[k].process = p at *
    generalize hn : c[k].n = n at *
    clear hp hn
    by_cases ht : l < p ∧ p ≤ 63 ∧ 1 ≤ n ∧ n ≤ 1000000000000000
    · have HE : Hid (clockB c = clockFrom p (c.drop (k + 1))) := hid (by rw [HD.out, HT.out, decide_eq_true ht, Bool.true_and])
      obtain ⟨t1, t2, t3, t4⟩ := ht
      go_wp2_with fail
      go_roundw
      case rel => exact ⟨k + 1, by omega, by go_num, by rw [HL.out], hid (by rw [HL.out]; exact HE.out), hid (HA.out _)⟩
      case measure => simp [intOf]; omega
    · have HE : Hid (clockB c = false) := hid (by rw [HD.out, HT.out, decide_eq_false ht, Bool.false_and])
      have hx : p ≤ l ∨ (l < p ∧ 63 < p) ∨ (l < p ∧ p ≤ 63 ∧ n < 1) ∨ (l < p ∧ p ≤ 63 ∧ 1 ≤ n ∧ 1000000000000000 < n) := by omega
      clear ht
      rcases hx with h | ⟨h, h2⟩ | ⟨h, h2, h3⟩ | ⟨h, h2, h3, h4⟩
      all_goals
       go_wp2_with fail
       all_goals
        go_ret
        exact ⟨ret_bool HE.out.symm, HA.out _⟩
  · have HF : Hid (clockB c = true) := hid (by rw [He.out, List.drop_eq_nil_of_le (by omega)]; rfl)
    go_wp2_with fail
    go_ret
    exact ⟨ret_bool HF.out.symm, HW.out⟩
def lenOf : Value → Nat | .slice _ n _ => n | _ => 0
theorem SlRd.cons2 {w : World} {v : Value} {x : Tk} {t : List Tk} (h : SlRd w 2 tickRd v (x :: t)) :
 ∃ b o cap, v = .slice (some ⟨b, o, none⟩) (t.length + 1) cap ∧ (t.length + 1 ≤ cap ∧ cap ≤ 9223372036854775807 ∧ I64 x.process ∧ I64 x.n) ∧ w.cell? ⟨b, o, none⟩ = some (.int .i64 x.process) ∧ w.cell? ⟨b, o + 1, none⟩ = some (.int .i64 x.n) ∧
   SlRd w 2 tickRd (.slice (cutA b o cap 1 2) t.length (cap - 1)) t ∧ SlRd w 2 tickRd (.slice (some ⟨b, o, none⟩) (t.length + 1) cap) (x :: t) := by
 obtain ⟨a, cap, hv, hn, hm, hc⟩ := h
 obtain ⟨b, o, ha, h0, h1, hi0, hi1⟩ := tick_cells (c := x :: t) ⟨a, cap, rfl, hn, hm, hc⟩ 0 (by simp)
 subst ha
 refine ⟨b, o, cap, hv, ⟨hn.2, by unfold maxLen at hm; omega, hi0, hi1⟩, by simpa using h0, by simpa using h1, ?_, ⟨_, cap, rfl, hn, hm, hc⟩⟩
 exact SlRd.cut (l := x :: t) (n := t.length + 1) ⟨_, cap, rfl, hn, hm, hc⟩ 1 (by simp)
theorem size_tick : ∀ w, (Go.sizeOf 99).run Tryz.prog w = .ok 2 w := fun _ => by kernel_rfl
theorem run_tail_tick (b o n cap : Nat) (W : World) : (Instr.slice 41 (.slice (some ⟨b, o, none⟩) (n + 1) cap) (some (.int .i64 1)) none none).run Tryz.prog W = .ok (.slice (cutA b o cap 1 2) n (cap - 1)) W :=
 run_slice_from W 41 99 Tryz.underlying41 2 size_tick b o (n + 1) cap 1 (by omega)
theorem clockFrom_len : ∀ (c : List Tk) (l : Int), -1 ≤ l → clockFrom l c = true → c.length ≤ (63 - l).toNat
 | [], l, _, _ => Nat.zero_le _
 | t :: r, l, hl, h => by
   rw [clockFrom, Bool.and_eq_true] at h
   have h1 : l < t.process ∧ t.process ≤ 63 ∧ 1 ≤ t.n ∧ t.n ≤ 1000000000000000 := of_decide_eq_true h.1
   have := clockFrom_len r t.process (by omega) h.2
   simp only [List.length_cons]
   omega
theorem clockB_len {c : List Tk} (h : clockB c = true) : c.length ≤ 64 := clockFrom_len c (-1) (by omega) h
theorem SlRd.nil0 {α : Type} {w : World} {sz : Nat} {R : α → List Value → Prop} {v : Value} (h : SlRd w sz R v []) : ∃ ad cap, v = .slice ad 0 cap := by
 obtain ⟨a, cap, hv, _⟩ := h
 exact ⟨a, cap, hv⟩
theorem infoTick : (Tryz.prog.info? 99).map (fun i => (i.zero, i.size, i.bytes)) = some (some (.agg #[.int .i64 0, .int .i64 0]), 2, 16) := by kernel_rfl
def tickL (t : Tk) : List Value := [.int .i64 t.process, .int .i64 t.n]
theorem i64_0 : I64 0 := ⟨by decide, by decide⟩
def I64t (t : Tk) : Prop := I64 t.process ∧ I64 t.n
def TksPost (w : World) (c : List Tk) (e : Ending) (w' : World) : Prop := ∃ r, e = .returned r ∧ SlRd w' 2 tickRd r c ∧ Below w.heap.size w w'
theorem walk_nn (ch : Int → Int → Int) : walkT ch [] [] = [] := by rw [walkT]
theorem walk_cn (ch : Int → Int → Int) (x : Tk) (a : List Tk) : walkT ch (x :: a) [] = emitT x.process (ch x.n 0) (walkT ch a []) := by rw [walkT]
theorem walk_nc (ch : Int → Int → Int) (y : Tk) (b : List Tk) : walkT ch [] (y :: b) = emitT y.process (ch 0 y.n) (walkT ch [] b) := by rw [walkT]
theorem walk_lt (ch : Int → Int → Int) (x y : Tk) (a b : List Tk) (h : x.process < y.process) : walkT ch (x :: a) (y :: b) = emitT x.process (ch x.n 0) (walkT ch a (y :: b)) := by rw [walkT, if_pos h]
theorem walk_gt (ch : Int → Int → Int) (x y : Tk) (a b : List Tk) (h : y.process < x.process) : walkT ch (x :: a) (y :: b) = emitT y.process (ch 0 y.n) (walkT ch (x :: a) b) := by rw [walkT, if_neg (by omega), if_pos h]
theorem walk_eq (ch : Int → Int → Int) (x y : Tk) (a b : List Tk) (h : y.process = x.process) : walkT ch (x :: a) (y :: b) = emitT x.process (ch x.n y.n) (walkT ch a b) := by rw [walkT, if_neg (by omega), if_neg (by omega)]
theorem walk_minus (ch : Int → Int → Int) (HF : ∀ m n W, Calls Tryz.prog 171 #[.int .i64 m, .int .i64 n] W fun e w' => e = .returned (.int .i64 (ch m n)) ∧ w' = W) (hch : ∀ m n, I64 m → I64 n → I64 (ch m n))
    (v u : Value) (a b : List Tk) (w : World) (hv : SlRd w 2 tickRd v a) (hu : SlRd w 2 tickRd u b) (ha : clockB a = true) (hb : clockB b = true) :
    Calls Tryz.prog 170 #[v, u, .func (.func 171) #[] #[]] w (TksPost w (walkT ch a b)) := by
  have H2 := hid HF
  obtain ⟨i0, hi0, hz0, hz1, hz2⟩ := info_parts infoTick
  have HCH := hid hch
  have H1a := hid (fun W (h : Below w.heap.size w W) => clockValid_any v a W (SlRd.below hv h fun _ _ _ h => h))
  have H1b := hid (fun W (h : Below w.heap.size w W) => clockValid_any u b W (SlRd.below hu h fun _ _ _ h => h))
  have HV := hid hv
  have HU := hid hu
  have HLA := hid (clockB_len ha)
  have HLB := hid (clockB_len hb)
  have HA := hid ha
  have HBB := hid hb
  clear HF hch hv hu ha hb
  have HR0 : Hid (walkT ch a b = walkT ch a b) := hid rfl
  generalize hR : walkT ch a b = R at HR0 ⊢
  have HR : Hid (R = walkT ch a b) := hid hR.symm
  clear HR0 hR
  go_enter Tryz.func170, Tryz.ntmps170
  go_wp2_with fail
  refine (H1a.out _ (Below.refl _ _)).mono ?_
  rintro e w1 ⟨rfl, hb1⟩
  rw [HA.out]
  have HB1 := hid hb1
  clear hb1
  go_wp2_with fail
  refine (H1b.out _ HB1.out).mono ?_
  rintro e w2 ⟨rfl, hb2⟩
  rw [HBB.out]
  have HB2 : Hid (Below w.heap.size w w2) := hid (HB1.out.trans (hb2.mono HB1.out.size))
  clear hb2
  go_wp2_with fail
  go_loopw [0, 1, 7] (fun v0 v1 vo wr => ∃ (a' b' done : List Tk), Hid (SlRd w 2 tickRd v0 a') ∧ Hid (SlRd w 2 tickRd v1 b') ∧ Hid (Below w.heap.size w wr) ∧ wr.ownsRow w.heap.size 99 2 vo done.length (done.flatMap tickL) ∧
      Hid (∀ t ∈ done, I64t t) ∧ Hid (R = done ++ walkT ch a' b') ∧ done.length + a'.length + b'.length ≤ 128) (fun v0 v1 _ _ => lenOf v0 + lenOf v1)
  case atStart =>
   exact ⟨a, b, [], HV, HU, HB2, World.ownsRow_nil _ _ _ _, hid (by simp), HR, by have := HLA.out; have := HLB.out; simp; omega⟩
  case round =>
   obtain ⟨a', b', done, HV0, HV1, HW, hown, HD, HE, hlen⟩ := hrel
   obtain ⟨ao, co, rfl⟩ := owns_shape hown
   have Hown := hid hown
   clear hown
   rcases a' with _ | ⟨⟨xp, xn⟩, a'⟩
   · obtain ⟨a0, c0, rfl⟩ := HV0.out.nil0
     rcases b' with _ | ⟨⟨yp, yn⟩, b'⟩
     · obtain ⟨a1, c1, rfl⟩ := HV1.out.nil0
       go_wp2_with fail
       go_ret
       have h1 := HE.out
       rw [walk_nn, List.append_nil] at h1
       exact ⟨_, rfl, by rw [h1]; exact SlRd.of_owns tickL (fun _ => rfl) (fun t ht => ⟨rfl, (HD.out t ht).1, (HD.out t ht).2⟩) Hown.out, HW.out⟩
     · obtain ⟨bb, o, cap, rfl, ⟨hc1, hc2, hi1, hi2⟩, q0, q1, hs, hs'⟩ := HV1.out.cons2
       replace q0 := (HW.out.cell (World.block_lt_of_cell? w _ q0)).trans q0
       replace q1 := (HW.out.cell (World.block_lt_of_cell? w _ q1)).trans q1
       have HSF := hid hs'
       clear hs'
       have hsl1 := run_tail_tick bb o b'.length cap
       have HS := hid hs
       clear hs
       have e1 : (((b'.length : Int) + 1) == 0) = false := by simp; omega
       have HI1 := hid hi1
       have HI2 := hid hi2
       clear hi1 hi2
       have HE1 : Hid (R = done ++ emitT yp (ch 0 yn) (walkT ch [] b')) := hid (by rw [HE.out, walk_nc _ _ _ ])
       have HIT : Hid (I64t ⟨yp, ch 0 yn⟩) := hid ⟨HI1.out, HCH.out _ _ i64_0 HI2.out⟩
       have HLEN : Hid (done.length + ([] : List Tk).length + b'.length + 1 ≤ 128) := hid (by simp only [List.length_cons, List.length_nil] at hlen ⊢ <;> omega)
       clear hlen
       go_wp2_with fail
       go_quiet (fail)
       go_wp2_with fail
       go_quiet (fail)
       go_wp2_with fail
       go_quiet (fail)
       go_wp2_with fail
       clear hsl1
       refine (H2.out _ _ _).mono ?_
       rintro e w9 ⟨rfl, rfl⟩
       generalize hk : ch 0 yn = k at HE1 HIT ⊢
       clear hk
       by_cases hpos : 0 < k
       · have HE2 : Hid (R = (done ++ [⟨yp, k⟩]) ++ walkT ch [] b') := hid (by rw [HE1.out]; unfold emitT; rw [if_pos hpos, List.append_assoc]; rfl)
         have HX : Hid (done.flatMap tickL ++ [.int .i64 yp, .int .i64 k] = (done ++ ([⟨yp, k⟩] : List Tk)).flatMap tickL) := hid (by rw [List.flatMap_append]; rfl)
         go_wp2_with (at_builtin; refine wpList_append rfl (.tmp 105) (.tmp 109) 41 rfl w.heap.size 99 2 16 Tryz.underlying41 hi0 hz0 hz1 hz2 rfl (by decide) _ done.length _ rfl (Hown.out.alloc _) _ 1 [.int .i64 yp, .int .i64 k] rfl (Src.of_block (cs := #[.int .i64 yp, .int .i64 k]) (heap_alloc_new _ _) 2 1 1 rfl (by simp [Value.oneCell'])) _ rfl _ HX.out (by have := HLEN.out; unfold maxLen; omega) (by have := HLEN.out; omega) (by have := HW.out.size; simp; omega) ?_; intro na nc w10 had)
         have HAD := hid had
         have HW10 : Hid (Below w.heap.size w w10) := hid (((below_drewN' HW.out _).alloc (by have := HW.out.size; simpa using this) _).grown had.grown (by have := HW.out.size; simp; omega) (fun g hg => (Hown.out.lt g hg).1))
         clear had
         go_roundw
         case rel => exact ⟨[], b', done ++ [⟨yp, k⟩], hid (HV0.out), hid (HS.out), HW10, by simpa using HAD.out.own, hid (by intro t ht; rcases List.mem_append.1 ht with h | h; exact HD.out t h; rw [List.mem_singleton.1 h]; exact HIT.out), HE2, by have := HLEN.out; simp only [List.length_append, List.length_cons, List.length_nil] at this ⊢ <;> omega⟩
         case measure => simp [lenOf] <;> omega
       · have HE2 : Hid (R = done ++ walkT ch [] b') := hid (by rw [HE1.out]; unfold emitT; rw [if_neg hpos])
         go_wp2_with fail
         go_roundw
         case rel => exact ⟨[], b', done, hid (HV0.out), hid (HS.out), hid (below_drewN' HW.out _), Hown.out, HD, HE2, by have := HLEN.out; omega⟩
         case measure => simp [lenOf] <;> omega
   · rcases b' with _ | ⟨⟨yp, yn⟩, b'⟩
     · obtain ⟨a1, c1, rfl⟩ := HV1.out.nil0
       obtain ⟨ab, ao1, acap, rfl, ⟨hd1, hd2, hj1, hj2⟩, p0, p1, hsa, hsa'⟩ := HV0.out.cons2
       replace p0 := (HW.out.cell (World.block_lt_of_cell? w _ p0)).trans p0
       replace p1 := (HW.out.cell (World.block_lt_of_cell? w _ p1)).trans p1
       have HSAF := hid hsa'
       clear hsa'
       have hsl2 := run_tail_tick ab ao1 a'.length acap
       have HSA := hid hsa
       clear hsa
       have e2 : (((a'.length : Int) + 1) == 0) = false := by simp; omega
       have e3 : decide ((0 : Int) < (a'.length : Int) + 1) = true := decide_eq_true (by omega)
       have HJ1 := hid hj1
       have HJ2 := hid hj2
       clear hj1 hj2
       have HE1 : Hid (R = done ++ emitT xp (ch xn 0) (walkT ch a' [])) := hid (by rw [HE.out, walk_cn _ _ _ ])
       have HIT : Hid (I64t ⟨xp, ch xn 0⟩) := hid ⟨HJ1.out, HCH.out _ _ HJ2.out i64_0⟩
       have HLEN : Hid (done.length + a'.length + ([] : List Tk).length + 1 ≤ 128) := hid (by simp only [List.length_cons, List.length_nil] at hlen ⊢ <;> omega)
       clear hlen
       go_wp2_with fail
       go_quiet (fail)
       go_wp2_with fail
       go_quiet (fail)
       go_wp2_with fail
       clear hsl2
       refine (H2.out _ _ _).mono ?_
       rintro e w9 ⟨rfl, rfl⟩
       generalize hk : ch xn 0 = k at HE1 HIT ⊢
       clear hk
       by_cases hpos : 0 < k
       · have HE2 : Hid (R = (done ++ [⟨xp, k⟩]) ++ walkT ch a' []) := hid (by rw [HE1.out]; unfold emitT; rw [if_pos hpos, List.append_assoc]; rfl)
         have HX : Hid (done.flatMap tickL ++ [.int .i64 xp, .int .i64 k] = (done ++ ([⟨xp, k⟩] : List Tk)).flatMap tickL) := hid (by rw [List.flatMap_append]; rfl)
         go_wp2_with (at_builtin; refine wpList_append rfl (.tmp 105) (.tmp 109) 41 rfl w.heap.size 99 2 16 Tryz.underlying41 hi0 hz0 hz1 hz2 rfl (by decide) _ done.length _ rfl (Hown.out.alloc _) _ 1 [.int .i64 xp, .int .i64 k] rfl (Src.of_block (cs := #[.int .i64 xp, .int .i64 k]) (heap_alloc_new _ _) 2 1 1 rfl (by simp [Value.oneCell'])) _ rfl _ HX.out (by have := HLEN.out; unfold maxLen; omega) (by have := HLEN.out; omega) (by have := HW.out.size; simp; omega) ?_; intro na nc w10 had)
         have HAD := hid had
         have HW10 : Hid (Below w.heap.size w w10) := hid (((below_drewN' HW.out _).alloc (by have := HW.out.size; simpa using this) _).grown had.grown (by have := HW.out.size; simp; omega) (fun g hg => (Hown.out.lt g hg).1))
         clear had
         go_roundw
         case rel => exact ⟨a', [], done ++ [⟨xp, k⟩], hid (HSA.out), hid (HV1.out), HW10, by simpa using HAD.out.own, hid (by intro t ht; rcases List.mem_append.1 ht with h | h; exact HD.out t h; rw [List.mem_singleton.1 h]; exact HIT.out), HE2, by have := HLEN.out; simp only [List.length_append, List.length_cons, List.length_nil] at this ⊢ <;> omega⟩
         case measure => simp [lenOf] <;> omega
       · have HE2 : Hid (R = done ++ walkT ch a' []) := hid (by rw [HE1.out]; unfold emitT; rw [if_neg hpos])
         go_wp2_with fail
         go_roundw
         case rel => exact ⟨a', [], done, hid (HSA.out), hid (HV1.out), hid (below_drewN' HW.out _), Hown.out, HD, HE2, by have := HLEN.out; omega⟩
         case measure => simp [lenOf] <;> omega
     · by_cases hlt : xp < yp
       · obtain ⟨bb, o, cap, rfl, ⟨hc1, hc2, hi1, hi2⟩, q0, q1, hs, hs'⟩ := HV1.out.cons2
         replace q0 := (HW.out.cell (World.block_lt_of_cell? w _ q0)).trans q0
         replace q1 := (HW.out.cell (World.block_lt_of_cell? w _ q1)).trans q1
         have HSF := hid hs'
         clear hs'
         have hsl1 := run_tail_tick bb o b'.length cap
         have HS := hid hs
         clear hs
         have e1 : (((b'.length : Int) + 1) == 0) = false := by simp; omega
         have HI1 := hid hi1
         have HI2 := hid hi2
         clear hi1 hi2
         obtain ⟨ab, ao1, acap, rfl, ⟨hd1, hd2, hj1, hj2⟩, p0, p1, hsa, hsa'⟩ := HV0.out.cons2
         replace p0 := (HW.out.cell (World.block_lt_of_cell? w _ p0)).trans p0
         replace p1 := (HW.out.cell (World.block_lt_of_cell? w _ p1)).trans p1
         have HSAF := hid hsa'
         clear hsa'
         have hsl2 := run_tail_tick ab ao1 a'.length acap
         have HSA := hid hsa
         clear hsa
         have e2 : (((a'.length : Int) + 1) == 0) = false := by simp; omega
         have e3 : decide ((0 : Int) < (a'.length : Int) + 1) = true := decide_eq_true (by omega)
         have HJ1 := hid hj1
         have HJ2 := hid hj2
         clear hj1 hj2
         have e4 : decide (xp < yp) = true := decide_eq_true hlt
         have HE1 : Hid (R = done ++ emitT xp (ch xn 0) (walkT ch a' (⟨yp, yn⟩ :: b'))) := hid (by rw [HE.out, walk_lt _ _ _ _ _ hlt])
         have HIT : Hid (I64t ⟨xp, ch xn 0⟩) := hid ⟨HJ1.out, HCH.out _ _ HJ2.out i64_0⟩
         have HLEN : Hid (done.length + a'.length + (⟨yp, yn⟩ :: b').length + 1 ≤ 128) := hid (by simp only [List.length_cons, List.length_nil] at hlen ⊢ <;> omega)
         clear hlen
         go_wp2_with fail
         go_quiet (fail)
         go_wp2_with fail
         go_quiet (fail)
         go_wp2_with fail
         clear hsl1 hsl2
         refine (H2.out _ _ _).mono ?_
         rintro e w9 ⟨rfl, rfl⟩
         generalize hk : ch xn 0 = k at HE1 HIT ⊢
         clear hk
         by_cases hpos : 0 < k
         · have HE2 : Hid (R = (done ++ [⟨xp, k⟩]) ++ walkT ch a' (⟨yp, yn⟩ :: b')) := hid (by rw [HE1.out]; unfold emitT; rw [if_pos hpos, List.append_assoc]; rfl)
           have HX : Hid (done.flatMap tickL ++ [.int .i64 xp, .int .i64 k] = (done ++ ([⟨xp, k⟩] : List Tk)).flatMap tickL) := hid (by rw [List.flatMap_append]; rfl)
           go_wp2_with (at_builtin; refine wpList_append rfl (.tmp 105) (.tmp 109) 41 rfl w.heap.size 99 2 16 Tryz.underlying41 hi0 hz0 hz1 hz2 rfl (by decide) _ done.length _ rfl (Hown.out.alloc _) _ 1 [.int .i64 xp, .int .i64 k] rfl (Src.of_block (cs := #[.int .i64 xp, .int .i64 k]) (heap_alloc_new _ _) 2 1 1 rfl (by simp [Value.oneCell'])) _ rfl _ HX.out (by have := HLEN.out; unfold maxLen; omega) (by have := HLEN.out; omega) (by have := HW.out.size; simp; omega) ?_; intro na nc w10 had)
           have HAD := hid had
           have HW10 : Hid (Below w.heap.size w w10) := hid (((below_drewN' HW.out _).alloc (by have := HW.out.size; simpa using this) _).grown had.grown (by have := HW.out.size; simp; omega) (fun g hg => (Hown.out.lt g hg).1))
           clear had
           go_roundw
           case rel => exact ⟨a', (⟨yp, yn⟩ :: b'), done ++ [⟨xp, k⟩], hid (HSA.out), hid (HSF.out), HW10, by simpa using HAD.out.own, hid (by intro t ht; rcases List.mem_append.1 ht with h | h; exact HD.out t h; rw [List.mem_singleton.1 h]; exact HIT.out), HE2, by have := HLEN.out; simp only [List.length_append, List.length_cons, List.length_nil] at this ⊢ <;> omega⟩
           case measure => simp [lenOf] <;> omega
         · have HE2 : Hid (R = done ++ walkT ch a' (⟨yp, yn⟩ :: b')) := hid (by rw [HE1.out]; unfold emitT; rw [if_neg hpos])
           go_wp2_with fail
           go_roundw
           case rel => exact ⟨a', (⟨yp, yn⟩ :: b'), done, hid (HSA.out), hid (HSF.out), hid (below_drewN' HW.out _), Hown.out, HD, HE2, by have := HLEN.out; omega⟩
           case measure => simp [lenOf] <;> omega
       · by_cases hlt2 : yp < xp
         · replace hlt := hlt2
           clear hlt2
           obtain ⟨bb, o, cap, rfl, ⟨hc1, hc2, hi1, hi2⟩, q0, q1, hs, hs'⟩ := HV1.out.cons2
           replace q0 := (HW.out.cell (World.block_lt_of_cell? w _ q0)).trans q0
           replace q1 := (HW.out.cell (World.block_lt_of_cell? w _ q1)).trans q1
           have HSF := hid hs'
           clear hs'
           have hsl1 := run_tail_tick bb o b'.length cap
           have HS := hid hs
           clear hs
           have e1 : (((b'.length : Int) + 1) == 0) = false := by simp; omega
           have HI1 := hid hi1
           have HI2 := hid hi2
           clear hi1 hi2
           obtain ⟨ab, ao1, acap, rfl, ⟨hd1, hd2, hj1, hj2⟩, p0, p1, hsa, hsa'⟩ := HV0.out.cons2
           replace p0 := (HW.out.cell (World.block_lt_of_cell? w _ p0)).trans p0
           replace p1 := (HW.out.cell (World.block_lt_of_cell? w _ p1)).trans p1
           have HSAF := hid hsa'
           clear hsa'
           have hsl2 := run_tail_tick ab ao1 a'.length acap
           have HSA := hid hsa
           clear hsa
           have e2 : (((a'.length : Int) + 1) == 0) = false := by simp; omega
           have e3 : decide ((0 : Int) < (a'.length : Int) + 1) = true := decide_eq_true (by omega)
           have HJ1 := hid hj1
           have HJ2 := hid hj2
           clear hj1 hj2
           have e4 : decide (xp < yp) = false := decide_eq_false (by omega)
           have e5 : decide (yp < xp) = true := decide_eq_true hlt
           have HE1 : Hid (R = done ++ emitT yp (ch 0 yn) (walkT ch (⟨xp, xn⟩ :: a') b')) := hid (by rw [HE.out, walk_gt _ _ _ _ _ hlt])
           have HIT : Hid (I64t ⟨yp, ch 0 yn⟩) := hid ⟨HI1.out, HCH.out _ _ i64_0 HI2.out⟩
           have HLEN : Hid (done.length + (⟨xp, xn⟩ :: a').length + b'.length + 1 ≤ 128) := hid (by simp only [List.length_cons, List.length_nil] at hlen ⊢ <;> omega)
           clear hlen
           go_wp2_with fail
           go_quiet (fail)
           go_wp2_with fail
           go_quiet (fail)
           go_wp2_with fail
           go_quiet (fail)
           go_wp2_with fail
           clear hsl1 hsl2
           refine (H2.out _ _ _).mono ?_
           rintro e w9 ⟨rfl, rfl⟩
           generalize hk : ch 0 yn = k at HE1 HIT ⊢
           clear hk
           by_cases hpos : 0 < k
           · have HE2 : Hid (R = (done ++ [⟨yp, k⟩]) ++ walkT ch (⟨xp, xn⟩ :: a') b') := hid (by rw [HE1.out]; unfold emitT; rw [if_pos hpos, List.append_assoc]; rfl)
             have HX : Hid (done.flatMap tickL ++ [.int .i64 yp, .int .i64 k] = (done ++ ([⟨yp, k⟩] : List Tk)).flatMap tickL) := hid (by rw [List.flatMap_append]; rfl)
             go_wp2_with (at_builtin; refine wpList_append rfl (.tmp 105) (.tmp 109) 41 rfl w.heap.size 99 2 16 Tryz.underlying41 hi0 hz0 hz1 hz2 rfl (by decide) _ done.length _ rfl (Hown.out.alloc _) _ 1 [.int .i64 yp, .int .i64 k] rfl (Src.of_block (cs := #[.int .i64 yp, .int .i64 k]) (heap_alloc_new _ _) 2 1 1 rfl (by simp [Value.oneCell'])) _ rfl _ HX.out (by have := HLEN.out; unfold maxLen; omega) (by have := HLEN.out; omega) (by have := HW.out.size; simp; omega) ?_; intro na nc w10 had)
             have HAD := hid had
             have HW10 : Hid (Below w.heap.size w w10) := hid (((below_drewN' HW.out _).alloc (by have := HW.out.size; simpa using this) _).grown had.grown (by have := HW.out.size; simp; omega) (fun g hg => (Hown.out.lt g hg).1))
             clear had
             go_roundw
             case rel => exact ⟨(⟨xp, xn⟩ :: a'), b', done ++ [⟨yp, k⟩], hid (HSAF.out), hid (HS.out), HW10, by simpa using HAD.out.own, hid (by intro t ht; rcases List.mem_append.1 ht with h | h; exact HD.out t h; rw [List.mem_singleton.1 h]; exact HIT.out), HE2, by have := HLEN.out; simp only [List.length_append, List.length_cons, List.length_nil] at this ⊢ <;> omega⟩
             case measure => simp [lenOf] <;> omega
           · have HE2 : Hid (R = done ++ walkT ch (⟨xp, xn⟩ :: a') b') := hid (by rw [HE1.out]; unfold emitT; rw [if_neg hpos])
             go_wp2_with fail
             go_roundw
             case rel => exact ⟨(⟨xp, xn⟩ :: a'), b', done, hid (HSAF.out), hid (HS.out), hid (below_drewN' HW.out _), Hown.out, HD, HE2, by have := HLEN.out; omega⟩
             case measure => simp [lenOf] <;> omega
         · replace hlt : yp = xp := by omega
           clear hlt2
           obtain ⟨bb, o, cap, rfl, ⟨hc1, hc2, hi1, hi2⟩, q0, q1, hs, hs'⟩ := HV1.out.cons2
           replace q0 := (HW.out.cell (World.block_lt_of_cell? w _ q0)).trans q0
           replace q1 := (HW.out.cell (World.block_lt_of_cell? w _ q1)).trans q1
           have HSF := hid hs'
           clear hs'
           have hsl1 := run_tail_tick bb o b'.length cap
           have HS := hid hs
           clear hs
           have e1 : (((b'.length : Int) + 1) == 0) = false := by simp; omega
           have HI1 := hid hi1
           have HI2 := hid hi2
           clear hi1 hi2
           obtain ⟨ab, ao1, acap, rfl, ⟨hd1, hd2, hj1, hj2⟩, p0, p1, hsa, hsa'⟩ := HV0.out.cons2
           replace p0 := (HW.out.cell (World.block_lt_of_cell? w _ p0)).trans p0
           replace p1 := (HW.out.cell (World.block_lt_of_cell? w _ p1)).trans p1
           have HSAF := hid hsa'
           clear hsa'
           have hsl2 := run_tail_tick ab ao1 a'.length acap
           have HSA := hid hsa
           clear hsa
           have e2 : (((a'.length : Int) + 1) == 0) = false := by simp; omega
           have e3 : decide ((0 : Int) < (a'.length : Int) + 1) = true := decide_eq_true (by omega)
           have HJ1 := hid hj1
           have HJ2 := hid hj2
           clear hj1 hj2
           have e4 : decide (xp < yp) = false := decide_eq_false (by omega)
           have e5 : decide (yp < xp) = false := decide_eq_false (by omega)
           have HE1 : Hid (R = done ++ emitT xp (ch xn yn) (walkT ch a' b')) := hid (by rw [HE.out, walk_eq _ _ _ _ _ hlt])
           have HIT : Hid (I64t ⟨xp, ch xn yn⟩) := hid ⟨HJ1.out, HCH.out _ _ HJ2.out HI2.out⟩
           have HLEN : Hid (done.length + a'.length + b'.length + 1 ≤ 128) := hid (by simp only [List.length_cons, List.length_nil] at hlen ⊢ <;> omega)
           clear hlen
           go_wp2_with fail
           go_quiet (fail)
           go_wp2_with fail
           go_quiet (fail)
           go_wp2_with fail
           go_quiet (fail)
           go_wp2_with fail
           clear hsl1 hsl2
           refine (H2.out _ _ _).mono ?_
           rintro e w9 ⟨rfl, rfl⟩
           generalize hk : ch xn yn = k at HE1 HIT ⊢
           clear hk
           by_cases hpos : 0 < k
           · have HE2 : Hid (R = (done ++ [⟨xp, k⟩]) ++ walkT ch a' b') := hid (by rw [HE1.out]; unfold emitT; rw [if_pos hpos, List.append_assoc]; rfl)
             have HX : Hid (done.flatMap tickL ++ [.int .i64 xp, .int .i64 k] = (done ++ ([⟨xp, k⟩] : List Tk)).flatMap tickL) := hid (by rw [List.flatMap_append]; rfl)
             go_wp2_with (at_builtin; refine wpList_append rfl (.tmp 105) (.tmp 109) 41 rfl w.heap.size 99 2 16 Tryz.underlying41 hi0 hz0 hz1 hz2 rfl (by decide) _ done.length _ rfl (Hown.out.alloc _) _ 1 [.int .i64 xp, .int .i64 k] rfl (Src.of_block (cs := #[.int .i64 xp, .int .i64 k]) (heap_alloc_new _ _) 2 1 1 rfl (by simp [Value.oneCell'])) _ rfl _ HX.out (by have := HLEN.out; unfold maxLen; omega) (by have := HLEN.out; omega) (by have := HW.out.size; simp; omega) ?_; intro na nc w10 had)
             have HAD := hid had
             have HW10 : Hid (Below w.heap.size w w10) := hid (((below_drewN' HW.out _).alloc (by have := HW.out.size; simpa using this) _).grown had.grown (by have := HW.out.size; simp; omega) (fun g hg => (Hown.out.lt g hg).1))
             clear had
             go_roundw
             case rel => exact ⟨a', b', done ++ [⟨xp, k⟩], hid (HSA.out), hid (HS.out), HW10, by simpa using HAD.out.own, hid (by intro t ht; rcases List.mem_append.1 ht with h | h; exact HD.out t h; rw [List.mem_singleton.1 h]; exact HIT.out), HE2, by have := HLEN.out; simp only [List.length_append, List.length_cons, List.length_nil] at this ⊢ <;> omega⟩
             case measure => simp [lenOf] <;> omega
           · have HE2 : Hid (R = done ++ walkT ch a' b') := hid (by rw [HE1.out]; unfold emitT; rw [if_neg hpos])
             go_wp2_with fail
             go_roundw
             case rel => exact ⟨a', b', done, hid (HSA.out), hid (HS.out), hid (below_drewN' HW.out _), Hown.out, HD, HE2, by have := HLEN.out; omega⟩
             case measure => simp [lenOf] <;> omega
theorem minusCh_any (m n : Int) (w : World) : Calls Tryz.prog 171 #[.int .i64 m, .int .i64 n] w fun e w' => e = .returned (.int .i64 (minusCh m n)) ∧ w' = w := by
  by_cases h : n < m
  · have HC : Hid (minusCh m n = m) := hid (if_pos h)
    go_enter Tryz.func171, Tryz.ntmps171
    go_wp2
    go_ret
    exact ⟨ret_int HC.out.symm, rfl⟩
  · have HC : Hid (minusCh m n = 0) := hid (if_neg h)
    go_enter Tryz.func171, Tryz.ntmps171
    go_wp2
    go_ret
    exact ⟨ret_int HC.out.symm, rfl⟩
theorem minusCh_i64 (m n : Int) (hm : I64 m) (_ : I64 n) : I64 (minusCh m n) := by
 unfold minusCh
 split
 · exact hm
 · exact i64_0
theorem minus_any (v u : Value) (a b : List Tk) (w : World) (hv : SlRd w 2 tickRd v a) (hu : SlRd w 2 tickRd u b) (ha : clockB a = true) (hb : clockB b = true) :
 Calls Tryz.prog 153 #[v, u] w fun e w' => TksPost w (minusT a b) e w' := by
 have HC : Hid (∀ W, W = w → Calls Tryz.prog 170 #[v, u, .func (.func 171) #[] #[]] W (TksPost w (minusT a b))) := hid fun W hW => by
   subst hW
   exact walk_minus minusCh minusCh_any minusCh_i64 v u a b W hv hu ha hb
 generalize minusT a b = R at HC ⊢
 obtain ⟨aa, ca, rfl, _, _⟩ := hv.shape
 obtain ⟨ab, cb, rfl, _, _⟩ := hu.shape
 clear hv hu ha hb
 go_enter Tryz.func153, Tryz.ntmps153
 go_wp2_with fail
 refine (HC.out _ rfl).mono ?_
 rintro e w' ⟨r, rfl, h⟩
 go_wp2_with fail
 go_ret
 exact ⟨r, rfl, h⟩
theorem clockCmp_any (v u : Value) (a b : List Tk) (w : World) (hv : SlRd w 2 tickRd v a) (hu : SlRd w 2 tickRd u b) :
 Calls Tryz.prog 118 #[v, u] w fun e w' => e = .returned (.int .i64 (clockC a b)) ∧ Below w.heap.size w w' := by
 have H1a := hid (fun W (h : Below w.heap.size w W) => clockValid_any v a W (SlRd.below hv h fun _ _ _ h => h))
 have H1b := hid (fun W (h : Below w.heap.size w W) => clockValid_any u b W (SlRd.below hu h fun _ _ _ h => h))
 have H2a := hid (fun W (h : Below w.heap.size w W) => minus_any v u a b W (SlRd.below hv h fun _ _ _ h => h) (SlRd.below hu h fun _ _ _ h => h))
 have H2b := hid (fun W (h : Below w.heap.size w W) => minus_any u v b a W (SlRd.below hu h fun _ _ _ h => h) (SlRd.below hv h fun _ _ _ h => h))
 obtain ⟨aa, ca, rfl, _, _⟩ := hv.shape
 obtain ⟨ab, cb, rfl, _, _⟩ := hu.shape
 have HC : Hid (clockC a b = if !clockB a || !clockB b then 3 else if (minusT a b).length = 0 ∧ (minusT b a).length = 0 then 0 else if (minusT a b).length = 0 then 1 else if (minusT b a).length = 0 then 2 else 3) := hid rfl
 generalize clockC a b = C at HC ⊢
 generalize minusT a b = m1 at HC H2a
 generalize minusT b a = m2 at HC H2b
 clear hv hu
 cases ha : clockB a
 · have HC2 : Hid (C = 3) := hid (by rw [HC.out, ha]; rfl)
   have HA := hid ha
   clear ha
   go_enter Tryz.func118, Tryz.ntmps118
   go_wp2_with fail
   refine (H1a.out _ (Below.refl _ _)).mono ?_
   rintro e w1 ⟨rfl, hb1⟩
   rw [HA.out]
   have HB1 := hid hb1
   clear hb1
   go_wp2_with fail
   go_ret
   exact ⟨ret_int HC2.out.symm, HB1.out⟩
 · cases hb : clockB b
   · have HC2 : Hid (C = 3) := hid (by rw [HC.out, ha, hb]; rfl)
     have HA := hid ha
     have HBB := hid hb
     clear ha hb
     go_enter Tryz.func118, Tryz.ntmps118
     go_wp2_with fail
     refine (H1a.out _ (Below.refl _ _)).mono ?_
     rintro e w1 ⟨rfl, hb1⟩
     rw [HA.out]
     have HB1 := hid hb1
     clear hb1
     go_wp2_with fail
     refine (H1b.out _ HB1.out).mono ?_
     rintro e w2 ⟨rfl, hb2⟩
     rw [HBB.out]
     have HB2 : Hid (Below w.heap.size w w2) := hid (HB1.out.trans (hb2.mono HB1.out.size))
     clear hb2
     go_wp2_with fail
     go_ret
     exact ⟨ret_int HC2.out.symm, HB2.out⟩
   · have HC2 : Hid (C = if m1.length = 0 ∧ m2.length = 0 then 0 else if m1.length = 0 then 1 else if m2.length = 0 then 2 else 3) := hid (by rw [HC.out, ha, hb]; rfl)
     have HA := hid ha
     have HBB := hid hb
     clear ha hb
     go_enter Tryz.func118, Tryz.ntmps118
     go_wp2_with fail
     refine (H1a.out _ (Below.refl _ _)).mono ?_
     rintro e w1 ⟨rfl, hb1⟩
     rw [HA.out]
     have HB1 := hid hb1
     clear hb1
     go_wp2_with fail
     refine (H1b.out _ HB1.out).mono ?_
     rintro e w2 ⟨rfl, hb2⟩
     rw [HBB.out]
     have HB2 : Hid (Below w.heap.size w w2) := hid (HB1.out.trans (hb2.mono HB1.out.size))
     clear hb2
     go_wp2_with fail
     refine (H2a.out _ HB2.out HA.out HBB.out).mono ?_
     rintro e w3 ⟨r1, rfl, hr1, hb3⟩
     have HB3 : Hid (Below w.heap.size w w3) := hid (HB2.out.trans (hb3.mono HB2.out.size))
     obtain ⟨a1, c1, rfl, _, _⟩ := hr1.shape
     clear hb3 hr1
     go_wp2_with fail
     refine (H2b.out _ HB3.out HBB.out HA.out).mono ?_
     rintro e w4 ⟨r2, rfl, hr2, hb4⟩
     have HB4 : Hid (Below w.heap.size w w4) := hid (HB3.out.trans (hb4.mono HB3.out.size))
     obtain ⟨a2, c2, rfl, _, _⟩ := hr2.shape
     clear hb4 hr2
     go_wp2_with fail
     all_goals
      go_ret
      exact ⟨ret_int (by rw [HC2.out]; simp_all), HB4.out⟩
theorem SlRd.take {α : Type} {w : World} {sz : Nat} {R : α → List Value → Prop} {a : Option Addr} {n cap : Nat} {l : List α} (h : SlRd w sz R (.slice a n cap) l) (k : Nat) (hk : k ≤ l.length) : SlRd w sz R (.slice a k cap) (l.take k) := by
 obtain ⟨a', cap', hv, hn, hm, hc⟩ := h
 cases hv
 refine ⟨a, cap, by rw [List.length_take, Nat.min_eq_left hk], ⟨hn.1, by rw [List.length_take]; omega⟩, hm, fun i hi => ?_⟩
 rw [List.length_take] at hi
 obtain ⟨b, o, cs, ha, hl, hcs, hr⟩ := hc i (by omega)
 refine ⟨b, o, cs, ha, hl, hcs, ?_⟩
 rw [List.getElem_take]
 exact hr
def pairB (e f : En) : Bool := !((clockC e.clock f.clock == 1) || (clockC e.clock f.clock == 2))
theorem entryB_eq (list : List En) (k : Nat) (h : k < list.length) : entryB list k list[k] = (decide (list[k].clock.length ≠ 0) && (clockB list[k].clock && (nameB list[k].name && (decide (k = 0 ∨ entC (list[k - 1]'(by omega)) list[k] < 0) && (list.take k).all (pairB list[k]))))) := by
  unfold entryB
  rw [List.getElem?_eq_getElem (show k - 1 < list.length by omega)]
  simp only [Bool.and_assoc]
  rfl
theorem regGo_step (list : List En) (k : Nat) (h : k < list.length) : regGo list k (list.drop k) = (entryB list k list[k] && regGo list (k + 1) (list.drop (k + 1))) := by
 rw [drop_consS list k h, regGo]
theorem register_any (v : Value) (l : List En) (w : World) (hv : SlRd w 2 (entryRd w) v l) :
 Calls Tryz.prog 67 #[v] w fun e w' => e = .returned (.bool (regB l)) ∧ Below w.heap.size w w' := by
 obtain ⟨a, cap, rfl, hlc, hmax⟩ := hv.shape
 have HV := hid hv
 clear hv
 have HR : Hid (regB l = regGo l 0 (l.drop 0)) := hid (by rw [List.drop_zero]; rfl)
 generalize regB l = R at HR ⊢
 go_enter Tryz.func67, Tryz.ntmps67
 go_wp2_with fail
 go_loopw [3, 4, 6, 7, 10] (fun _ _ _ _ i wr => ∃ (k : Nat), k ≤ l.length ∧ i = .int .i64 k ∧ Hid (R = regGo l k (l.drop k)) ∧ Hid (Below w.heap.size w wr)) (fun _ _ _ _ i _ => l.length - (intOf i).toNat)
 case atStart => exact ⟨0, Nat.zero_le _, rfl, HR, hid (Below.refl _ _)⟩
 case round =>
  obtain ⟨k, hk, rfl, He, HW⟩ := hrel
  by_cases hlt : k < l.length
  · obtain ⟨b, o, cs, rfl, hl0, hcs, hr⟩ := HV.out.at k hlt
    have HRK := hid hr
    obtain ⟨vc, rfl, hsc, hnm⟩ := hr
    have c0 : wr.cell? ⟨b, o + k * 2, none⟩ = some vc := (hcs.below HW.out) 0 (by simp)
    have c1 : wr.cell? ⟨b, o + k * 2 + 1, none⟩ = some (.string l[k].name) := (hcs.below HW.out) 1 (by simp)
    obtain ⟨ac, cc, rfl, _, hmc⟩ := hsc.shape
    have HSC := hid hsc
    have HNM := hid hnm
    clear hcs hsc hnm
    have HD : Hid (R = ((decide (l[k].clock.length ≠ 0) && (clockB l[k].clock && (nameB l[k].name && (decide (k = 0 ∨ entC (l[k - 1]'(by omega)) l[k] < 0) && (l.take k).all (pairB l[k]))))) && regGo l (k + 1) (l.drop (k + 1)))) := hid (by rw [He.out, regGo_step l k hlt, entryB_eq l k hlt])
    have HX0 : Hid (∀ x : Ext (wr.alloc (.cells #[.slice ac l[k].clock.length cc, .string l[k].name] 43)), x.1.cell? ⟨wr.heap.size, 0, none⟩ = some (.slice ac l[k].clock.length cc)) := hid fun x => x.cell (by rw [World.cell?_alloc_at _ _ _ _ rfl]; rfl)
    have HX1 : Hid (∀ x : Ext (wr.alloc (.cells #[.slice ac l[k].clock.length cc, .string l[k].name] 43)), x.1.cell? ⟨wr.heap.size, 1, none⟩ = some (.string l[k].name)) := hid fun x => x.cell (by rw [World.cell?_alloc_at _ _ _ _ rfl]; rfl)
    have HBX : Hid (∀ w', Below (wr.alloc (.cells #[.slice ac l[k].clock.length cc, .string l[k].name] 43)).heap.size (wr.alloc (.cells #[.slice ac l[k].clock.length cc, .string l[k].name] 43)) w' → Below w.heap.size w w') := hid fun w' h => (HW.out.alloc HW.out.size _).trans (h.mono (by have := HW.out.size; simp; omega))
    by_cases hz : l[k].clock.length = 0
    · have HE : Hid (R = false) := hid (by rw [HD.out, decide_eq_false (show ¬ (l[k].clock.length ≠ 0) by omega)]; rfl)
      have hz0 : ((l[k].clock.length : Int) == 0) = true := by rw [hz]; rfl
      clear hz
      go_wp2_with fail
      go_quiet (fail)
      go_wp2_with fail
      go_ret
      exact ⟨ret_bool HE.out.symm, below_drewN' (HBX.out _ (Below.refl _ _)) _⟩
    have hz0 : ((l[k].clock.length : Int) == 0) = false := by simp; exact fun h => hz (by rw [h]; rfl)
    have HD1 : Hid (R = ((clockB l[k].clock && (nameB l[k].name && (decide (k = 0 ∨ entC (l[k - 1]'(by omega)) l[k] < 0) && (l.take k).all (pairB l[k])))) && regGo l (k + 1) (l.drop (k + 1)))) := hid (by rw [HD.out, decide_eq_true (show l[k].clock.length ≠ 0 from hz), Bool.true_and])
    clear hz
    go_wp2_with fail
    generalize hWB : wr.alloc (.cells #[.slice ac l[k].clock.length cc, .string l[k].name] 43) = WB at HX0 HX1 HBX ⊢
    clear hWB
    have hx0 := HX0.out
    have hx1 := HX1.out
    cases hcv : clockB l[k].clock
    · have HE : Hid (R = false) := hid (by rw [HD1.out, hcv]; rfl)
      have HVC : Hid (∀ W, Below w.heap.size w W → Calls Tryz.prog 117 #[.slice ac l[k].clock.length cc] W fun e w' => e = .returned (.bool false) ∧ Below W.heap.size W w') := hid fun W h => by have := clockValid_any _ l[k].clock W (SlRd.below HSC.out h fun _ _ _ h => h); rw [hcv] at this; exact this
      clear hcv
      go_wp2_with fail
      refine wp_region_ext (by kernel_rfl) (by kernel_rfl) ?_
      repeat (go_big_quiet_step ((go_at_call 117; exact ext_call _ (HVC.out _ (HBX.out _ (Subtype.property _))))))
      refine wpQuiet_nil ?_
      rintro _ ⟨x, rfl⟩
      have HBW := hid x.2
      all_goals
       go_wp2_with fail
       go_ret
       exact ⟨ret_bool HE.out.symm, HBX.out _ HBW.out⟩
    cases hcn : nameB l[k].name
    · have HE : Hid (R = false) := hid (by rw [HD1.out, hcv, hcn]; rfl)
      have HVC : Hid (∀ W, Below w.heap.size w W → Calls Tryz.prog 117 #[.slice ac l[k].clock.length cc] W fun e w' => e = .returned (.bool true) ∧ Below W.heap.size W w') := hid fun W h => by have := clockValid_any _ l[k].clock W (SlRd.below HSC.out h fun _ _ _ h => h); rw [hcv] at this; exact this
      have HVN : Hid (∀ W, Calls Tryz.prog 114 #[.string l[k].name] W fun e w' => e = .returned (.bool false) ∧ w' = W) := hid fun W => by have := nameValid_any l[k].name W HNM.out; rw [hcn] at this; exact this
      clear hcv hcn
      go_wp2_with fail
      refine wp_region_ext (by kernel_rfl) (by kernel_rfl) ?_
      repeat (go_big_quiet_step (first | (go_at_call 117; exact ext_call _ (HVC.out _ (HBX.out _ (Subtype.property _)))) | (go_at_call 114; exact ext_same _ (HVN.out _))))
      refine wpQuiet_nil ?_
      rintro _ ⟨x, rfl⟩
      have HBW := hid x.2
      all_goals
       go_wp2_with fail
       go_ret
       exact ⟨ret_bool HE.out.symm, HBX.out _ HBW.out⟩
    have HD2 : Hid (R = ((decide (k = 0 ∨ entC (l[k - 1]'(by omega)) l[k] < 0) && (l.take k).all (pairB l[k])) && regGo l (k + 1) (l.drop (k + 1)))) := hid (by rw [HD1.out, hcv, hcn]; rfl)
    have HVC : Hid (∀ W, Below w.heap.size w W → Calls Tryz.prog 117 #[.slice ac l[k].clock.length cc] W fun e w' => e = .returned (.bool true) ∧ Below W.heap.size W w') := hid fun W h => by have := clockValid_any _ l[k].clock W (SlRd.below HSC.out h fun _ _ _ h => h); rw [hcv] at this; exact this
    have HVN : Hid (∀ W, Calls Tryz.prog 114 #[.string l[k].name] W fun e w' => e = .returned (.bool true) ∧ w' = W) := hid fun W => by have := nameValid_any l[k].name W HNM.out; rw [hcn] at this; exact this
    clear hcv hcn
    by_cases hk0 : k = 0
    · have HE : Hid (R = ((l.take k).all (pairB l[k]) && regGo l (k + 1) (l.drop (k + 1)))) := hid (by rw [HD2.out, decide_eq_true (.inl hk0), Bool.true_and])
      have hkb : decide (0 < k) = false := decide_eq_false (by omega)
      have hkc : decide ((0 : Int) < (k : Int)) = false := decide_eq_false (by omega)
      have HK0 := hid hk0
      clear hk0
      go_wp2_with fail
      refine wp_region_ext (by kernel_rfl) (by kernel_rfl) ?_
      repeat (go_big_quiet_step (first | (go_at_call 117; exact ext_call _ (HVC.out _ (HBX.out _ (Subtype.property _)))) | (go_at_call 114; exact ext_same _ (HVN.out _))))
      refine wpQuiet_nil ?_
      rintro _ ⟨x, rfl⟩
      have HBW := hid x.2
      clear hx0 hx1
      have d0 := HX0.out x
      go_wp2_with fail
      obtain ⟨wo, rfl⟩ : ∃ wo : World, wo = wr := ⟨_, rfl⟩
      go_loopw [6, 7, 49] (fun _ _ i wq => ∃ (j : Nat), j ≤ k ∧ i = .int .i64 j ∧ Hid (R = (((l.take k).drop j).all (pairB l[k]) && regGo l (k + 1) (l.drop (k + 1)))) ∧ Hid (Below WB.heap.size WB wq)) (fun _ _ i _ => k - (intOf i).toNat)
      case atStart => exact ⟨0, Nat.zero_le _, rfl, hid (by rw [List.drop_zero]; exact HE.out), HBW⟩
      case round =>
       obtain ⟨j, hj, rfl, Hj, HWQ⟩ := hrel
       by_cases hjk : j < k
       · have hjl : j < (l.take k).length := by rw [List.length_take]; omega
         have HDJ : Hid (R = ((pairB l[k] l[j] && ((l.take k).drop (j + 1)).all (pairB l[k])) && regGo l (k + 1) (l.drop (k + 1)))) := hid (by rw [Hj.out, drop_consS _ j hjl, List.all_cons, List.getElem_take])
         obtain ⟨b', o', cs', hb', _, hcs', hr'⟩ := HV.out.at j (by omega)
         cases hb'
         obtain ⟨vj, rfl, hsj, hnj⟩ := hr'
         have HWQ2 := hid (HBX.out _ HWQ.out)
         have j0 : wr.cell? ⟨b, o + j * 2, none⟩ = some vj := (hcs'.below HWQ2.out) 0 (by simp)
         have j1 : wr.cell? ⟨b, o + j * 2 + 1, none⟩ = some (.string l[j].name) := (hcs'.below HWQ2.out) 1 (by simp)
         obtain ⟨aj, cj, rfl, _, _⟩ := hsj.shape
         have HSJ := hid hsj
         have e0 := HX0.out ⟨_, HWQ.out⟩
         have e0a := fun O => cell_alloc (o := O) e0
         have HAW : Hid (∀ O, Below WB.heap.size WB (wr.alloc O)) := hid fun O => HWQ.out.alloc HWQ.out.size O
         have HA0 : Hid (∀ O, Below wr.heap.size wr (wr.alloc O)) := hid fun O => (Below.refl _ _).alloc (Nat.le_refl _) O
         clear hcs' hsj hnj e0
         have hjl2 : (j : Int) < (k : Int) := by omega
         go_wp2_with fail
         refine (clockCmp_any _ _ l[k].clock l[j].clock _ (SlRd.below HSC.out (HBX.out _ (HAW.out _)) fun _ _ _ h => h) (SlRd.below HSJ.out (HBX.out _ (HAW.out _)) fun _ _ _ h => h)).mono ?_
         rintro e wc ⟨rfl, hbc⟩
         have HBC : Hid (Below WB.heap.size WB wc) := hid ((HAW.out _).trans (hbc.mono (HAW.out _).size))
         clear hbc
         have HPB : Hid (pairB l[k] l[j] = !((clockC l[k].clock l[j].clock == 1) || (clockC l[k].clock l[j].clock == 2))) := hid rfl
         generalize clockC l[k].clock l[j].clock = cv at HPB ⊢
         by_cases h1 : cv = 1
         · have HX : Hid (R = false) := hid (by rw [HDJ.out, HPB.out, h1]; rfl)
           subst h1
           go_wp2_with fail
           go_ret
           exact ⟨ret_bool HX.out.symm, (HBX.out _ HBC.out)⟩
         · have h1b : (cv == 1) = false := by simpa using h1
           by_cases h2 : cv = 2
           · have HX : Hid (R = false) := hid (by rw [HDJ.out, HPB.out, h2]; rfl)
             subst h2
             clear h1
             go_wp2_with fail
             go_ret
             exact ⟨ret_bool HX.out.symm, (HBX.out _ HBC.out)⟩
           · have h2b : (cv == 2) = false := by simpa using h2
             have HX : Hid (R = (((l.take k).drop (j + 1)).all (pairB l[k]) && regGo l (k + 1) (l.drop (k + 1)))) := hid (by rw [HDJ.out, HPB.out, h1b, h2b]; rfl)
             clear h1 h2
             go_wp2_with fail
             go_roundw
             case rel => exact ⟨j + 1, by omega, by go_num, HX, HBC⟩
             case measure => simp [intOf]; omega
       · have HX : Hid (R = regGo l (k + 1) (l.drop (k + 1))) := hid (by rw [Hj.out, List.drop_eq_nil_of_le (by rw [List.length_take]; omega)]; rfl)
         go_wp2_with fail
         go_roundw
         case rel => exact ⟨k + 1, by omega, by go_num, HX, hid (HBX.out _ HWQ.out)⟩
         case measure => simp [intOf]; omega
    · have hkp : k - 1 < l.length := by omega
      obtain ⟨bp, op, csp, hbp, _, hcsp, hrp⟩ := HV.out.at (k - 1) (by omega)
      cases hbp
      have HRP := hid hrp
      obtain ⟨vcp, rfl, hsp, hnp⟩ := hrp
      obtain ⟨ap, cp, rfl, _, _⟩ := hsp.shape
      obtain ⟨hp0, hp1⟩ := cx2 fun x : Ext WB => hcsp.below (HBX.out _ x.2)
      clear hcsp hsp hnp
      have hkb : decide (0 < k) = true := decide_eq_true (by omega)
      have hkc : decide ((0 : Int) < (k : Int)) = true := decide_eq_true (by omega)
      have hk1 : IntKind.i64.wrap ((k : Int) - 1) = (k : Int) - 1 := IntWalk.i64_in _ (by omega)
      have hk2 : (0 : Int) ≤ (k : Int) - 1 := by omega
      have hk3 : ((k : Int) - 1).toNat = k - 1 := by omega
      have hk4 : 1 ≤ k := by omega
      have hk5 : (k : Int) - 1 < (l.length : Int) := by omega
      have HVE : Hid (∀ W, Below w.heap.size w W → Calls Tryz.prog 46 #[.agg #[.slice ap (l[k - 1]'hkp).clock.length cp, .string (l[k - 1]'hkp).name], .agg #[.slice ac l[k].clock.length cc, .string l[k].name]] W fun e w' => e = .returned (.int .i64 (entC (l[k - 1]'hkp) l[k])) ∧ Below W.heap.size W w') :=
        hid fun W h => compareEntries_any _ _ [_, _] [_, _] W (entryRd.below HRP.out h) (entryRd.below HRK.out h)
      generalize hev : entC (l[k - 1]'hkp) l[k] = ev at HVE HD2
      clear hev
      by_cases hlt0 : ev < 0
      · have HE : Hid (R = ((l.take k).all (pairB l[k]) && regGo l (k + 1) (l.drop (k + 1)))) := hid (by rw [HD2.out, decide_eq_true (.inr hlt0), Bool.true_and])
        have hd : decide (0 ≤ ev) = false := decide_eq_false (by omega)
        go_wp2_with fail
        refine wp_region_ext (by kernel_rfl) (by kernel_rfl) ?_
        repeat (go_big_quiet_step (first | (go_at_call 117; exact ext_call _ (HVC.out _ (HBX.out _ (Subtype.property _)))) | (go_at_call 114; exact ext_same _ (HVN.out _)) | (go_at_call 46; exact ext_call _ (HVE.out _ (HBX.out _ (Subtype.property _))))))
        refine wpQuiet_nil ?_
        rintro _ ⟨x, rfl⟩
        have HBW := hid x.2
        clear hx0 hx1 hp0 hp1
        have d0 := HX0.out x
        go_wp2_with fail
        obtain ⟨wo, rfl⟩ : ∃ wo : World, wo = wr := ⟨_, rfl⟩
        go_loopw [6, 7, 49] (fun _ _ i wq => ∃ (j : Nat), j ≤ k ∧ i = .int .i64 j ∧ Hid (R = (((l.take k).drop j).all (pairB l[k]) && regGo l (k + 1) (l.drop (k + 1)))) ∧ Hid (Below WB.heap.size WB wq)) (fun _ _ i _ => k - (intOf i).toNat)
        case atStart => exact ⟨0, Nat.zero_le _, rfl, hid (by rw [List.drop_zero]; exact HE.out), HBW⟩
        case round =>
         obtain ⟨j, hj, rfl, Hj, HWQ⟩ := hrel
         by_cases hjk : j < k
         · have hjl : j < (l.take k).length := by rw [List.length_take]; omega
           have HDJ : Hid (R = ((pairB l[k] l[j] && ((l.take k).drop (j + 1)).all (pairB l[k])) && regGo l (k + 1) (l.drop (k + 1)))) := hid (by rw [Hj.out, drop_consS _ j hjl, List.all_cons, List.getElem_take])
           obtain ⟨b', o', cs', hb', _, hcs', hr'⟩ := HV.out.at j (by omega)
           cases hb'
           obtain ⟨vj, rfl, hsj, hnj⟩ := hr'
           have HWQ2 := hid (HBX.out _ HWQ.out)
           have j0 : wr.cell? ⟨b, o + j * 2, none⟩ = some vj := (hcs'.below HWQ2.out) 0 (by simp)
           have j1 : wr.cell? ⟨b, o + j * 2 + 1, none⟩ = some (.string l[j].name) := (hcs'.below HWQ2.out) 1 (by simp)
           obtain ⟨aj, cj, rfl, _, _⟩ := hsj.shape
           have HSJ := hid hsj
           have e0 := HX0.out ⟨_, HWQ.out⟩
           have e0a := fun O => cell_alloc (o := O) e0
           have HAW : Hid (∀ O, Below WB.heap.size WB (wr.alloc O)) := hid fun O => HWQ.out.alloc HWQ.out.size O
           have HA0 : Hid (∀ O, Below wr.heap.size wr (wr.alloc O)) := hid fun O => (Below.refl _ _).alloc (Nat.le_refl _) O
           clear hcs' hsj hnj e0
           have hjl2 : (j : Int) < (k : Int) := by omega
           go_wp2_with fail
           refine (clockCmp_any _ _ l[k].clock l[j].clock _ (SlRd.below HSC.out (HBX.out _ (HAW.out _)) fun _ _ _ h => h) (SlRd.below HSJ.out (HBX.out _ (HAW.out _)) fun _ _ _ h => h)).mono ?_
           rintro e wc ⟨rfl, hbc⟩
           have HBC : Hid (Below WB.heap.size WB wc) := hid ((HAW.out _).trans (hbc.mono (HAW.out _).size))
           clear hbc
           have HPB : Hid (pairB l[k] l[j] = !((clockC l[k].clock l[j].clock == 1) || (clockC l[k].clock l[j].clock == 2))) := hid rfl
           generalize clockC l[k].clock l[j].clock = cv at HPB ⊢
           by_cases h1 : cv = 1
           · have HX : Hid (R = false) := hid (by rw [HDJ.out, HPB.out, h1]; rfl)
             subst h1
             go_wp2_with fail
             go_ret
             exact ⟨ret_bool HX.out.symm, (HBX.out _ HBC.out)⟩
           · have h1b : (cv == 1) = false := by simpa using h1
             by_cases h2 : cv = 2
             · have HX : Hid (R = false) := hid (by rw [HDJ.out, HPB.out, h2]; rfl)
               subst h2
               clear h1
               go_wp2_with fail
               go_ret
               exact ⟨ret_bool HX.out.symm, (HBX.out _ HBC.out)⟩
             · have h2b : (cv == 2) = false := by simpa using h2
               have HX : Hid (R = (((l.take k).drop (j + 1)).all (pairB l[k]) && regGo l (k + 1) (l.drop (k + 1)))) := hid (by rw [HDJ.out, HPB.out, h1b, h2b]; rfl)
               clear h1 h2
               go_wp2_with fail
               go_roundw
               case rel => exact ⟨j + 1, by omega, by go_num, HX, HBC⟩
               case measure => simp [intOf]; omega
         · have HX : Hid (R = regGo l (k + 1) (l.drop (k + 1))) := hid (by rw [Hj.out, List.drop_eq_nil_of_le (by rw [List.length_take]; omega)]; rfl)
           go_wp2_with fail
           go_roundw
           case rel => exact ⟨k + 1, by omega, by go_num, HX, hid (HBX.out _ HWQ.out)⟩
           case measure => simp [intOf]; omega
      · have HE : Hid (R = false) := hid (by rw [HD2.out, decide_eq_false (by omega)]; rfl)
        have hd : decide (0 ≤ ev) = true := decide_eq_true (by omega)
        go_wp2_with fail
        refine wp_region_ext (by kernel_rfl) (by kernel_rfl) ?_
        repeat (go_big_quiet_step (first | (go_at_call 117; exact ext_call _ (HVC.out _ (HBX.out _ (Subtype.property _)))) | (go_at_call 114; exact ext_same _ (HVN.out _)) | (go_at_call 46; exact ext_call _ (HVE.out _ (HBX.out _ (Subtype.property _))))))
        refine wpQuiet_nil ?_
        rintro _ ⟨x, rfl⟩
        have HBW := hid x.2
        all_goals
         go_wp2_with fail
         go_ret
         exact ⟨ret_bool HE.out.symm, HBX.out _ HBW.out⟩
  · have HF : Hid (R = true) := hid (by rw [He.out, List.drop_eq_nil_of_le (by omega)]; rfl)
    go_wp2_with fail
    go_ret
    exact ⟨ret_bool HF.out.symm, HW.out⟩
inductive WfL : Lat → Prop
 | mk (l : Lat) (h1 : shapeB l = false) (h2 : checkE l = 0) (h3 : ∀ p ∈ l.parts, WfL p) : WfL l
theorem WfL.shape {l : Lat} (h : WfL l) : shapeB l = false := by cases h; assumption
theorem WfL.check {l : Lat} (h : WfL l) : checkE l = 0 := by cases h; assumption
theorem WfL.part {l p : Lat} (h : WfL l) (hp : p ∈ l.parts) : WfL p := by cases h; rename_i h; exact h p hp
theorem goL_zero (g : Lat → Nat → Int × Nat) : ∀ (ps : List Lat) (n : Nat), (goL g ps n).1 = 0 → ∀ p ∈ ps, ∃ m, (g p m).1 = 0
 | [], _, _, p, hp => by simp at hp
 | q :: t, n, h, p, hp => by
   unfold goL at h
   by_cases h0 : (g q n).1 = 0
   · rw [if_neg (fun h => h h0)] at h
     rcases List.mem_cons.1 hp with rfl | hp
     · exact ⟨n, h0⟩
     · exact goL_zero g t _ h p hp
   · rw [if_pos h0] at h; exact absurd h h0
theorem visit_wf : ∀ (f : Nat) (l : Lat) (n : Nat), (visitF f l n).1 = 0 → WfL l
 | 0, l, n, h => by unfold visitF at h; exact absurd (show (6 : Int) = 0 from h) (by decide)
 | f + 1, l, n, h => by
   have e : visitF (f + 1) l n = if 64 ≤ n then (6, n) else if shapeB l then (1, n + 1) else if checkE l ≠ 0 then (checkE l, n + 1) else goL (visitF f) l.parts (n + 1) := by cases l; rfl
   rw [e] at h
   by_cases h1 : 64 ≤ n
   · rw [if_pos h1] at h; exact absurd (show (6 : Int) = 0 from h) (by decide)
   rw [if_neg h1] at h
   cases h2 : shapeB l
   · rw [if_neg (by rw [h2]; exact Bool.false_ne_true)] at h
     by_cases h3 : checkE l = 0
     · rw [if_neg (fun h => h h3)] at h
       exact .mk l h2 h3 fun p hp => by
         obtain ⟨m, hm⟩ := goL_zero _ _ _ h p hp
         exact visit_wf f p m hm
     · rw [if_pos h3] at h; exact absurd h h3
   · rw [if_pos h2] at h; exact absurd (show (1 : Int) = 0 from h) (by decide)
theorem chkE_wf {l : Lat} (h : chkE l = 0) : WfL l := visit_wf 6 l 0 h
theorem orI4_zero {a b c d : Int} (h : orI [a, b, c, d] = 0) : a = 0 ∧ b = 0 ∧ c = 0 ∧ d = 0 := by
 unfold orI at h
 by_cases ha : a = 0
 · rw [if_pos ha] at h; unfold orI at h
   by_cases hb : b = 0
   · rw [if_pos hb] at h; unfold orI at h
     by_cases hc : c = 0
     · rw [if_pos hc] at h; unfold orI at h
       by_cases hd : d = 0
       · exact ⟨ha, hb, hc, hd⟩
       · rw [if_neg hd] at h; exact absurd h hd
     · rw [if_neg hc] at h; exact absurd h hc
   · rw [if_neg hb] at h; exact absurd h hb
 · rw [if_neg ha] at h; exact absurd h ha
theorem whenI_zero {b : Bool} {e : Int} (he : e ≠ 0) (h : whenI b e = 0) : b = false := by
 cases b
 · rfl
 · exact absurd h he
theorem WfL.limits {l : Lat} (h : WfL l) : limitsB l = false := whenI_zero (by decide) (orI4_zero h.check).1
theorem WfL.spell {l : Lat} (h : WfL l) : spellB l = false := whenI_zero (by decide) (orI4_zero h.check).2.1
theorem WfL.ranges {l : Lat} (h : WfL l) : rangesB l = false := whenI_zero (by decide) (orI4_zero h.check).2.2.1
theorem WfL.kinds {l : Lat} (h : WfL l) : (1 ≤ l.kind ∧ l.kind ≤ 10) ∧ (l.kind = 5 → l.parts.length = 1) ∧ (l.kind = 7 → l.parts.length = 2) ∧ (l.kind = 6 → l.parts.length = l.names.length ∧ 1 ≤ l.names.length ∧ l.names.length ≤ 8) ∧
 (l.kind ≠ 5 → l.kind ≠ 6 → l.kind ≠ 7 → l.parts.length = 0) ∧ (l.kind ≠ 2 → l.kind ≠ 3 → l.lo = 0 ∧ l.hi = 0) ∧ (l.kind ≠ 10 → l.rules.length = 0) ∧ l.names.length ≤ 32 ∧ l.rules.length ≤ 32 ∧ (l.kind = 10 → 1 ≤ l.names.length ∧ l.names.length ≤ 12) ∧
 (l.kind = 1 ∨ l.kind = 2 ∨ l.kind = 3 ∨ l.kind = 7 ∨ l.kind = 9 → l.names.length = 0) := by
 have h1 := h.shape
 have h2 : ¬ (mostN l.kind < l.names.length ∨ 32 < l.rules.length) := of_decide_eq_false h.limits
 have hA : l.kind = 6 → l.names.length ≤ 8 := fun e => by unfold mostN at h2; rw [if_pos e] at h2; omega
 have hB : l.kind = 10 → l.names.length ≤ 12 := fun e => by unfold mostN at h2; rw [if_neg (by omega), if_pos e] at h2; omega
 have hC : l.names.length ≤ 32 := by
  unfold mostN at h2
  by_cases e : l.kind = 6
  · have := hA e; omega
  · by_cases e' : l.kind = 10
    · have := hB e'; omega
    · rw [if_neg e, if_neg e'] at h2; omega
 have hD : l.rules.length ≤ 32 := by omega
 unfold shapeB shapeC at h1
 rcases shape_kinds l.kind l.names.length with ⟨hk, hx⟩ | ⟨hk, hx⟩ | ⟨hk, hx⟩ | ⟨hk, hx⟩ | ⟨hk, hx⟩ | ⟨hk, hx⟩ | ⟨hk, hx⟩ | ⟨hk, hx⟩
 all_goals
  rw [hk] at h1
  simp only [Bool.or_eq_false_iff, Bool.and_eq_false_iff, decide_eq_false_iff_not, Bool.not_true, Bool.not_false, Bool.true_and, Bool.false_and, reduceCtorEq, false_or, true_or, Decidable.not_not, Bool.true_eq_false, and_true, true_and] at h1
 all_goals omega
def ValPost (w : World) (x : Val) (e : Ending) (w' : World) : Prop := ∃ cs, e = .returned (.agg cs.toArray) ∧ valRd (only (from_ w.heap.size) w') x cs ∧ Below w.heap.size w w'
theorem botV_eq (k lo hi : Int) (ns : List ByteArray) (ps : List Lat) (rs : List Rl) : botV (.mk k lo hi ns ps rs) = if k = 2 then .mk lo [] [] [] else if k = 3 then .mk hi [] [] [] else if k = 6 ∨ k = 7 then .mk 0 [] (ps.map botV) [] else zeroV := by
 rw [botV, botVs_eq]
theorem sl_none {α : Type} (w : World) (sz : Nat) (R : α → List Value → Prop) : SlRd w sz R (.slice none 0 0) [] := ⟨none, 0, rfl, ⟨fun _ => rfl, Nat.le_refl _⟩, by decide, fun i hi => by simp at hi⟩
theorem valRd_flat (w : World) (n : Int) (h : I64 n) : valRd w (.mk n [] [] []) [.int .i64 n, .slice none 0 0, .slice none 0 0, .slice none 0 0] :=
 (valRd_iff _ _ _).2 ⟨_, _, _, rfl, h, sl_none _ _ _, sl_none _ _ _, sl_none _ _ _⟩
theorem infoVal : (Tryz.prog.info? 30).map (fun i => (i.zero, i.size, i.bytes)) = some (some (.agg #[.int .i64 0, .slice none 0 0, .slice none 0 0, .slice none 0 0]), 4, 80) := by kernel_rfl
theorem cell_at_block {w : World} {g i : Nat} {cs : Array Value} {t : TypeId} {fr : Nat × Nat} (h : w.heap[g]? = some (.cells cs t fr)) : w.cell? ⟨g, i, none⟩ = cs[i]? := cell_of_row w g i cs t fr h
theorem free_at_block {w : World} {g i : Nat} {cs : Array Value} {t : TypeId} (h : w.heap[g]? = some (.cells cs t (0, 0))) : w.frozen? ⟨g, i, none⟩ = false := by simp [World.frozen?, h]
theorem block_lt {w : World} {g : Nat} {o : Obj} (h : w.heap[g]? = some o) : g < w.heap.size := (Array.getElem?_eq_some_iff.1 h).1
theorem block_set {w : World} {g i : Nat} {cs : Array Value} {t : TypeId} {fr : Nat × Nat} (h : w.heap[g]? = some (.cells cs t fr)) (u : Value) : (w.setCell ⟨g, i, none⟩ u).heap[g]? = some (.cells (cs.setIfInBounds i u) t fr) := by
 simp [World.setCell, Array.getElem?_modify, h]
theorem block_alloc {w : World} {g : Nat} {o : Obj} (h : w.heap[g]? = some o) (O : Obj) : (w.alloc O).heap[g]? = some o := (Below.heap_alloc w O g (block_lt h)).trans h
theorem valRd_mono' {a b : World} {x : Val} {cs : List Value} (h : Sub a b) (k : valRd a x cs) : valRd b x cs := valRd.mono h _ _ k
theorem valRd_parts (w : World) {v : Value} {l : List Val} (h : SlRd w 4 (valRd w) v l) : valRd w (.mk 0 [] l []) [.int .i64 0, .slice none 0 0, v, .slice none 0 0] :=
 (valRd_iff _ _ _).2 ⟨_, _, _, rfl, i64_0, sl_none _ _ _, h, sl_none _ _ _⟩
theorem bottom_any (f : Nat) : ∀ (l : Lat) (cs : List Value) (w : World), SizeOf.sizeOf l ≤ f → latRd w l cs → WfL l →
 Calls Tryz.prog 61 #[.agg cs.toArray] w (ValPost w (botV l)) := by
 induction f with
 | zero => intro l cs w hn; cases l; simp at hn
 | succ f ih =>
   intro l cs w hn hl hwf
   have IH := hid ih
   have HSZ := hid hn
   have HWF := hid hwf
   obtain ⟨vn, vp, vr, rfl, ⟨hi1, hi2, hi3⟩, hns, hps, hrs⟩ := (latRd_iff _ _ _).1 hl
   obtain ⟨k, lo, hi', ns, ps, rs⟩ := l
   simp only [Lat.kind, Lat.lo, Lat.hi, Lat.names, Lat.parts, Lat.rules] at hi1 hi2 hi3 hns hps hrs ⊢
   obtain ⟨an, cn, rfl, _, _⟩ := hns.shape
   obtain ⟨ap, cp, rfl, _, hmp⟩ := hps.shape
   obtain ⟨ar, cr, rfl, _, _⟩ := hrs.shape
   have HPS := hid hps
   have HI2 := hid hi2
   have HI3 := hid hi3
   have HB := hid (botV_eq k lo hi' ns ps rs)
   have HP8 : Hid (ps.length ≤ 8) := hid (by have := HWF.out.kinds; simp only [Lat.kind, Lat.parts, Lat.names] at this; omega)
   have HPW : Hid (∀ p ∈ ps, WfL p) := hid fun p hp => HWF.out.part hp
   have HLE : Hid (∀ p ∈ ps, SizeOf.sizeOf p ≤ f) := hid fun p hp => by have := sizeOf_part (l := .mk k lo hi' ns ps rs) (p := p) hp; have := HSZ.out; omega
   generalize botV (.mk k lo hi' ns ps rs) = R at HB ⊢
   clear hl hns hps hrs hn ih hi1 hi2 hi3 hwf
   by_cases h2 : k = 2
   · have HR : Hid (R = .mk lo [] [] []) := hid (by rw [HB.out, if_pos h2])
     subst h2
     go_enter Tryz.func61, Tryz.ntmps61
     go_wp2_with fail
     refine bodyPost_ret (v := .agg #[.int .i64 lo, .slice none 0 0, .slice none 0 0, .slice none 0 0]) (by simp [results, Tryz.results61, go_sem]) rfl ⟨[_, _, _, _], rfl, by rw [HR.out]; exact valRd_flat _ _ HI2.out, by repeat (first | exact Below.refl _ _ | refine Below.setCell ?_ (by simp) _ | refine Below.alloc ?_ (by simp <;> omega) _ | refine Below.drew ?_)⟩
   by_cases h3 : k = 3
   · have HR : Hid (R = .mk hi' [] [] []) := hid (by rw [HB.out, if_neg h2, if_pos h3])
     subst h3
     clear h2
     go_enter Tryz.func61, Tryz.ntmps61
     go_wp2_with fail
     refine bodyPost_ret (v := .agg #[.int .i64 hi', .slice none 0 0, .slice none 0 0, .slice none 0 0]) (by simp [results, Tryz.results61, go_sem]) rfl ⟨[_, _, _, _], rfl, by rw [HR.out]; exact valRd_flat _ _ HI3.out, by repeat (first | exact Below.refl _ _ | refine Below.setCell ?_ (by simp) _ | refine Below.alloc ?_ (by simp <;> omega) _ | refine Below.drew ?_)⟩
   have e2 : (k == 2) = false := by simpa using h2
   have e3 : (k == 3) = false := by simpa using h3
   by_cases h67 : k = 6 ∨ k = 7
   · have HR : Hid (R = .mk 0 [] (ps.map botV) []) := hid (by rw [HB.out, if_neg h2, if_neg h3, if_pos h67])
     clear h2 h3 HB
     rcases h67 with rfl | rfl
     all_goals
      obtain ⟨i0, hi0, hz0, hz1, hz2⟩ := info_parts infoVal
      go_enter Tryz.func61, Tryz.ntmps61
      go_wp2_with fail
      go_loopw [5, 24] (fun _ i wr => ∃ (j : Nat) (vo : Value) (css : List (List Value)), j ≤ ps.length ∧ i = .int .i64 j ∧ wr.heap[w.heap.size + 1 + 1]? = some (.cells #[.int .i64 0, .slice none 0 0, vo, .slice none 0 0] 30 (0, 0)) ∧
        wr.heap[w.heap.size + 1]? = some (.cells #[.int .i64 0, .slice none 0 0, .slice none 0 0, .slice none 0 0] 30 (0, 0)) ∧ Hid (Below w.heap.size w wr) ∧ Hid (Rws wr (w.heap.size + 3) 30 4 valRd vo ((ps.map botV).take j) css)) (fun _ i _ => ps.length - (intOf i).toNat)
      case atStart => exact ⟨0, .slice none 0 0, [], Nat.zero_le _, rfl, heap_new_at _ _ _ (by simp), block_alloc (heap_new_at _ _ _ (by simp)) _, hid (by repeat (first | exact Below.refl _ _ | refine Below.setCell ?_ (by simp) _ | refine Below.alloc ?_ (by simp <;> omega) _ | refine Below.drew ?_)), hid (by rw [List.take_zero]; exact Rws.nil _ _ _ _ _)⟩
      case round =>
       obtain ⟨j, vo, css, hj, rfl, hKv, hKr, HW, HRW⟩ := hrel
       have HKR := hid hKr
       clear hKr
       by_cases hlt : j < ps.length
       · obtain ⟨b, o, cs, ha, hl0, hcs, hlp⟩ := HPS.out.at j hlt
         subst ha
         obtain ⟨an0, cn0, ap0, cp0, ar0, cr0, rfl, hyi, hyn, hyp, hyr, _⟩ := latRd.lay hlp
         have HLP := hid hlp
         obtain ⟨f0, f1, f2, f3, f4, f5⟩ := (hcs.below HW.out).six
         clear hlp hcs hyi hyn hyp hyr
         obtain ⟨ao, co, rfl⟩ := owns_shape HRW.out.own
         have hKlt := block_lt hKv
         have HKV := hid hKv
         go_wp2_with fail
         have HW1 : Hid (∀ O, Below wr.heap.size wr (wr.alloc O)) := hid fun O => (Below.refl _ _).alloc (Nat.le_refl _) O
         have HBX : Hid (∀ (i : Nat) (v : Value), #[Value.int .i64 ps[j].kind, .int .i64 ps[j].lo, .int .i64 ps[j].hi, .slice an0 ps[j].names.length cn0, .slice ap0 ps[j].parts.length cp0, .slice ar0 ps[j].rules.length cr0][i]? = some v → (wr.alloc (.cells #[.int .i64 ps[j].kind, .int .i64 ps[j].lo, .int .i64 ps[j].hi, .slice an0 ps[j].names.length cn0, .slice ap0 ps[j].parts.length cp0, .slice ar0 ps[j].rules.length cr0] 26)).cell? ⟨wr.heap.size, i, none⟩ = some v) := hid fun i v hv => by
           rw [World.cell?_alloc_at _ _ _ _ rfl]; exact hv
         have HWA := hid (HW1.out (.cells #[.int .i64 ps[j].kind, .int .i64 ps[j].lo, .int .i64 ps[j].hi, .slice an0 ps[j].names.length cn0, .slice ap0 ps[j].parts.length cp0, .slice ar0 ps[j].rules.length cr0] 26))
         generalize wr.alloc (.cells #[.int .i64 ps[j].kind, .int .i64 ps[j].lo, .int .i64 ps[j].hi, .slice an0 ps[j].names.length cn0, .slice ap0 ps[j].parts.length cp0, .slice ar0 ps[j].rules.length cr0] 26) = WA at HBX HWA ⊢
         have HWB : Hid (Below w.heap.size w WA) := hid (HW.out.trans (HWA.out.mono HW.out.size))
         have g0 := HBX.out 0 _ rfl
         have g1 := HBX.out 1 _ rfl
         have g2 := HBX.out 2 _ rfl
         have g3 := HBX.out 3 _ rfl
         have g4 := HBX.out 4 _ rfl
         have g5 := HBX.out 5 _ rfl
         have HKA : Hid (WA.heap[w.heap.size + 1 + 1]? = some (.cells #[.int .i64 0, .slice none 0 0, .slice ao ((ps.map botV).take j).length co, .slice none 0 0] 30 (0, 0))) := hid ((HWA.out.block _ hKlt).trans HKV.out)
         have hlen : ((ps.map botV).take j).length = j := by rw [List.length_take, List.length_map]; omega
         have HLEN := hid hlen
         rw [hlen] at HRW HKA
         have HRA : Hid (Rws WA (w.heap.size + 3) 30 4 valRd (.slice ao j co) ((ps.map botV).take j) css) := hid (HRW.out.keep valRd_mono' fun b hb hl => HWA.out.block b hl)
         have hk2 : WA.cell? ⟨w.heap.size + 1 + 1, 2, none⟩ = some (.slice ao j co) := by rw [cell_at_block HKA.out]; rfl
         have hwlt : w.heap.size + 1 + 1 < WA.heap.size := block_lt HKA.out
         have HWLT := hid hwlt
         have HJ : Hid (j + 1 ≤ 9223372036854775807 ∧ j + 1 ≤ ps.length) := hid (by omega)
         clear hlen f0 f1 f2 f3 f4 f5 hKv hwlt
         go_region_law
          (first
            | (refine step_append (by rfl) (.tmp 29) (.tmp 32) 27 (by rfl) (w.heap.size + 3) 30 4 80 Tryz.underlying27 hi0 hz0 hz1 hz2 rfl (by decide) (.slice ao j co) j css.flatten (by rfl) (HOW.out _) _ 1 [.int .i64 (botV ps[j]).n, .slice bn (botV ps[j]).names.length bcn, .slice bp (botV ps[j]).parts.length bcp, .slice be (botV ps[j]).entries.length bce] (by rfl) (Src.of_block (cs := #[.int .i64 (botV ps[j]).n, .slice bn (botV ps[j]).names.length bcn, .slice bp (botV ps[j]).parts.length bcp, .slice be (botV ps[j]).entries.length bce]) (heap_alloc_new _ _) 4 1 1 rfl (by simp [Value.oneCell'])) (j + 1) rfl _ rfl HMX.out.1 HMX.out.2 (HBS.out _) ?_
               intro na nc w2 had
               have HAD := hid had
               have HK2 : Hid (w2.heap[w.heap.size + 1 + 1]? = some (.cells #[.int .i64 0, .slice none 0 0, .slice ao j co, .slice none 0 0] 30 (0, 0))) := hid ((had.grown.block _ (by have := HSW.out; simp; omega) HNE.out).trans (block_alloc HK1.out _))
               have hk4 : w2.cell? ⟨w.heap.size + 1 + 1, 2, none⟩ = some (.slice ao j co) := by rw [cell_at_block HK2.out]; rfl
               have hk5 : w2.frozen? ⟨w.heap.size + 1 + 1, 2, none⟩ = false := free_at_block HK2.out
               clear had)
            | (go_simp
               go_at_call 61
               refine (IH.out ps[j] [.int .i64 ps[j].kind, .int .i64 ps[j].lo, .int .i64 ps[j].hi, .slice an0 ps[j].names.length cn0, .slice ap0 ps[j].parts.length cp0, .slice ar0 ps[j].rules.length cr0] _ (HLE.out _ (List.getElem_mem hlt)) (latRd.below (HWB.out.drew) _ _ HLP.out) (HPW.out _ (List.getElem_mem hlt))).mono ?_
               rintro e w1 ⟨cs1, rfl, hv1, hb1⟩
               have HX1 := hid hv1
               obtain ⟨bn, bcn, bp, bcp, be, bce, rfl, _, hsn, hsp, hse, _⟩ := valRd.lay hv1
               have HB1 : Hid (Below WA.heap.size WA w1) := hid ((Below.refl _ _).drew.trans hb1)
               have HR1 : Hid (Rws w1 (w.heap.size + 3) 30 4 valRd (.slice ao j co) ((ps.map botV).take j) css) := hid (HRA.out.keep valRd_mono' fun b hb hl => HB1.out.block b hl)
               have HK1 : Hid (w1.heap[w.heap.size + 1 + 1]? = some (.cells #[.int .i64 0, .slice none 0 0, .slice ao j co, .slice none 0 0] 30 (0, 0))) := hid ((HB1.out.block _ HWLT.out).trans HKA.out)
               have hk3 : w1.cell? ⟨w.heap.size + 1 + 1, 2, none⟩ = some (.slice ao j co) := by rw [cell_at_block HK1.out]; rfl
               have hk3a : ∀ O, (w1.alloc O).cell? ⟨w.heap.size + 1 + 1, 2, none⟩ = some (.slice ao j co) := fun O => cell_alloc hk3 O
               have HOW : Hid (∀ O, (w1.alloc O).ownsRow (w.heap.size + 3) 30 4 (.slice ao j co) j css.flatten) := hid fun O => by have := HR1.out.own; rw [HLEN.out] at this; exact this.alloc O
               have HMX : Hid (j + 1 ≤ maxLen ∧ (j + 1) * 80 ≤ 140737488355328) := hid (by have := HP8.out; have := HJ.out; unfold maxLen; omega)
               have HBS : Hid (∀ O, w.heap.size + 3 ≤ (w1.alloc O).heap.size) := hid fun O => by have := HB1.out.size; have := HWLT.out; simp; omega
               have HSW : Hid (w.heap.size + 1 + 1 < w1.heap.size) := hid (block_lt HK1.out)
               have HNE : Hid (some (w.heap.size + 1 + 1) ≠ (Value.slice ao j co).ownBlock) := hid fun e => by have := (HOW.out (.cells #[] 0 (0, 0))).lt _ e.symm; omega
               clear hv1 hb1 hsn hsp hse))
         all_goals
          have HKF : Hid (∀ u, (w2.setCell ⟨w.heap.size + 1 + 1, 2, none⟩ u).heap[w.heap.size + 1 + 1]? = some (.cells #[.int .i64 0, .slice none 0 0, u, .slice none 0 0] 30 (0, 0))) := hid fun u => block_set HK2.out u
          have HKG : Hid (∀ u, (w2.setCell ⟨w.heap.size + 1 + 1, 2, none⟩ u).heap[w.heap.size + 1]? = some (.cells #[.int .i64 0, .slice none 0 0, .slice none 0 0, .slice none 0 0] 30 (0, 0))) := hid fun u => by
            rw [Below.heap_setCell _ _ _ _ (by simp), HAD.out.grown.block _ (by have := HSW.out; simp; omega) (fun e => by have := (HOW.out (.cells #[] 0 (0, 0))).lt _ e.symm; omega)]
            exact block_alloc ((HB1.out.block _ (by have := HWLT.out; omega)).trans ((HWA.out.block _ (block_lt HKR.out)).trans HKR.out)) _
          have HBF : Hid (∀ u, Below w.heap.size w (w2.setCell ⟨w.heap.size + 1 + 1, 2, none⟩ u)) := hid fun u =>
           (((HWB.out.trans (HB1.out.mono HWB.out.size)).alloc (by have := HSW.out; omega) _).grown HAD.out.grown (by have := HSW.out; simp; omega) (fun g hg => by have := (HOW.out (.cells #[] 0 (0, 0))).lt g hg; omega)).setCell (by simp; omega) u
          have HRF : Hid (∀ u, Rws (w2.setCell ⟨w.heap.size + 1 + 1, 2, none⟩ u) (w.heap.size + 3) 30 4 valRd (.slice na (j + 1) nc) ((ps.map botV).take (j + 1)) (css ++ [[.int .i64 (botV ps[j]).n, .slice bn (botV ps[j]).names.length bcn, .slice bp (botV ps[j]).parts.length bcp, .slice be (botV ps[j]).entries.length bce]])) := hid fun u => by
            have hp := (HR1.out.keep valRd_mono' (w' := w1.alloc (.cells #[.int .i64 (botV ps[j]).n, .slice bn (botV ps[j]).names.length bcn, .slice bp (botV ps[j]).parts.length bcp, .slice be (botV ps[j]).entries.length bce] 30)) (fun b _ hl => Below.heap_alloc _ _ _ hl)).push valRd_mono' (x := botV ps[j]) (cs := [.int .i64 (botV ps[j]).n, .slice bn (botV ps[j]).names.length bcn, .slice bp (botV ps[j]).parts.length bcp, .slice be (botV ps[j]).entries.length bce]) HAD.out (by rw [HLEN.out]) rfl rfl
              (valRd_mono' (only_keep fun b hb hl => ⟨by
                unfold from_ at hb
                unfold butOwn
                have hb' := of_decide_eq_true hb
                simp only [Bool.and_eq_true, decide_eq_true_eq]
                refine ⟨by have := HWLT.out; have : WA.drew.heap.size = WA.heap.size := rfl; omega, fun e => ?_⟩
                have := (HRA.out.own).lt b e
                have : WA.drew.heap.size = WA.heap.size := rfl
                omega, Below.heap_alloc _ _ _ hl⟩) HX1.out)
            rw [show (ps.map botV).take (j + 1) = (ps.map botV).take j ++ [botV ps[j]] by rw [List.take_succ_eq_append_getElem (by rw [List.length_map]; exact HJ.out.2), List.getElem_map]]
            exact hp.keep valRd_mono' fun b hb hl => Below.heap_setCell _ _ _ _ (by simp; omega)
          go_wp2_with fail
          go_roundw
          case rel => exact ⟨j + 1, _, _, HJ.out.2, by go_num, HKF.out _, HKG.out _, hid (HBF.out _), hid (HRF.out _)⟩
          case measure => simp [intOf]; omega
       · have hjj : j = ps.length := by omega
         subst hjj
         have HRS := hid (HRW.out.reads valRd_mono')
         rw [List.take_of_length_le (by rw [List.length_map]; exact Nat.le_refl _)] at HRS
         obtain ⟨ao, co, rfl⟩ := owns_shape HRW.out.own
         have hk2 : ∀ i, wr.cell? ⟨w.heap.size + 1 + 1, i, none⟩ = #[.int .i64 0, .slice none 0 0, .slice ao ((ps.map botV).take ps.length).length co, .slice none 0 0][i]? := fun i => cell_at_block hKv
         have hk3 : ∀ i, wr.cell? ⟨w.heap.size + 1, i, none⟩ = #[.int .i64 0, .slice none 0 0, .slice none 0 0, .slice none 0 0][i]? := fun i => cell_at_block HKR.out
         have hk4 : ∀ i, wr.frozen? ⟨w.heap.size + 1, i, none⟩ = false := fun i => free_at_block HKR.out
         clear hKv
         have HBS : Hid (∀ u, Below w.heap.size w (wr.setCell ⟨w.heap.size + 1, 0, none⟩ u)) := hid fun u => HW.out.setCell (by simp) u
         go_wp2_with fail
         refine bodyPost_ret (v := .agg #[.int .i64 0, .slice none 0 0, .slice ao ((ps.map botV).take ps.length).length co, .slice none 0 0]) ?_ rfl ⟨[_, _, _, _], rfl, ?_, ?_⟩
         · simp [results, Tryz.results61, go_sem, hk3, hk2, hk4]
         · rw [HR.out]
           have hs : ∀ (a b c d : Value), Sub (only (from_ (w.heap.size + 3)) wr) (only (from_ w.heap.size) ((((wr.setCell ⟨w.heap.size + 1, 0, none⟩ a).setCell ⟨w.heap.size + 1, 1, none⟩ b).setCell ⟨w.heap.size + 1, 2, none⟩ c).setCell ⟨w.heap.size + 1, 3, none⟩ d)) := fun a b c d => only_keep fun g hg _ => by
             have hg' := of_decide_eq_true hg
             refine ⟨decide_eq_true (by omega), ?_⟩
             rw [Below.heap_setCell _ _ _ _ (by simp; omega), Below.heap_setCell _ _ _ _ (by simp; omega), Below.heap_setCell _ _ _ _ (by simp; omega), Below.heap_setCell _ _ _ _ (by simp; omega)]
           exact valRd_parts _ (SlRd.mono HRS.out (hs _ _ _ _) fun _ _ _ h => valRd_mono' (hs _ _ _ _) h)
         · exact (((HW.out.setCell (by simp) _).setCell (by simp) _).setCell (by simp) _).setCell (by simp) _
   · have HR : Hid (R = zeroV) := hid (by rw [HB.out, if_neg h2, if_neg h3, if_neg h67])
     have e6 : (k == 6) = false := by simp; omega
     have e7 : (k == 7) = false := by simp; omega
     clear h2 h3 h67
     go_enter Tryz.func61, Tryz.ntmps61
     go_wp2_with fail
     refine bodyPost_ret (v := .agg #[.int .i64 0, .slice none 0 0, .slice none 0 0, .slice none 0 0]) (by simp [results, Tryz.results61, go_sem]) rfl ⟨[_, _, _, _], rfl, by rw [HR.out]; exact valRd_flat _ _ i64_0, by repeat (first | exact Below.refl _ _ | refine Below.setCell ?_ (by simp) _ | refine Below.alloc ?_ (by simp <;> omega) _ | refine Below.drew ?_)⟩
end Go.Proofs.YtmdjnaobllajmaaGreatDoor
