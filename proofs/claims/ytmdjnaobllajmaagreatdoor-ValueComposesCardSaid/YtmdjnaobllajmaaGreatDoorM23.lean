/-
  What the statements of the chapter share, part 23: VK1, VK2, VK3, PK, VK4.
-/
import Derived.Test.YtmdjnaobllajmaaGreatDoorM04
import Derived.Test.YtmdjnaobllajmaaGreatDoorM06
import Derived.Test.YtmdjnaobllajmaaGreatDoorM17
import Derived.Test.YtmdjnaobllajmaaGreatDoorM21
import Derived.Lib.Strings
set_option linter.unusedVariables false
set_option linter.unusedSimpArgs false
/- The walks of the reference of package lattice: Name, In, Rising. -/
namespace Go.Proofs.YtmdjnaobllajmaaGreatDoor
open Go.RowKit

theorem rName_byte (c : Int) : (wordB c = true ∧ (97 ≤ c ∧ c ≤ 122)) ∨ (wordB c = true ∧ c < 97 ∧ 48 ≤ c ∧ c ≤ 57) ∨ (wordB c = true ∧ c = 45) ∨ (wordB c = false ∧ c < 97 ∧ c < 48 ∧ (c != 45) = true) ∨ (wordB c = false ∧ c < 97 ∧ 48 ≤ c ∧ 57 < c ∧ (c != 45) = true) ∨ (wordB c = false ∧ 97 ≤ c ∧ 122 < c ∧ 48 ≤ c ∧ 57 < c ∧ (c != 45) = true) := by
  unfold wordB
  simp only [decide_eq_true_eq, decide_eq_false_iff_not, bne_iff_ne, ne_eq]
  omega

set_option maxHeartbeats 2000000 in
theorem rName_any (s : ByteArray) (w : World) (hs : s.size ≤ maxLen) : Calls Tryz.prog 166 #[.string s] w fun e w' => e = .returned (.bool (nameB s)) ∧ w' = w := by
  unfold maxLen at hs
  have hsz : s.data.toList.length = s.size := rfl
  by_cases h0 : s.size = 0
  · have HB : Hid (nameB s = false) := hid (by unfold nameB; rw [decide_eq_false (show ¬ (1 ≤ s.size ∧ s.size ≤ 16) by omega), Bool.false_and])
    have e0 : (s.size : Int) < 1 := by omega
    clear h0 hsz
    go_enter Tryz.func166, Tryz.ntmps166
    go_wp2
    all_goals first
      | (exfalso; omega)
      | (go_ret; exact ⟨ret_bool HB.out.symm, rfl⟩)
  have e0 : (1 : Int) ≤ (s.size : Int) := by omega
  have hlt : 0 < s.size := by omega
  by_cases h16 : 16 < s.size
  · have HB : Hid (nameB s = false) := hid (by unfold nameB; rw [decide_eq_false (show ¬ (1 ≤ s.size ∧ s.size ≤ 16) by omega), Bool.false_and])
    have e1 : (16 : Int) < (s.size : Int) := by omega
    clear hsz
    go_enter Tryz.func166, Tryz.ntmps166
    go_wp2
    all_goals first
      | (exfalso; omega)
      | (go_ret; exact ⟨ret_bool HB.out.symm, rfl⟩)
  have h16' : (s.size : Int) ≤ 16 := by omega
  have hg : s.data.toList.getD 0 0 = s[0] := by rw [List.getD_eq_getElem?_getD, List.getElem?_eq_getElem (by omega)]; rfl
  by_cases h97 : (s[0].toNat : Int) < 97
  · have HB : Hid (nameB s = false) := hid (by unfold nameB; rw [hg, decide_eq_true (show 1 ≤ s.size ∧ s.size ≤ 16 by omega), decide_eq_false (show ¬ ((97 : Int) ≤ (s[0].toNat : Int) ∧ (s[0].toNat : Int) ≤ 122) by omega)]; rfl)
    clear hsz hg
    go_enter Tryz.func166, Tryz.ntmps166
    go_wp2
    all_goals first
      | (exfalso; omega)
      | (go_ret; exact ⟨ret_bool HB.out.symm, rfl⟩)
  have h97' : (97 : Int) ≤ (s[0].toNat : Int) := by omega
  by_cases h122 : 122 < (s[0].toNat : Int)
  · have HB : Hid (nameB s = false) := hid (by unfold nameB; rw [hg, decide_eq_true (show 1 ≤ s.size ∧ s.size ≤ 16 by omega), decide_eq_false (show ¬ ((97 : Int) ≤ (s[0].toNat : Int) ∧ (s[0].toNat : Int) ≤ 122) by omega)]; rfl)
    clear hsz hg
    go_enter Tryz.func166, Tryz.ntmps166
    go_wp2
    all_goals first
      | (exfalso; omega)
      | (go_ret; exact ⟨ret_bool HB.out.symm, rfl⟩)
  have h122' : (s[0].toNat : Int) ≤ 122 := by omega
  have HB : Hid (nameB s = s.data.toList.all fun c => wordB c.toNat) := hid (by unfold nameB; rw [hg, decide_eq_true (show 1 ≤ s.size ∧ s.size ≤ 16 by omega), decide_eq_true (show (97 : Int) ≤ (s[0].toNat : Int) ∧ (s[0].toNat : Int) ≤ 122 by omega), Bool.true_and, Bool.true_and])
  clear hg hsz h97 h122 h16 h0
  go_enter Tryz.func166, Tryz.ntmps166
  go_wp2
  all_goals try (exfalso; omega)
  clear h97' h122'
  go_loop [3] (fun i => ∃ (k : Nat), k ≤ s.size ∧ i = .int .i64 k ∧ Hid (nameB s = (s.data.toList.drop k).all fun c => wordB c.toNat)) (fun i => s.size - (intOf i).toNat)
  case atStart => exact ⟨0, Nat.zero_le _, rfl, hid (by rw [HB.out, List.drop_zero])⟩
  case round =>
    obtain ⟨k, hk, rfl, He⟩ := hrel
    by_cases hlt : k < s.size
    · have HD : Hid (nameB s = (wordB s[k].toNat && (s.data.toList.drop (k + 1)).all fun c => wordB c.toNat)) := hid (by rw [He.out, nameB_drop s k hlt])
      clear He
      rcases rName_byte (s[k].toNat : Int) with ⟨hc, h1, h2⟩ | ⟨hc, h1, h2, h3⟩ | ⟨hc, h1⟩ | ⟨hc, h1, h2, h3⟩ | ⟨hc, h1, h2, h3, h4⟩ | ⟨hc, h1, h2, h3, h4, h5⟩
      all_goals
        have HC := hid hc
        clear hc
      · go_wp2
        go_round
        case rel => exact ⟨k + 1, by omega, by go_num, hid (by rw [HD.out, HC.out]; rfl)⟩
        case measure => simp [intOf]; omega
      · go_wp2
        go_round
        case rel => exact ⟨k + 1, by omega, by go_num, hid (by rw [HD.out, HC.out]; rfl)⟩
        case measure => simp [intOf]; omega
      · have e1 : (s[k].toNat : Int) < 97 := by omega
        have e2 : (s[k].toNat : Int) < 48 := by omega
        have e3 : ((s[k].toNat : Int) != 45) = false := by rw [h1]; rfl
        clear h1
        go_wp2
        go_round
        case rel => exact ⟨k + 1, by omega, by go_num, hid (by rw [HD.out, HC.out]; rfl)⟩
        case measure => simp [intOf]; omega
      · go_wp2
        all_goals first
          | (exfalso; omega)
          | (go_ret; exact ⟨ret_bool (by rw [HD.out, HC.out]; rfl), rfl⟩)
      · go_wp2
        all_goals first
          | (exfalso; omega)
          | (go_ret; exact ⟨ret_bool (by rw [HD.out, HC.out]; rfl), rfl⟩)
      · go_wp2
        all_goals first
          | (exfalso; omega)
          | (go_ret; exact ⟨ret_bool (by rw [HD.out, HC.out]; rfl), rfl⟩)
    · have HF : Hid (nameB s = true) := hid (by rw [He.out, List.drop_eq_nil_of_le (by have : s.data.toList.length = s.size := rfl; omega)]; rfl)
      go_wp2
      go_ret
      exact ⟨ret_bool HF.out.symm, rfl⟩

theorem strEq_comm (a b : ByteArray) : strEq a b = (b.toList == a.toList) := by
  unfold strEq
  rw [Bool.eq_iff_iff, beq_iff_eq, beq_iff_eq]
  exact eq_comm
theorem hasS_step (l : List ByteArray) (s : ByteArray) (k : Nat) (h : k < l.length) : hasS (l.drop k) s = ((l[k].toList == s.toList) || hasS (l.drop (k + 1)) s) := by
  unfold hasS
  rw [drop_consS l k h, List.any_cons, strEq_comm]

set_option maxHeartbeats 1000000 in
theorem rIn_any (v : Value) (l : List ByteArray) (s : ByteArray) (w : World) (hv : Strs w v l) :
    Calls Tryz.prog 167 #[v, .string s] w fun e w' => e = .returned (.bool (hasS l s)) ∧ w' = w := by
  obtain ⟨ad, cap, rfl, _, hmax⟩ := hv.shape
  have HV := hid hv
  clear hv
  go_enter Tryz.func167, Tryz.ntmps167
  go_wp2
  go_loop [5] (fun i => ∃ (k : Nat), k ≤ l.length ∧ i = .int .i64 k ∧ Hid (hasS l s = hasS (l.drop k) s)) (fun i => l.length - (intOf i).toNat)
  case atStart => exact ⟨0, Nat.zero_le _, rfl, hid rfl⟩
  case round =>
    obtain ⟨k, hk, rfl, He⟩ := hrel
    by_cases hlt : k < l.length
    · obtain ⟨b, o, rfl, hc0, _⟩ := HV.out.cell k hlt
      have HD : Hid (hasS l s = ((l[k].toList == s.toList) || hasS (l.drop (k + 1)) s)) := hid (by rw [He.out, hasS_step l s k hlt])
      have hk1 : (k : Int) < (l.length : Int) := by omega
      clear He
      cases hc : (l[k].toList == s.toList)
      all_goals
        have HC := hid hc
        go_wp2
      · go_round
        case rel => exact ⟨k + 1, by omega, by go_num, hid (by rw [HD.out, HC.out]; rfl)⟩
        case measure => simp [intOf]; omega
      · go_ret
        exact ⟨ret_bool (by rw [HD.out, HC.out]; rfl), rfl⟩
    · have hkl : k = l.length := by omega
      subst hkl
      have HF : Hid (hasS l s = false) := hid (by rw [He.out, List.drop_eq_nil_of_le (Nat.le_refl _)]; rfl)
      go_wp2
      go_ret
      exact ⟨ret_bool HF.out.symm, rfl⟩

/-- Names valid and sorted. -/
def risingB (l : List ByteArray) : Bool := l.all nameB && sortedB l
/-- What is left at index k: the names from there on, and the order with the one before. -/
def risingFrom (l : List ByteArray) (k : Nat) : Bool := (l.drop k).all nameB && (match k with
  | 0 => sortedB l
  | j + 1 => match l[j]? with
    | some p => sortedFrom p (l.drop (j + 1))
    | none => true)
theorem rising_zero (l : List ByteArray) : risingFrom l 0 = risingB l := rfl
theorem rising_step0 (l : List ByteArray) (h : 0 < l.length) : risingFrom l 0 = (nameB l[0] && risingFrom l 1) := by
  cases l with
  | nil => simp at h
  | cons x t => simp [risingFrom, sortedB, Bool.and_assoc]
theorem rising_step (l : List ByteArray) (j : Nat) (h : j + 1 < l.length) : risingFrom l (j + 1) = (nameB l[j + 1] && (strLt (l[j]'(by omega)) l[j + 1] && risingFrom l (j + 2))) := by
  unfold risingFrom
  simp only [List.getElem?_eq_getElem h, List.getElem?_eq_getElem (show j < l.length by omega)]
  rw [drop_consS l (j + 1) h, List.all_cons, sortedFrom, Bool.eq_iff_iff]
  simp only [Bool.and_eq_true]
  constructor
  · rintro ⟨⟨a, b⟩, c, d⟩; exact ⟨a, c, b, d⟩
  · rintro ⟨a, c, b, d⟩; exact ⟨⟨a, b⟩, c, d⟩
theorem rising_end (l : List ByteArray) (k : Nat) (h : l.length ≤ k) : risingFrom l k = true := by
  unfold risingFrom
  rw [List.drop_eq_nil_of_le h]
  cases k with
  | zero =>
    have : l = [] := List.length_eq_zero_iff.1 (by omega)
    subst this; rfl
  | succ j =>
    show (true && _) = true
    rw [Bool.true_and]
    cases hj : l[j]? with
    | none => simp only [hj]
    | some p => simp only [hj]; rw [List.drop_eq_nil_of_le h]; rfl

set_option maxHeartbeats 4000000 in
theorem rRising_any (v : Value) (l : List ByteArray) (w : World) (hv : Strs w v l) :
    Calls Tryz.prog 168 #[v] w fun e w' => e = .returned (.bool (risingB l)) ∧ ∃ n, w' = w.drewN n := by
  obtain ⟨ad, cap, rfl, _, hmax⟩ := hv.shape
  have HV := hid hv
  clear hv
  go_enter Tryz.func168, Tryz.ntmps168
  go_wp2
  go_loopw [3] (fun i wr => ∃ (k : Nat), k ≤ l.length ∧ i = .int .i64 k ∧ Hid (∃ n, wr = w.drewN n) ∧ Hid (risingB l = risingFrom l k)) (fun i _ => l.length - (intOf i).toNat)
  case atStart => exact ⟨0, Nat.zero_le _, rfl, hid ⟨0, rfl⟩, hid rfl⟩
  case round =>
    obtain ⟨k, hk, rfl, HN, He⟩ := hrel
    by_cases hlt : k < l.length
    · obtain ⟨b, o, rfl, hc0, hsz⟩ := HV.out.cell k hlt
      have hcell : wr.cell? ⟨b, o + k, none⟩ = some (.string l[k]) := by obtain ⟨n, rfl⟩ := HN.out; exact hc0
      have hk1 : (k : Int) < (l.length : Int) := by omega
      have HSZ := hid hsz
      clear hc0 hsz
      cases k with
      | zero =>
        have HD : Hid (risingB l = (nameB l[0] && risingFrom l 1)) := hid (by rw [He.out, rising_step0 l hlt])
        have hcell0 : wr.cell? ⟨b, o, none⟩ = some (.string l[0]) := hcell
        clear He hcell
        have HNM : Hid (∀ W, Calls Tryz.prog 166 #[.string l[0]] W fun e w' => e = .returned (.bool (nameB l[0])) ∧ w' = W) := hid fun W => rName_any _ W HSZ.out
        cases hc : nameB l[0]
        all_goals
          have HC := hid hc
          rw [hc] at HNM
          clear hc
          go_wp2_with fail
          go_quiet (exact (HNM.out _).mono (fun e w' h => ⟨h.1, _, h.2⟩))
          go_wp2
        · go_ret
          exact ⟨ret_bool (by rw [HD.out, HC.out]; rfl), by obtain ⟨n, rfl⟩ := HN.out; exact ⟨n + nq, by rw [World.drewN_drewN]⟩⟩
        · go_roundw
          case rel => exact ⟨1, by omega, rfl, hid (by obtain ⟨n, rfl⟩ := HN.out; exact ⟨n + nq, by rw [World.drewN_drewN]⟩), hid (by rw [HD.out, HC.out]; rfl)⟩
          case measure => simp [intOf]; omega
      | succ j =>
        obtain ⟨b', o', heq, hc1, _⟩ := HV.out.cell j (by omega)
        cases heq
        have hcell1 : wr.cell? ⟨b, o + j, none⟩ = some (.string l[j]) := by obtain ⟨n, rfl⟩ := HN.out; exact hc1
        have HD : Hid (risingB l = (nameB l[j + 1] && (strLt l[j] l[j + 1] && risingFrom l (j + 2)))) := hid (by rw [He.out, rising_step l j hlt])
        clear He hc1
        have HNM : Hid (∀ W, Calls Tryz.prog 166 #[.string l[j + 1]] W fun e w' => e = .returned (.bool (nameB l[j + 1])) ∧ w' = W) := hid fun W => rName_any _ W HSZ.out
        have e1 : wrap64 ((j : Int) + 1 - 1) = (j : Int) := by rw [show (j : Int) + 1 - 1 = j by omega]; exact IntWalk.wrap64_in _ (by omega)
        have e2 : ((j : Int) + 1 - 1) = (j : Int) := by omega
        have hj0 : (0 : Int) ≤ (j : Int) := by omega
        have hj1 : (j : Int) < (l.length : Int) := by omega
        have hj2 : (0 : Int) < (j : Int) + 1 := by omega
        have hj3 : ((j : Int) + 1).toNat = j + 1 := by omega
        have hj4 : ((j + 1 : Nat) : Int) = (j : Int) + 1 := by omega
        cases hc : nameB l[j + 1]
        · have HC := hid hc
          rw [hc] at HNM
          clear hc
          go_wp2_with fail
          go_quiet (exact (HNM.out _).mono (fun e w' h => ⟨h.1, _, h.2⟩))
          go_wp2
          go_ret
          exact ⟨ret_bool (by rw [HD.out, HC.out]; rfl), by obtain ⟨n, rfl⟩ := HN.out; exact ⟨n + nq, by rw [World.drewN_drewN]⟩⟩
        · have HC := hid hc
          rw [hc] at HNM
          clear hc
          cases hs : strLt l[j] l[j + 1]
          all_goals
            have HS := hid hs
            have hb : Op.bytesLess l[j].toList l[j + 1].toList = _ := hs
            clear hs
            go_wp2_with fail
            go_quiet (exact (HNM.out _).mono (fun e w' h => ⟨h.1, _, h.2⟩))
            go_wp2
          · go_ret
            exact ⟨ret_bool (by rw [HD.out, HC.out, HS.out]; rfl), by obtain ⟨n, rfl⟩ := HN.out; exact ⟨n + nq, by rw [World.drewN_drewN]⟩⟩
          · go_roundw
            case rel => exact ⟨j + 2, by omega, by go_num, hid (by obtain ⟨n, rfl⟩ := HN.out; exact ⟨n + nq, by rw [World.drewN_drewN]⟩), hid (by rw [HD.out, HC.out, HS.out]; rfl)⟩
            case measure => simp [intOf]; omega
    · have hkl : k = l.length := by omega
      subst hkl
      have HF : Hid (risingB l = true) := hid (by rw [He.out, rising_end l _ (Nat.le_refl _)])
      clear hlt hk
      go_wp2
      go_ret
      exact ⟨ret_bool HF.out.symm, HN.out⟩
end Go.Proofs.YtmdjnaobllajmaaGreatDoor

/- The walks of the reference of package lattice: Chain, shape. -/
namespace Go.Proofs.YtmdjnaobllajmaaGreatDoor
open Go.RowKit

set_option maxHeartbeats 1000000 in
theorem rChain_any (n : Nat) : ∀ (l : Lat) (cs : List Value) (w : World), SizeOf.sizeOf l ≤ n → latRd w l cs →
    Calls Tryz.prog 148 #[.agg cs.toArray] w fun e w' => e = .returned (.bool (chainB l)) ∧ Below w.heap.size w w' := by
  induction n with
  | zero => intro l cs w hn; cases l; simp at hn
  | succ n ih =>
    intro l cs w hn hl
    obtain ⟨vn, vp, vr, rfl, hi, hns, hps, hrs⟩ := (latRd_iff _ _ _).1 hl
    obtain ⟨k, lo, hi', ns, ps, rs⟩ := l
    simp only [Lat.kind, Lat.lo, Lat.hi, Lat.names, Lat.parts, Lat.rules] at hi hns hps hrs ⊢
    obtain ⟨ap, cp, rfl, hcp, hmp⟩ := hps.shape
    have hb : Below w.heap.size w (w.alloc (.cells #[.int .i64 k, .int .i64 lo, .int .i64 hi', vn, .slice ap ps.length cp, vr] 26)) := (Below.refl _ _).alloc (Nat.le_refl _) _
    by_cases h1 : k = 1 ∨ k = 2 ∨ k = 3
    · have HC : Hid (chainB (.mk k lo hi' ns ps rs) = true) := hid (by rw [chainB_eq]; simp only [Lat.kind, h1, decide_true, Bool.true_or])
      rcases h1 with rfl | rfl | rfl
      all_goals
        go_enter Tryz.func148, Tryz.ntmps148
        go_wp2
        all_goals (go_ret; exact ⟨ret_bool HC.out.symm, hb⟩)
    · by_cases h7 : k = 7
      · subst h7
        by_cases h2 : ps.length = 2
        · obtain ⟨p, q, rfl⟩ : ∃ p q, ps = [p, q] := by
            match ps, h2 with
            | [p, q], _ => exact ⟨p, q, rfl⟩
          obtain ⟨a', cp', heq, _, _, hcell⟩ := hps
          cases heq
          obtain ⟨b, o, cs0, hab, hl0, hc0, hr0⟩ := hcell 0 (by simp)
          obtain ⟨b', o', cs1, hab', hl1, hc1, hr1⟩ := hcell 1 (by simp)
          subst hab
          cases hab'
          simp only [List.getElem_cons_zero, List.getElem_cons_succ] at hr0 hr1
          obtain ⟨n0, p0, r0, rfl, _⟩ := (latRd_iff _ _ _).1 hr0
          obtain ⟨n1, p1, r1, rfl, _⟩ := (latRd_iff _ _ _).1 hr1
          simp only [Nat.zero_mul, Nat.add_zero, Nat.one_mul] at hc0 hc1
          obtain ⟨f0, f1, f2, f3, f4, f5⟩ := hc0.six_alloc
          skip
          have HC : Hid (chainB (.mk 7 lo hi' ns [p, q] rs) = (chainB p && chainB q)) := hid (by rw [chainB_eq]; simp [Lat.kind, Lat.parts])
          have hsp : SizeOf.sizeOf p ≤ n := by have := sizeOf_part (l := .mk 7 lo hi' ns [p, q] rs) (p := p) (by simp [Lat.parts]); omega
          have hsq : SizeOf.sizeOf q ≤ n := by have := sizeOf_part (l := .mk 7 lo hi' ns [p, q] rs) (p := q) (by simp [Lat.parts]); omega
          have hb0 : ∀ {O}, Below w.heap.size w (w.alloc O) := fun {O} => (Below.refl _ _).alloc (Nat.le_refl _) O
          clear hb hl h1 h2
          go_enter Tryz.func148, Tryz.ntmps148
          go_wp2_with fail
          refine (ih p [.int .i64 p.kind, .int .i64 p.lo, .int .i64 p.hi, n0, p0, r0] _ hsp (latRd.below ((Below.refl _ _).alloc (Nat.le_refl _) _) _ _ hr0)).mono ?_
          rintro e w1 ⟨rfl, hb1⟩
          cases hcp' : chainB p
          · have HC2 : Hid (chainB (.mk 7 lo hi' ns [p, q] rs) = false) := hid (by rw [HC.out, hcp']; rfl)
            have HB1 := hid (hb0.trans (hb1.mono (by simp)))
            clear hb1
            go_wp2_with fail
            go_ret
            exact ⟨ret_bool HC2.out.symm, HB1.out⟩
          · have HC2 : Hid (chainB (.mk 7 lo hi' ns [p, q] rs) = chainB q) := hid (by rw [HC.out, hcp']; rfl)
            have HB1 := hid (hb0.trans (hb1.mono (by simp)))
            obtain ⟨g0, g1, g2, g3, g4, g5⟩ := (hc1.below HB1.out).six
            have hbox : w1.cell? ⟨w.heap.size, 4, none⟩ = some (.slice (some ⟨b, o, none⟩) 2 cp) := (hb1.cell (by simp)).trans (by rw [World.cell?_alloc_at _ _ _ _ rfl]; rfl)
            clear hb1
            go_wp2_with fail
            refine (ih q [.int .i64 q.kind, .int .i64 q.lo, .int .i64 q.hi, n1, p1, r1] _ hsq (latRd.below HB1.out _ _ hr1)).mono ?_
            rintro e w2 ⟨rfl, hb2⟩
            have HB2 := hid (HB1.out.trans (hb2.mono HB1.out.size))
            clear hb2
            go_wp2_with fail
            go_ret
            exact ⟨ret_bool HC2.out.symm, HB2.out⟩
        · have HC : Hid (chainB (.mk 7 lo hi' ns ps rs) = false) := hid (by rw [chainB_eq]; simp [Lat.kind, Lat.parts, h2])
          have e2 : ((ps.length : Int) == 2) = false := by simp; omega
          clear h2
          go_enter Tryz.func148, Tryz.ntmps148
          go_wp2
          go_ret
          exact ⟨ret_bool HC.out.symm, hb⟩
      · have HC : Hid (chainB (.mk k lo hi' ns ps rs) = false) := hid (by rw [chainB_eq]; simp only [Lat.kind, h1, h7, decide_false, Bool.false_or, Bool.false_and])
        have e1 : (k == 1) = false := by simp; omega
        have e2 : (k == 2) = false := by simp; omega
        have e3 : (k == 3) = false := by simp; omega
        have e7 : (k == 7) = false := by simp; omega
        clear h1 h7
        go_enter Tryz.func148, Tryz.ntmps148
        go_wp2
        all_goals (go_ret; exact ⟨ret_bool HC.out.symm, hb⟩)

/-! shape -/
theorem kindI_ranged {k : Int} {n : Nat} (h2 : k ≠ 2) (h3 : k ≠ 3) : kindI k n = none ∨ ∃ p a b, kindI k n = some (p, a, b, false) := by
  unfold kindI
  repeat' split
  all_goals first | exact .inl rfl | exact .inr ⟨_, _, _, rfl⟩ | omega
theorem kindI_ruled {k : Int} {n : Nat} (h10 : k ≠ 10) : kindI k n = none ∨ ∃ p a b, kindI k n = some (p, a, false, b) := by
  unfold kindI
  repeat' split
  all_goals first | exact .inl rfl | exact .inr ⟨_, _, _, rfl⟩ | omega
theorem shapeC_ranged {k lo hi : Int} {nn np nr : Nat} (h2 : k ≠ 2) (h3 : k ≠ 3) (h : lo ≠ 0 ∨ hi ≠ 0) : shapeC k lo hi nn np nr = true := by
  unfold shapeC
  rcases kindI_ranged (n := nn) h2 h3 with e | ⟨p, a, b, e⟩
  · rw [e]
  · rw [e]; simp [h]
theorem shapeC_ruled {k lo hi : Int} {nn np nr : Nat} (h10 : k ≠ 10) (h : nr ≠ 0) : shapeC k lo hi nn np nr = true := by
  unfold shapeC
  rcases kindI_ruled (n := nn) h10 with e | ⟨p, a, b, e⟩
  · rw [e]
  · rw [e]; simp [show 0 < nr by omega]
theorem shapeC_none {k lo hi : Int} {nn np nr : Nat} (h : ¬ (1 ≤ k ∧ k ≤ 10)) : shapeC k lo hi nn np nr = true := by
  have hk : kindI k nn = none := by unfold kindI; rw [if_neg (by omega), if_neg (by omega), if_neg (by omega), if_neg (by omega), if_neg (by omega), if_neg (by omega), if_neg (by omega)]
  unfold shapeC
  rw [hk]

set_option maxHeartbeats 4000000 in
theorem rShape_any (l : Lat) (cs : List Value) (w : World) (hl : latRd w l cs) :
    Calls Tryz.prog 146 #[.agg cs.toArray] w fun e w' => e = .returned (.bool (!shapeB l)) ∧ Below w.heap.size w w' := by
  obtain ⟨vn, vp, vr, rfl, hi, hns, hps, hrs⟩ := (latRd_iff _ _ _).1 hl
  obtain ⟨k, lo, hi', ns, ps, rs⟩ := l
  simp only [Lat.kind, Lat.lo, Lat.hi, Lat.names, Lat.parts, Lat.rules] at hi hns hps hrs ⊢
  obtain ⟨an, cn, rfl, _, hmn⟩ := hns.shape
  obtain ⟨ap, cp, rfl, _, hmp⟩ := hps.shape
  obtain ⟨ar, cr, rfl, _, hmr⟩ := hrs.shape
  rw [show shapeB (.mk k lo hi' ns ps rs) = shapeC k lo hi' ns.length ps.length rs.length from rfl]
  generalize ns.length = nn at hmn ⊢
  generalize ps.length = np at hmp ⊢
  generalize rs.length = nr at hmr ⊢
  clear hi hns hps hrs hl
  have HB : Hid (Below w.heap.size w (w.alloc (.cells #[.int .i64 k, .int .i64 lo, .int .i64 hi', .slice an nn cn, .slice ap np cp, .slice ar nr cr] 26))) := hid ((Below.refl _ _).alloc (Nat.le_refl _) _)
  by_cases h23 : k = 2 ∨ k = 3
  · by_cases hr : nr = 0
    · subst hr
      rcases h23 with rfl | rfl
      · skip
        by_cases hn0 : nn = 0
        · by_cases hp0 : np = 0
          · subst hn0; subst hp0
            have HC : Hid (shapeC 2 lo hi' 0 0 0 = false) := hid (by unfold shapeC kindI; simp <;> omega)
            go_enter Tryz.func146, Tryz.ntmps146
            go_wp2
            all_goals first
              | (exfalso; omega)
              | (go_ret; exact ⟨ret_bool (by rw [HC.out]; rfl), HB.out⟩)
          · subst hn0
            have HC : Hid (shapeC 2 lo hi' 0 np 0 = true) := hid (by unfold shapeC kindI; simp <;> omega)
            have q1 : ((np : Int) == 0) = false := by rw [beq_eq_false_iff_ne]; omega
            clear hp0
            go_enter Tryz.func146, Tryz.ntmps146
            go_wp2
            all_goals first
              | (exfalso; omega)
              | (go_ret; exact ⟨ret_bool (by rw [HC.out]; rfl), HB.out⟩)
        · have HC : Hid (shapeC 2 lo hi' nn np 0 = true) := hid (by unfold shapeC kindI; simp <;> omega)
          have q1 : ((nn : Int) == 0) = false := by rw [beq_eq_false_iff_ne]; omega
          clear hn0
          go_enter Tryz.func146, Tryz.ntmps146
          go_wp2
          all_goals first
            | (exfalso; omega)
            | (go_ret; exact ⟨ret_bool (by rw [HC.out]; rfl), HB.out⟩)
      · skip
        by_cases hn0 : nn = 0
        · by_cases hp0 : np = 0
          · subst hn0; subst hp0
            have HC : Hid (shapeC 3 lo hi' 0 0 0 = false) := hid (by unfold shapeC kindI; simp <;> omega)
            go_enter Tryz.func146, Tryz.ntmps146
            go_wp2
            all_goals first
              | (exfalso; omega)
              | (go_ret; exact ⟨ret_bool (by rw [HC.out]; rfl), HB.out⟩)
          · subst hn0
            have HC : Hid (shapeC 3 lo hi' 0 np 0 = true) := hid (by unfold shapeC kindI; simp <;> omega)
            have q1 : ((np : Int) == 0) = false := by rw [beq_eq_false_iff_ne]; omega
            clear hp0
            go_enter Tryz.func146, Tryz.ntmps146
            go_wp2
            all_goals first
              | (exfalso; omega)
              | (go_ret; exact ⟨ret_bool (by rw [HC.out]; rfl), HB.out⟩)
        · have HC : Hid (shapeC 3 lo hi' nn np 0 = true) := hid (by unfold shapeC kindI; simp <;> omega)
          have q1 : ((nn : Int) == 0) = false := by rw [beq_eq_false_iff_ne]; omega
          clear hn0
          go_enter Tryz.func146, Tryz.ntmps146
          go_wp2
          all_goals first
            | (exfalso; omega)
            | (go_ret; exact ⟨ret_bool (by rw [HC.out]; rfl), HB.out⟩)
    · rcases h23 with rfl | rfl
      · have HC : Hid (shapeC 2 lo hi' nn np nr = true) := hid (by unfold shapeC kindI; simp <;> omega)
        have q0 : ((nr : Int) != 0) = true := by rw [bne_iff_ne]; omega
        clear hr
        go_enter Tryz.func146, Tryz.ntmps146
        go_wp2
        all_goals first
          | (exfalso; omega)
          | (go_ret; exact ⟨ret_bool (by rw [HC.out]; rfl), HB.out⟩)
      · have HC : Hid (shapeC 3 lo hi' nn np nr = true) := hid (by unfold shapeC kindI; simp <;> omega)
        have q0 : ((nr : Int) != 0) = true := by rw [bne_iff_ne]; omega
        clear hr
        go_enter Tryz.func146, Tryz.ntmps146
        go_wp2
        all_goals first
          | (exfalso; omega)
          | (go_ret; exact ⟨ret_bool (by rw [HC.out]; rfl), HB.out⟩)
  have hk2 : (k == 2) = false := by rw [beq_eq_false_iff_ne]; omega
  have hk3 : (k == 3) = false := by rw [beq_eq_false_iff_ne]; omega
  by_cases hlo : lo = 0
  · subst hlo
    by_cases hhi : hi' = 0
    · subst hhi
      by_cases h10 : k = 10
      · subst h10
        clear hk2 hk3 h23
        by_cases hn0 : nn = 0
        · subst hn0
          have HC : Hid (shapeC 10 0 0 0 np nr = true) := hid (by unfold shapeC kindI; simp <;> omega)
          go_enter Tryz.func146, Tryz.ntmps146
          go_wp2
          all_goals first
            | (exfalso; omega)
            | (go_ret; exact ⟨ret_bool (by rw [HC.out]; rfl), HB.out⟩)
        · have q1 : (0 : Int) < (nn : Int) := by omega
          by_cases hp0 : np = 0
          · subst hp0
            have HC : Hid (shapeC 10 0 0 nn 0 nr = false) := hid (by unfold shapeC kindI; simp <;> omega)
            clear hn0
            go_enter Tryz.func146, Tryz.ntmps146
            go_wp2
            all_goals first
              | (exfalso; omega)
              | (go_ret; exact ⟨ret_bool (by rw [HC.out]; rfl), HB.out⟩)
          · have HC : Hid (shapeC 10 0 0 nn np nr = true) := hid (by unfold shapeC kindI; simp <;> omega)
            have q2 : ((np : Int) == 0) = false := by rw [beq_eq_false_iff_ne]; omega
            clear hn0 hp0
            go_enter Tryz.func146, Tryz.ntmps146
            go_wp2
            all_goals first
              | (exfalso; omega)
              | (go_ret; exact ⟨ret_bool (by rw [HC.out]; rfl), HB.out⟩)
      · have hk10 : (k != 10) = true := by rw [bne_iff_ne]; exact h10
        by_cases hr : nr = 0
        · subst hr
          clear hk10
          by_cases hk : k = 1 ∨ k = 4 ∨ k = 5 ∨ k = 6 ∨ k = 7 ∨ k = 8 ∨ k = 9
          · clear hk2 hk3 h23 h10
            rcases hk with rfl | rfl | rfl | rfl | rfl | rfl | rfl
            · skip
              by_cases hn0 : nn = 0
              · by_cases hp0 : np = 0
                · subst hn0; subst hp0
                  have HC : Hid (shapeC 1 0 0 0 0 0 = false) := hid (by unfold shapeC kindI; simp <;> omega)
                  go_enter Tryz.func146, Tryz.ntmps146
                  go_wp2
                  all_goals first
                    | (exfalso; omega)
                    | (go_ret; exact ⟨ret_bool (by rw [HC.out]; rfl), HB.out⟩)
                · subst hn0
                  have HC : Hid (shapeC 1 0 0 0 np 0 = true) := hid (by unfold shapeC kindI; simp <;> omega)
                  have q1 : ((np : Int) == 0) = false := by rw [beq_eq_false_iff_ne]; omega
                  clear hp0
                  go_enter Tryz.func146, Tryz.ntmps146
                  go_wp2
                  all_goals first
                    | (exfalso; omega)
                    | (go_ret; exact ⟨ret_bool (by rw [HC.out]; rfl), HB.out⟩)
              · have HC : Hid (shapeC 1 0 0 nn np 0 = true) := hid (by unfold shapeC kindI; simp <;> omega)
                have q1 : ((nn : Int) == 0) = false := by rw [beq_eq_false_iff_ne]; omega
                clear hn0
                go_enter Tryz.func146, Tryz.ntmps146
                go_wp2
                all_goals first
                  | (exfalso; omega)
                  | (go_ret; exact ⟨ret_bool (by rw [HC.out]; rfl), HB.out⟩)
            · skip
              by_cases hp0 : np = 0
              · subst hp0
                have HC : Hid (shapeC 4 0 0 nn 0 0 = false) := hid (by unfold shapeC kindI; simp <;> omega)
                go_enter Tryz.func146, Tryz.ntmps146
                go_wp2
                all_goals first
                  | (exfalso; omega)
                  | (go_ret; exact ⟨ret_bool (by rw [HC.out]; rfl), HB.out⟩)
              · have HC : Hid (shapeC 4 0 0 nn np 0 = true) := hid (by unfold shapeC kindI; simp <;> omega)
                have q1 : ((np : Int) == 0) = false := by rw [beq_eq_false_iff_ne]; omega
                clear hp0
                go_enter Tryz.func146, Tryz.ntmps146
                go_wp2
                all_goals first
                  | (exfalso; omega)
                  | (go_ret; exact ⟨ret_bool (by rw [HC.out]; rfl), HB.out⟩)
            · skip
              by_cases hp0 : np = 1
              · subst hp0
                have HC : Hid (shapeC 5 0 0 nn 1 0 = false) := hid (by unfold shapeC kindI; simp <;> omega)
                go_enter Tryz.func146, Tryz.ntmps146
                go_wp2
                all_goals first
                  | (exfalso; omega)
                  | (go_ret; exact ⟨ret_bool (by rw [HC.out]; rfl), HB.out⟩)
              · have HC : Hid (shapeC 5 0 0 nn np 0 = true) := hid (by unfold shapeC kindI; simp <;> omega)
                have q1 : ((np : Int) == 1) = false := by rw [beq_eq_false_iff_ne]; omega
                clear hp0
                go_enter Tryz.func146, Tryz.ntmps146
                go_wp2
                all_goals first
                  | (exfalso; omega)
                  | (go_ret; exact ⟨ret_bool (by rw [HC.out]; rfl), HB.out⟩)
            · skip
              by_cases hn0 : nn = 0
              · subst hn0
                have HC : Hid (shapeC 6 0 0 0 np 0 = true) := hid (by unfold shapeC kindI; simp <;> omega)
                go_enter Tryz.func146, Tryz.ntmps146
                go_wp2
                all_goals first
                  | (exfalso; omega)
                  | (go_ret; exact ⟨ret_bool (by rw [HC.out]; rfl), HB.out⟩)
              · have q1 : (0 : Int) < (nn : Int) := by omega
                by_cases hp0 : nn = np
                · subst hp0
                  have HC : Hid (shapeC 6 0 0 nn nn 0 = false) := hid (by unfold shapeC kindI; simp <;> omega)
                  clear hn0
                  go_enter Tryz.func146, Tryz.ntmps146
                  go_wp2
                  all_goals first
                    | (exfalso; omega)
                    | (go_ret; exact ⟨ret_bool (by rw [HC.out]; rfl), HB.out⟩)
                · have HC : Hid (shapeC 6 0 0 nn np 0 = true) := hid (by unfold shapeC kindI; simp <;> omega)
                  have q2 : ((nn : Int) == (np : Int)) = false := by rw [beq_eq_false_iff_ne]; omega
                  clear hn0 hp0
                  go_enter Tryz.func146, Tryz.ntmps146
                  go_wp2
                  all_goals first
                    | (exfalso; omega)
                    | (go_ret; exact ⟨ret_bool (by rw [HC.out]; rfl), HB.out⟩)
            · skip
              by_cases hn0 : nn = 0
              · by_cases hp0 : np = 2
                · subst hn0; subst hp0
                  have HC : Hid (shapeC 7 0 0 0 2 0 = false) := hid (by unfold shapeC kindI; simp <;> omega)
                  go_enter Tryz.func146, Tryz.ntmps146
                  go_wp2
                  all_goals first
                    | (exfalso; omega)
                    | (go_ret; exact ⟨ret_bool (by rw [HC.out]; rfl), HB.out⟩)
                · subst hn0
                  have HC : Hid (shapeC 7 0 0 0 np 0 = true) := hid (by unfold shapeC kindI; simp <;> omega)
                  have q1 : ((np : Int) == 2) = false := by rw [beq_eq_false_iff_ne]; omega
                  clear hp0
                  go_enter Tryz.func146, Tryz.ntmps146
                  go_wp2
                  all_goals first
                    | (exfalso; omega)
                    | (go_ret; exact ⟨ret_bool (by rw [HC.out]; rfl), HB.out⟩)
              · have HC : Hid (shapeC 7 0 0 nn np 0 = true) := hid (by unfold shapeC kindI; simp <;> omega)
                have q1 : ((nn : Int) == 0) = false := by rw [beq_eq_false_iff_ne]; omega
                clear hn0
                go_enter Tryz.func146, Tryz.ntmps146
                go_wp2
                all_goals first
                  | (exfalso; omega)
                  | (go_ret; exact ⟨ret_bool (by rw [HC.out]; rfl), HB.out⟩)
            · skip
              by_cases hp0 : np = 0
              · subst hp0
                have HC : Hid (shapeC 8 0 0 nn 0 0 = false) := hid (by unfold shapeC kindI; simp <;> omega)
                go_enter Tryz.func146, Tryz.ntmps146
                go_wp2
                all_goals first
                  | (exfalso; omega)
                  | (go_ret; exact ⟨ret_bool (by rw [HC.out]; rfl), HB.out⟩)
              · have HC : Hid (shapeC 8 0 0 nn np 0 = true) := hid (by unfold shapeC kindI; simp <;> omega)
                have q1 : ((np : Int) == 0) = false := by rw [beq_eq_false_iff_ne]; omega
                clear hp0
                go_enter Tryz.func146, Tryz.ntmps146
                go_wp2
                all_goals first
                  | (exfalso; omega)
                  | (go_ret; exact ⟨ret_bool (by rw [HC.out]; rfl), HB.out⟩)
            · skip
              by_cases hn0 : nn = 0
              · by_cases hp0 : np = 0
                · subst hn0; subst hp0
                  have HC : Hid (shapeC 9 0 0 0 0 0 = false) := hid (by unfold shapeC kindI; simp <;> omega)
                  go_enter Tryz.func146, Tryz.ntmps146
                  go_wp2
                  all_goals first
                    | (exfalso; omega)
                    | (go_ret; exact ⟨ret_bool (by rw [HC.out]; rfl), HB.out⟩)
                · subst hn0
                  have HC : Hid (shapeC 9 0 0 0 np 0 = true) := hid (by unfold shapeC kindI; simp <;> omega)
                  have q1 : ((np : Int) == 0) = false := by rw [beq_eq_false_iff_ne]; omega
                  clear hp0
                  go_enter Tryz.func146, Tryz.ntmps146
                  go_wp2
                  all_goals first
                    | (exfalso; omega)
                    | (go_ret; exact ⟨ret_bool (by rw [HC.out]; rfl), HB.out⟩)
              · have HC : Hid (shapeC 9 0 0 nn np 0 = true) := hid (by unfold shapeC kindI; simp <;> omega)
                have q1 : ((nn : Int) == 0) = false := by rw [beq_eq_false_iff_ne]; omega
                clear hn0
                go_enter Tryz.func146, Tryz.ntmps146
                go_wp2
                all_goals first
                  | (exfalso; omega)
                  | (go_ret; exact ⟨ret_bool (by rw [HC.out]; rfl), HB.out⟩)
          · have HC : Hid (shapeC k 0 0 nn np 0 = true) := hid (shapeC_none (by omega))
            have e1 : ((k : Int) == 1) = false := by rw [beq_eq_false_iff_ne]; omega
            have e4 : ((k : Int) == 4) = false := by rw [beq_eq_false_iff_ne]; omega
            have e5 : ((k : Int) == 5) = false := by rw [beq_eq_false_iff_ne]; omega
            have e6 : ((k : Int) == 6) = false := by rw [beq_eq_false_iff_ne]; omega
            have e7 : ((k : Int) == 7) = false := by rw [beq_eq_false_iff_ne]; omega
            have e8 : ((k : Int) == 8) = false := by rw [beq_eq_false_iff_ne]; omega
            have e9 : ((k : Int) == 9) = false := by rw [beq_eq_false_iff_ne]; omega
            have e10 : ((k : Int) == 10) = false := by rw [beq_eq_false_iff_ne]; omega
            have e10n : ((k : Int) != 10) = true := by rw [bne_iff_ne]; omega
            clear hk h10 h23
            go_enter Tryz.func146, Tryz.ntmps146
            go_wp2
            all_goals first
              | (exfalso; omega)
              | (go_ret; exact ⟨ret_bool (by rw [HC.out]; rfl), HB.out⟩)
        · have HC : Hid (shapeC k 0 0 nn np nr = true) := hid (shapeC_ruled h10 hr)
          have q0 : ((nr : Int) != 0) = true := by rw [bne_iff_ne]; omega
          clear hr h10 h23
          go_enter Tryz.func146, Tryz.ntmps146
          go_wp2
          all_goals first
            | (exfalso; omega)
            | (go_ret; exact ⟨ret_bool (by rw [HC.out]; rfl), HB.out⟩)
    · have HC : Hid (shapeC k 0 hi' nn np nr = true) := hid (shapeC_ranged (by omega) (by omega) (.inr hhi))
      have q0 : ((hi' : Int) != 0) = true := by rw [bne_iff_ne]; omega
      clear hhi h23
      go_enter Tryz.func146, Tryz.ntmps146
      go_wp2
      all_goals first
        | (exfalso; omega)
        | (go_ret; exact ⟨ret_bool (by rw [HC.out]; rfl), HB.out⟩)
  · have HC : Hid (shapeC k lo hi' nn np nr = true) := hid (shapeC_ranged (by omega) (by omega) (.inl hlo))
    have q0 : ((lo : Int) != 0) = true := by rw [bne_iff_ne]; omega
    clear hlo h23
    go_enter Tryz.func146, Tryz.ntmps146
    go_wp2
    all_goals first
      | (exfalso; omega)
      | (go_ret; exact ⟨ret_bool (by rw [HC.out]; rfl), HB.out⟩)
end Go.Proofs.YtmdjnaobllajmaaGreatDoor

/- The walk of the reference's named. -/
namespace Go.Proofs.YtmdjnaobllajmaaGreatDoor
open Go.RowKit

def ruleR (ns : List ByteArray) (r : Rl) : Bool := decide (r.cond.length ≠ 0) && (risingB r.cond && (hasS ns r.concl && r.cond.all (hasS ns)))
def namedR (k : Int) (ns : List ByteArray) (rs : List Rl) : Bool := if k = 6 then nmGo true ns 0 ns else risingB ns && rs.all (ruleR ns)

theorem wp_region_extx {P : Program} {id : Nat} {Q : Exit → Act → World → Prop} {a : Act} {W : World} {l : List Oper} (x : Ext W) (hm : P.follows .mixedOrders = true) (hB : Region.lexB .any l.toArray = true)
    (h : wpQuiet P l.toArray (fun w' => ∃ y : Ext W, w' = y.1) (fun a' => ∀ w', (∃ y : Ext W, w' = y.1) → Q .normal a' w') l a) : (Code.region id l.toArray true).wp P Q a x.1 :=
  wp_region_quiet (C := fun w' => ∃ y : Ext W, w' = y.1) hm hB ⟨⟨_, x.2.drew⟩, rfl⟩ (by simpa using h)
theorem run_slice_toS (W : World) (a : Option Addr) (len cap k : Nat) (hk : k ≤ cap) : (Instr.slice 22 (.slice a len cap) none (some (.int .i64 (k : Int))) none).run Tryz.prog W = .ok (.slice a k cap) W := by
  have ht' : Tryz.prog.underlying 22 = some (.slice (Tryz.prog.elem 22)) := by simp [Program.elem, Tryz.underlying22]
  have he : Tryz.prog.elem 22 = 9 := by simp [Program.elem, Tryz.underlying22]
  have hz : (Go.sizeOf 9).run Tryz.prog W = .ok 1 W := by kernel_rfl
  rw [run_slice_h W 22 a _ _ ht' .i64 _ (by omega) (by omega), he, hz]
  cases a <;> simp [Result.andThen, sliced, Addr.add]
theorem ruleEl {w : World} {a : Option Addr} {n cap : Nat} {l : List Rl} (h : SlRd w 2 (ruleRd w) (.slice a n cap) l) (i : Nat) (hi : i < l.length) :
    ∃ r b o ea ec, l[i]? = some r ∧ r ∈ l ∧ l.drop i = r :: l.drop (i + 1) ∧ l.take (i + 1) = l.take i ++ [r] ∧ a = some ⟨b, o, none⟩ ∧ Strs w (.slice ea r.cond.length ec) r.cond ∧ r.concl.size ≤ maxLen ∧ CellsAt w b (o + i * 2) [.slice ea r.cond.length ec, .string r.concl] := by
  obtain ⟨b, o, cs, h1, _, hc, v, rfl, hk, hn⟩ := h.at i hi
  obtain ⟨ea, ec, rfl, _, _⟩ := hk.shape
  exact ⟨l[i], b, o, ea, ec, List.getElem?_eq_getElem hi, List.getElem_mem hi, drop_at l i hi, take_at l i hi, h1, hk, hn, hc⟩
theorem rules_step (ns : List ByteArray) (rs : List Rl) (k : Nat) (h : k < rs.length) : (rs.drop k).all (ruleR ns) = (ruleR ns rs[k] && (rs.drop (k + 1)).all (ruleR ns)) := by
  rw [drop_consS rs k h, List.all_cons]
theorem conds_step (ns : List ByteArray) (cs : List ByteArray) (k : Nat) (h : k < cs.length) : (cs.drop k).all (hasS ns) = (hasS ns cs[k] && (cs.drop (k + 1)).all (hasS ns)) := by
  rw [drop_consS cs k h, List.all_cons]

set_option maxRecDepth 100000 in
set_option maxHeartbeats 4000000 in
theorem rNamed_any (l : Lat) (cs : List Value) (w : World) (hl : latRd w l cs) :
    Calls Tryz.prog 147 #[.agg cs.toArray] w fun e w' => e = .returned (.bool (namedR l.kind l.names l.rules)) ∧ Below w.heap.size w w' := by
  obtain ⟨vn, vp, vr, rfl, hi, hns, hps, hrs⟩ := (latRd_iff _ _ _).1 hl
  obtain ⟨k, lo, hi', ns, ps, rs⟩ := l
  simp only [Lat.kind, Lat.lo, Lat.hi, Lat.names, Lat.parts, Lat.rules] at hi hns hps hrs ⊢
  obtain ⟨an, cn, rfl, hln, hmn⟩ := hns.shape
  obtain ⟨ap, cp, rfl, _, _⟩ := hps.shape
  obtain ⟨ar, cr, rfl, hlr, hmr⟩ := hrs.shape
  have HN := hid hns
  have HR := hid hrs
  have HLN := hid hln
  have HS : Hid (namedR k ns rs = if k = 6 then nmGo true ns 0 ns else risingB ns && rs.all (ruleR ns)) := hid rfl
  generalize namedR k ns rs = R at HS ⊢
  have HB : Hid (∀ x : Ext (w.alloc (.cells #[.int .i64 k, .int .i64 lo, .int .i64 hi', .slice an ns.length cn, .slice ap ps.length cp, .slice ar rs.length cr] 26)), Below w.heap.size w x.1) := hid fun x => ((Below.refl _ _).alloc (Nat.le_refl _) _).trans (x.2.mono (by simp))
  have HX : Hid (∀ (x : Ext (w.alloc (.cells #[.int .i64 k, .int .i64 lo, .int .i64 hi', .slice an ns.length cn, .slice ap ps.length cp, .slice ar rs.length cr] 26))) (i : Nat) q, #[Value.int .i64 k, .int .i64 lo, .int .i64 hi', .slice an ns.length cn, .slice ap ps.length cp, .slice ar rs.length cr][i]? = some q → x.1.cell? ⟨w.heap.size, i, none⟩ = some q) := hid fun x i q hq => x.cell (by rw [World.cell?_alloc_at _ _ _ _ rfl]; exact hq)
  clear hl hi hns hps hrs hln hlr
  by_cases hk6 : k = 6
  · have HS1 : Hid (R = nmGo true ns 0 (ns.drop 0)) := hid (by rw [HS.out, if_pos hk6]; rfl)
    subst hk6
    clear HS HR
    go_enter Tryz.func147, Tryz.ntmps147
    go_wp2_with fail
    generalize w.alloc (.cells #[.int .i64 6, .int .i64 lo, .int .i64 hi', .slice an ns.length cn, .slice ap ps.length cp, .slice ar rs.length cr] 26) = W1 at HB HX ⊢
    obtain ⟨x0, hx⟩ := ext_self W1
    rw [hx]
    clear hx
    have l3 : ∀ x : Ext W1, x.1.cell? ⟨w.heap.size, 3, none⟩ = some (.slice an ns.length cn) := fun x => HX.out x 3 _ rfl
    go_loopw [3] (fun i wr => ∃ (j : Nat) (x : Ext W1), j ≤ ns.length ∧ i = .int .i64 j ∧ wr = x.1 ∧ Hid (R = nmGo true ns j (ns.drop j))) (fun i _ => ns.length - (intOf i).toNat)
    case atStart => exact ⟨0, x0, Nat.zero_le _, rfl, rfl, HS1⟩
    case round =>
      obtain ⟨j, x, hj, rfl, rfl, He⟩ := hrel
      by_cases hlt : j < ns.length
      · obtain ⟨nm, b, o, _, _, hnd, _, rfl, hcell, hsz⟩ := strEl HN.out j hlt
        have HSZ := hid hsz
        have HCL := hid hcell
        have hc0 : ∀ y : Ext W1, y.1.cell? ⟨b, o + j, none⟩ = some (.string nm) := fun y => ((HB.out y).cell (World.block_lt_of_cell? w _ HCL.out)).trans HCL.out
        have HD : Hid (R = (nameB nm && !(hasS (ns.take j) nm) && nmGo true ns (j + 1) (ns.drop (j + 1)))) := hid (by rw [He.out, hnd, nmGo, Bool.true_and])
        have hsl := fun W => run_slice_toS W (some ⟨b, o, none⟩) ns.length cn j (by have := HLN.out; omega)
        have HNM : Hid (∀ y : Ext W1, Calls Tryz.prog 166 #[.string nm] y.1 fun e w' => e = .returned (.bool (nameB nm)) ∧ ∃ z : Ext W1, w' = z.1) := hid fun y => ext_same y (rName_any _ _ HSZ.out)
        have HIN : Hid (∀ y : Ext W1, Calls Tryz.prog 167 #[.slice (some ⟨b, o, none⟩) j cn, .string nm] y.1 fun e w' => e = .returned (.bool (hasS (ns.take j) nm)) ∧ ∃ z : Ext W1, w' = z.1) := hid fun y => ext_same y (rIn_any _ _ _ _ ((HN.out.below (HB.out y)).take j hj))
        have HJ : Hid (j + 1 ≤ ns.length) := hid hlt
        have hi1 : (j : Int) < (ns.length : Int) := by omega
        clear He hcell hsz hnd
        cases hc : nameB nm
        · have HC := hid hc
          rw [hc] at HNM
          clear hc
          go_wp2_with fail
          refine wp_region_extx _ (by kernel_rfl) (by kernel_rfl) ?_
          repeat (go_big_quiet_step (with_reducible first | exact HNM.out _ | exact HIN.out _))
          refine wpQuiet_nil ?_
          rintro _ ⟨z, rfl⟩
          go_wp2_with fail
          go_ret
          exact ⟨ret_bool (by rw [HD.out, HC.out]; rfl), HB.out _⟩
        · have HC := hid hc
          rw [hc] at HNM
          clear hc
          cases hs : hasS (ns.take j) nm
          · have HS := hid hs
            rw [hs] at HIN
            clear hs
            go_wp2_with fail
            refine wp_region_extx _ (by kernel_rfl) (by kernel_rfl) ?_
            repeat (go_big_quiet_step (with_reducible first | exact HNM.out _ | exact HIN.out _))
            refine wpQuiet_nil ?_
            rintro _ ⟨z, rfl⟩
            go_wp2_with fail
            go_roundw
            case rel => exact ⟨j + 1, z, HJ.out, by go_num, rfl, hid (by rw [HD.out, HC.out, HS.out]; rfl)⟩
            case measure => have := HJ.out; simp [intOf]; omega
          · have HS := hid hs
            rw [hs] at HIN
            clear hs
            go_wp2_with fail
            refine wp_region_extx _ (by kernel_rfl) (by kernel_rfl) ?_
            repeat (go_big_quiet_step (with_reducible first | exact HNM.out _ | exact HIN.out _))
            refine wpQuiet_nil ?_
            rintro _ ⟨z, rfl⟩
            go_wp2_with fail
            go_ret
            exact ⟨ret_bool (by rw [HD.out, HC.out, HS.out]; rfl), HB.out _⟩
      · have hjj : j = ns.length := by omega
        subst hjj
        have HF : Hid (R = true) := hid (by rw [He.out, List.drop_eq_nil_of_le (Nat.le_refl _)]; rfl)
        clear hlt hj
        go_wp2_with fail
        go_ret
        exact ⟨ret_bool HF.out.symm, HB.out _⟩
  · have HS1 : Hid (R = (risingB ns && (rs.drop 0).all (ruleR ns))) := hid (by rw [HS.out, if_neg hk6]; rfl)
    have hkb : (k == 6) = false := by rw [beq_eq_false_iff_ne]; exact hk6
    clear HS hk6
    go_enter Tryz.func147, Tryz.ntmps147
    go_wp2_with fail
    generalize w.alloc (.cells #[.int .i64 k, .int .i64 lo, .int .i64 hi', .slice an ns.length cn, .slice ap ps.length cp, .slice ar rs.length cr] 26) = W1 at HB HX ⊢
    obtain ⟨x0, hx⟩ := ext_self W1
    rw [hx]
    clear hx hkb
    have l3 : ∀ x : Ext W1, x.1.cell? ⟨w.heap.size, 3, none⟩ = some (.slice an ns.length cn) := fun x => HX.out x 3 _ rfl
    have l5 : ∀ x : Ext W1, x.1.cell? ⟨w.heap.size, 5, none⟩ = some (.slice ar rs.length cr) := fun x => HX.out x 5 _ rfl
    go_wp2_with fail
    refine (ext_call x0 ((rRising_any _ ns x0.1 (HN.out.below (HB.out _))).mono fun e w' h => ⟨h.1, by obtain ⟨n, rfl⟩ := h.2; exact below_drewN' (Below.refl _ _) n⟩)).mono ?_
    rintro e _ ⟨rfl, x1, rfl⟩
    clear x0
    cases hri : risingB ns
    · have HF : Hid (R = false) := hid (by rw [HS1.out, hri]; rfl)
      clear hri
      go_wp2_with fail
      go_ret
      exact ⟨ret_bool HF.out.symm, HB.out _⟩
    · have HS2 : Hid (R = (rs.drop 0).all (ruleR ns)) := hid (by rw [HS1.out, hri]; rfl)
      clear hri HS1
      go_wp2_with fail
      go_loopw [4] (fun i wr => ∃ (j : Nat) (x : Ext W1), j ≤ rs.length ∧ i = .int .i64 j ∧ wr = x.1 ∧ Hid (R = (rs.drop j).all (ruleR ns))) (fun i _ => rs.length - (intOf i).toNat)
      case atStart => exact ⟨0, x1, Nat.zero_le _, rfl, rfl, HS2⟩
      case round =>
        obtain ⟨j, x, hj, rfl, rfl, He⟩ := hrel
        by_cases hlt : j < rs.length
        · obtain ⟨r, b, o, ac, cc, _, _, hrd, _, rfl, hcd, hcl, hca⟩ := ruleEl HR.out j hlt
          obtain ⟨L, hL⟩ : ∃ L, L = r.cond.length := ⟨_, rfl⟩
          have HLL := hid hL
          have hLm : L ≤ 9223372036854775807 := by obtain ⟨_, _, _, _, h⟩ := hcd.shape; omega
          rw [← hL] at hcd hca
          clear hL
          have HCD := hid hcd
          have HCL := hid hcl
          have HCA := hid hca
          have hd0 : ∀ y : Ext W1, y.1.cell? ⟨b, o + j * 2, none⟩ = some (.slice ac L cc) := fun y => (HCA.out.below (HB.out y)) 0 (by simp)
          have hd1 : ∀ y : Ext W1, y.1.cell? ⟨b, o + j * 2 + 1, none⟩ = some (.string r.concl) := fun y => (HCA.out.below (HB.out y)) 1 (by simp)
          have HD : Hid (R = (ruleR ns r && (rs.drop (j + 1)).all (ruleR ns))) := hid (by rw [He.out, hrd, List.all_cons])
          have HJ : Hid (j + 1 ≤ rs.length) := hid hlt
          have hi1 : (j : Int) < (rs.length : Int) := by omega
          clear He hca hcd hcl hrd
          have HUP : Hid (∀ z : Ext (x.1.alloc (.cells #[.slice ac L cc, .string r.concl] 131)), ∃ y : Ext W1, z.1 = y.1) := hid fun z => ⟨⟨z.1, (x.2.alloc x.2.size _).trans (z.2.mono (by have := x.2.size; simp; omega))⟩, rfl⟩
          have HXC : Hid (∀ (z : Ext (x.1.alloc (.cells #[.slice ac L cc, .string r.concl] 131))) (i : Nat) q, #[Value.slice ac L cc, .string r.concl][i]? = some q → z.1.cell? ⟨x.1.heap.size, i, none⟩ = some q) := hid fun z i q hq => z.cell (by rw [World.cell?_alloc_at _ _ _ _ rfl]; exact hq)
          have HRU : Hid (ruleR ns r = (decide (r.cond.length ≠ 0) && (risingB r.cond && (hasS ns r.concl && (r.cond.drop 0).all (hasS ns))))) := hid rfl
          by_cases h0 : L = 0
          · have HF : Hid (R = false) := hid (by rw [HD.out, HRU.out, ← HLL.out, h0]; rfl)
            have hz0 : ((L : Int) == 0) = true := by rw [h0]; rfl
            clear h0
            have HBA : Hid (∀ O, Below w.heap.size w (x.1.alloc O)) := hid fun O => (HB.out x).alloc (HB.out x).size O
            clear HUP HXC
            go_wp2_with fail
            go_ret
            exact ⟨ret_bool HF.out.symm, HBA.out _⟩
          · have hz0 : ((L : Int) == 0) = false := by rw [beq_eq_false_iff_ne]; omega
            have H0 : Hid (decide (r.cond.length ≠ 0) = true) := hid (decide_eq_true (by rw [← HLL.out]; exact h0))
            clear h0
            go_wp2_with fail
            generalize x.1.alloc (.cells #[.slice ac L cc, .string r.concl] 131) = W2 at HUP HXC ⊢
            obtain ⟨z0, hz⟩ := ext_self W2
            rw [hz]
            clear hz hd0 hd1
            generalize x.1.heap.size = N2 at HXC ⊢
            have HBZ : Hid (∀ z : Ext W2, Below w.heap.size w z.1) := hid fun z => by obtain ⟨y, hy⟩ := HUP.out z; rw [hy]; exact HB.out y
            have m3 : ∀ z : Ext W2, z.1.cell? ⟨w.heap.size, 3, none⟩ = some (.slice an ns.length cn) := fun z => by obtain ⟨y, hy⟩ := HUP.out z; rw [hy]; exact HX.out y 3 _ rfl
            have k0 : ∀ z : Ext W2, z.1.cell? ⟨N2, 0, none⟩ = some (.slice ac L cc) := fun z => HXC.out z 0 _ rfl
            have k1 : ∀ z : Ext W2, z.1.cell? ⟨N2, 1, none⟩ = some (.string r.concl) := fun z => HXC.out z 1 _ rfl
            have HCR : Hid (∀ z : Ext W2, Calls Tryz.prog 168 #[.slice ac L cc] z.1 fun e w' => e = .returned (.bool (risingB r.cond)) ∧ ∃ y : Ext W2, w' = y.1) := hid fun z => ext_call z ((rRising_any _ _ z.1 (HCD.out.below (HBZ.out _))).mono fun e w' h => ⟨h.1, by obtain ⟨n, rfl⟩ := h.2; exact below_drewN' (Below.refl _ _) n⟩)
            have HCI : Hid (∀ z : Ext W2, Calls Tryz.prog 167 #[.slice an ns.length cn, .string r.concl] z.1 fun e w' => e = .returned (.bool (hasS ns r.concl)) ∧ ∃ y : Ext W2, w' = y.1) := hid fun z => ext_same z (rIn_any _ _ _ _ (HN.out.below (HBZ.out z)))
            clear l3 l5
            refine (HCR.out _).mono ?_
            rintro e _ ⟨rfl, z1, rfl⟩
            cases hri : risingB r.cond
            · have HF : Hid (R = false) := hid (by rw [HD.out, HRU.out, hri, Bool.false_and, Bool.and_false]; rfl)
              clear hri
              go_wp2_with fail
              go_ret
              exact ⟨ret_bool HF.out.symm, HBZ.out _⟩
            · have HRI := hid hri
              clear hri
              go_wp2_with fail
              refine (HCI.out _).mono ?_
              rintro e _ ⟨rfl, z2, rfl⟩
              cases hcc : hasS ns r.concl
              · have HF : Hid (R = false) := hid (by rw [HD.out, HRU.out, hcc, Bool.false_and, Bool.and_false, Bool.and_false]; rfl)
                clear hcc
                go_wp2_with fail
                go_ret
                exact ⟨ret_bool HF.out.symm, HBZ.out _⟩
              · have HRJ : Hid (R = ((r.cond.drop 0).all (hasS ns) && (rs.drop (j + 1)).all (ruleR ns))) := hid (by rw [HD.out, HRU.out, H0.out, HRI.out, hcc]; rfl)
                clear hcc hz0
                go_wp2_with fail
                go_loopw [6] (fun i wr => ∃ (m : Nat) (z : Ext W2), m ≤ L ∧ i = .int .i64 m ∧ wr = z.1 ∧ Hid (R = ((r.cond.drop m).all (hasS ns) && (rs.drop (j + 1)).all (ruleR ns)))) (fun i _ => L - (intOf i).toNat)
                case atStart => exact ⟨0, z2, Nat.zero_le _, rfl, rfl, HRJ⟩
                case round =>
                  obtain ⟨m, z, hm, rfl, rfl, Hm⟩ := hrel
                  by_cases hlm : m < L
                  · obtain ⟨cn2, b2, o2, _, _, hcd2, _, rfl, hcell, hsz⟩ := strEl HCD.out m (by rw [← HLL.out]; exact hlm)
                    have HCM := hid hcell
                    have hc0 : ∀ y : Ext W2, y.1.cell? ⟨b2, o2 + m, none⟩ = some (.string cn2) := fun y => ((HBZ.out y).cell (World.block_lt_of_cell? w _ HCM.out)).trans HCM.out
                    have HIM : Hid (∀ z : Ext W2, Calls Tryz.prog 167 #[.slice an ns.length cn, .string cn2] z.1 fun e w' => e = .returned (.bool (hasS ns cn2)) ∧ ∃ y : Ext W2, w' = y.1) := hid fun z => ext_same z (rIn_any _ _ _ _ (HN.out.below (HBZ.out z)))
                    have HDM : Hid (R = ((hasS ns cn2 && (r.cond.drop (m + 1)).all (hasS ns)) && (rs.drop (j + 1)).all (ruleR ns))) := hid (by rw [Hm.out, hcd2, List.all_cons])
                    have HM : Hid (m + 1 ≤ L) := hid hlm
                    have hi2 : (m : Int) < (L : Int) := by omega
                    clear Hm hcell hsz HCI HCR hcd2
                    cases hcm : hasS ns cn2
                    · have HF : Hid (R = false) := hid (by rw [HDM.out, hcm]; rfl)
                      rw [hcm] at HIM
                      clear hcm
                      go_wp2_with fail
                      refine wp_region_extx _ (by kernel_rfl) (by kernel_rfl) ?_
                      repeat (go_big_quiet_step (with_reducible exact HIM.out _))
                      refine wpQuiet_nil ?_
                      rintro _ ⟨z3, rfl⟩
                      go_wp2_with fail
                      go_ret
                      exact ⟨ret_bool HF.out.symm, HBZ.out _⟩
                    · have HF : Hid (R = ((r.cond.drop (m + 1)).all (hasS ns) && (rs.drop (j + 1)).all (ruleR ns))) := hid (by rw [HDM.out, hcm]; rfl)
                      rw [hcm] at HIM
                      clear hcm
                      go_wp2_with fail
                      refine wp_region_extx _ (by kernel_rfl) (by kernel_rfl) ?_
                      repeat (go_big_quiet_step (with_reducible exact HIM.out _))
                      refine wpQuiet_nil ?_
                      rintro _ ⟨z3, rfl⟩
                      go_wp2_with fail
                      go_roundw
                      case rel => exact ⟨m + 1, z3, HM.out, by go_num, rfl, HF⟩
                      case measure => have := HM.out; simp [intOf]; omega
                  · have hmm : m = L := by omega
                    subst hmm
                    have HF : Hid (R = (rs.drop (j + 1)).all (ruleR ns)) := hid (by rw [Hm.out, List.drop_eq_nil_of_le (Nat.le_of_eq HLL.out.symm)]; rfl)
                    clear hlm hm Hm
                    go_wp2_with fail
                    obtain ⟨y, hy⟩ := HUP.out z
                    go_roundw
                    case rel => exact ⟨j + 1, y, HJ.out, by go_num, hy, HF⟩
                    case measure => have := HJ.out; simp [intOf]; omega
        · have hjj : j = rs.length := by omega
          subst hjj
          have HF : Hid (R = true) := hid (by rw [He.out, List.drop_eq_nil_of_le (Nat.le_refl _)]; rfl)
          clear hlt hj
          go_wp2_with fail
          go_ret
          exact ⟨ret_bool HF.out.symm, HB.out _⟩
end Go.Proofs.YtmdjnaobllajmaaGreatDoor

/- What the reference of package lattice answers at a node, and that it is what the package answers. -/
namespace Go.Proofs.YtmdjnaobllajmaaGreatDoor

theorem strEq_iff (a b : ByteArray) : strEq a b = true ↔ a = b := by
  unfold strEq
  rw [Lib.toList_data, Lib.toList_data, beq_iff_eq]
  exact ⟨fun h => ByteArray.ext (Array.toList_inj.1 h), fun h => by rw [h]⟩
theorem hasS_iff (l : List ByteArray) (s : ByteArray) : hasS l s = true ↔ s ∈ l := by
  unfold hasS
  rw [List.any_eq_true]
  constructor
  · rintro ⟨x, hx, h⟩
    rw [(strEq_iff _ _).1 h]; exact hx
  · intro h
    exact ⟨s, h, (strEq_iff _ _).2 rfl⟩
theorem hasS_name {ns : List ByteArray} (h : ns.all nameB = true) {c : ByteArray} (hc : hasS ns c = true) : nameB c = true :=
  List.all_eq_true.1 h c ((hasS_iff _ _).1 hc)
theorem nmGo_all (full : List ByteArray) : ∀ (k : Nat) (l : List ByteArray), nmGo false full k l = l.all nameB
  | _, [] => rfl
  | k, s :: t => by rw [nmGo, nmGo_all full (k + 1) t, List.all_cons, Bool.false_and, Bool.not_false, Bool.and_true]
theorem rule_eq {ns : List ByteArray} (h : ns.all nameB = true) (r : Rl) : ruleR ns r = ruleB ns r := by
  unfold ruleR ruleB risingB
  have hq : subsetS r.cond ns = r.cond.all (hasS ns) := rfl
  rw [hq]
  cases hs : r.cond.all (hasS ns)
  · simp
  · have : r.cond.all nameB = true := by
      rw [List.all_eq_true] at hs ⊢
      intro c hc
      exact hasS_name h (hs c hc)
    rw [this]
    cases decide (r.cond.length ≠ 0) <;> cases sortedB r.cond <;> cases hasS ns r.concl <;> rfl
theorem shapeB_rules {l : Lat} (h : shapeB l = false) (h6 : l.kind = 6) : l.rules = [] := by
  refine List.eq_nil_of_length_eq_zero ?_
  by_cases h0 : l.rules.length = 0
  · exact h0
  · have := shapeC_ruled (lo := l.lo) (hi := l.hi) (nn := l.names.length) (np := l.parts.length) (nr := l.rules.length) (k := l.kind) (by omega) h0
    exact absurd (h.symm.trans this) Bool.false_ne_true
theorem spell_named {l : Lat} (h : shapeB l = false) : spellB l = !(namedR l.kind l.names l.rules) := by
  unfold spellB namedR
  by_cases h6 : l.kind = 6
  · rw [if_pos h6, shapeB_rules h h6, h6]
    have : rulesB l.names [] = true := rfl
    rw [this]
    simp
  · rw [if_neg h6]
    have hk : (l.kind == 6) = false := by rw [beq_eq_false_iff_ne]; exact h6
    rw [hk, nmGo_all, Bool.false_or]
    unfold risingB
    cases hn : l.names.all nameB
    · simp
    · have hr : rulesB l.names l.rules = l.rules.all (ruleR l.names) := by
        unfold rulesB
        congr 1
        funext r
        exact (rule_eq hn r).symm
      rw [hr, Bool.true_and]

def nodeR (l : Lat) (d : Int) (n : Nat) : Int := if 6 < d ∨ 64 ≤ n then 6 else if shapeB l then 1 else if limitsB l then 6 else if namedR l.kind l.names l.rules = false then 3 else if l.hi < l.lo ∨ l.lo < -1000000000 ∨ 1000000000 < l.hi then 5 else if chainsB l then 4 else 0
theorem ranges_iff (l : Lat) : rangesB l = decide (l.hi < l.lo ∨ l.lo < -1000000000 ∨ 1000000000 < l.hi) := by
  unfold rangesB
  rw [decide_eq_decide]
  omega
theorem node_visit (f : Nat) (l : Lat) (n : Nat) (d : Int) (hd : d = 7 - f) (hf : f ≤ 6) : nodeR l d n ≠ 0 ∧ (visitF f l n).1 = nodeR l d n ∨ nodeR l d n = 0 ∧ ∃ g, f = g + 1 ∧ visitF f l n = goL (visitF g) l.parts (n + 1) := by
  unfold nodeR
  cases f with
  | zero =>
    left
    rw [if_pos (by omega)]
    exact ⟨by decide, rfl⟩
  | succ f =>
    have hv : visitF (f + 1) l n = if 64 ≤ n then (6, n) else if shapeB l then (1, n + 1) else if checkE l ≠ 0 then (checkE l, n + 1) else goL (visitF f) l.parts (n + 1) := rfl
    by_cases h64 : 64 ≤ n
    · left
      rw [if_pos (.inr h64), hv, if_pos h64]
      exact ⟨by decide, rfl⟩
    · rw [if_neg (by omega), hv, if_neg h64]
      cases hs : shapeB l
      · rw [if_neg Bool.false_ne_true, if_neg Bool.false_ne_true]
        have hc : checkE l = if limitsB l then 6 else if namedR l.kind l.names l.rules = false then 3 else if l.hi < l.lo ∨ l.lo < -1000000000 ∨ 1000000000 < l.hi then 5 else if chainsB l then 4 else 0 := by
          unfold checkE
          rw [spell_named hs, ranges_iff]
          cases limitsB l <;> cases namedR l.kind l.names l.rules <;> by_cases hr : (l.hi < l.lo ∨ l.lo < -1000000000 ∨ 1000000000 < l.hi) <;> cases chainsB l <;> simp [hr, whenI, orI]
        rw [← hc]
        by_cases h0 : checkE l = 0
        · right
          rw [if_neg (fun h => h h0)]
          exact ⟨h0, f, rfl, rfl⟩
        · left
          rw [if_pos h0]
          exact ⟨h0, rfl⟩
      · left
        rw [if_pos rfl, if_pos rfl]
        exact ⟨by decide, rfl⟩
theorem visit_le (f : Nat) : ∀ (l : Lat) (n : Nat), n ≤ 64 → (visitF f l n).2 ≤ 64 := by
  induction f with
  | zero => intro l n h; exact h
  | succ f ih =>
    intro l n h
    have hv : visitF (f + 1) l n = if 64 ≤ n then (6, n) else if shapeB l then (1, n + 1) else if checkE l ≠ 0 then (checkE l, n + 1) else goL (visitF f) l.parts (n + 1) := rfl
    have hg : ∀ (ps : List Lat) (n : Nat), n ≤ 64 → (goL (visitF f) ps n).2 ≤ 64 := by
      intro ps
      induction ps with
      | nil => intro n h; exact h
      | cons p t ht =>
        intro n h
        rw [goL]
        split
        · exact ih p n h
        · exact ht _ (ih p n h)
    rw [hv]
    split
    · exact h
    · split
      · show n + 1 ≤ 64; omega
      · split
        · show n + 1 ≤ 64; omega
        · exact hg _ _ (by omega)
end Go.Proofs.YtmdjnaobllajmaaGreatDoor

/- The walks of the reference of package lattice: node, walk, Check. -/
namespace Go.Proofs.YtmdjnaobllajmaaGreatDoor
open Go.RowKit

theorem drew_below {B : Nat} {w w' : World} (h : ∃ n, w' = w.drewN n) (hb : B ≤ w.heap.size) : Below B w w' := by
  obtain ⟨n, rfl⟩ := h
  exact below_drewN' (Below.refl _ _) n

set_option maxRecDepth 100000 in
set_option maxHeartbeats 4000000 in
theorem rNode_any (l : Lat) (cs : List Value) (d : Int) (n : Nat) (w : World) (hl : latRd w l cs) (hd : 0 ≤ d ∧ d ≤ 7) (hn : n ≤ 64) :
    Calls Tryz.prog 106 #[.agg cs.toArray, .int .i64 d, .int .i64 n] w fun e w' => e = .returned (.int .i64 (nodeR l d n)) ∧ Below w.heap.size w w' := by
  obtain ⟨vn, vp, vr, rfl, hi, hns, hps, hrs⟩ := (latRd_iff _ _ _).1 hl
  have HL := hid hl
  obtain ⟨an, cn, rfl, hln, hmn⟩ := hns.shape
  obtain ⟨ap, cp, rfl, hlp, hmp⟩ := hps.shape
  obtain ⟨ar, cr, rfl, hlr, hmr⟩ := hrs.shape
  have HSH : Hid (∀ W, Below w.heap.size w W → Calls Tryz.prog 146 #[.agg #[.int .i64 l.kind, .int .i64 l.lo, .int .i64 l.hi, .slice an l.names.length cn, .slice ap l.parts.length cp, .slice ar l.rules.length cr]] W fun e w' => e = .returned (.bool (!shapeB l)) ∧ Below W.heap.size W w') := hid fun W h => rShape_any l _ W (latRd.below h _ _ HL.out)
  have HNA : Hid (∀ W, Below w.heap.size w W → Calls Tryz.prog 147 #[.agg #[.int .i64 l.kind, .int .i64 l.lo, .int .i64 l.hi, .slice an l.names.length cn, .slice ap l.parts.length cp, .slice ar l.rules.length cr]] W fun e w' => e = .returned (.bool (namedR l.kind l.names l.rules)) ∧ Below W.heap.size W w') := hid fun W h => rNamed_any l _ W (latRd.below h _ _ HL.out)
  have HR : Hid (nodeR l d n = if 6 < d ∨ 64 ≤ n then 6 else if shapeB l then 1 else if limitsB l then 6 else if namedR l.kind l.names l.rules = false then 3 else if l.hi < l.lo ∨ l.lo < -1000000000 ∨ 1000000000 < l.hi then 5 else if chainsB l then 4 else 0) := hid rfl
  have HP : Hid (shapeB l = false → l.kind = 7 → ∃ b o p q n0 p0 r0, ap = some ⟨b, o, none⟩ ∧ l.parts.length = 2 ∧ chainsB l = !(chainB p) ∧ latRd w p [.int .i64 p.kind, .int .i64 p.lo, .int .i64 p.hi, n0, p0, r0] ∧ CellsAt w b o [.int .i64 p.kind, .int .i64 p.lo, .int .i64 p.hi, n0, p0, r0]) := hid fun hs h7 => by
    have h2 := shapeB_lex l hs h7
    obtain ⟨p, q, hpq⟩ : ∃ p q, l.parts = [p, q] := by
      match l.parts, h2 with
      | [p, q], _ => exact ⟨p, q, rfl⟩
    obtain ⟨a', cp', heq, _, _, hcell⟩ := hps
    cases heq
    obtain ⟨b, o, cs0, hab, hl0, hc0, hr0⟩ := hcell 0 (by omega)
    have hp0 : l.parts[0]'(by omega) = p := by simp [hpq]
    rw [hp0] at hr0
    obtain ⟨n0, p0, r0, rfl, _⟩ := (latRd_iff _ _ _).1 hr0
    refine ⟨b, o, p, q, n0, p0, r0, hab, h2, ?_, hr0, by simpa using hc0⟩
    unfold chainsB
    rw [hpq, decide_eq_true h7]; rfl
  have H7 : Hid (l.kind ≠ 7 → chainsB l = false) := hid fun h => by unfold chainsB; rw [decide_eq_false h]; rfl
  have HLM : Hid (limitsB l = true ↔ mostN l.kind < l.names.length ∨ 32 < l.rules.length) := hid (by unfold limitsB; exact decide_eq_true_iff)
  generalize nodeR l d n = R at HR ⊢
  generalize shapeB l = S at HSH HR HP
  generalize limitsB l = LM at HR HLM
  generalize namedR l.kind l.names l.rules = NM at HNA HR
  generalize hch : chainsB l = CH at HR HP H7
  clear hch
  have hnn : l.names.length ≤ 9223372036854775807 := by omega
  have hnr : l.rules.length ≤ 9223372036854775807 := by omega
  have hnp : l.parts.length ≤ 9223372036854775807 := by omega
  clear hi hns hps hrs hl hln hlr hlp hmn hmr hmp HL
  generalize l.kind = k at HSH HNA HR HP H7 HLM ⊢
  generalize l.lo = lo at HSH HNA HR ⊢
  generalize l.hi = hi' at HSH HNA HR ⊢
  generalize l.names.length = nn at HSH HNA HLM hnn ⊢
  generalize l.rules.length = nr at HSH HNA HLM hnr ⊢
  generalize l.parts.length = np at HSH HNA HP hnp ⊢
  obtain ⟨hd0, hd7⟩ := hd
  have HB : Hid (∀ x : Ext (w.alloc (.cells #[.int .i64 k, .int .i64 lo, .int .i64 hi', .slice an nn cn, .slice ap np cp, .slice ar nr cr] 26)), Below w.heap.size w x.1) := hid fun x => ((Below.refl _ _).alloc (Nat.le_refl _) _).trans (x.2.mono (by simp))
  have HX : Hid (∀ (x : Ext (w.alloc (.cells #[.int .i64 k, .int .i64 lo, .int .i64 hi', .slice an nn cn, .slice ap np cp, .slice ar nr cr] 26))) (i : Nat) q, #[Value.int .i64 k, .int .i64 lo, .int .i64 hi', .slice an nn cn, .slice ap np cp, .slice ar nr cr][i]? = some q → x.1.cell? ⟨w.heap.size, i, none⟩ = some q) := hid fun x i q hq => x.cell (by rw [World.cell?_alloc_at _ _ _ _ rfl]; exact hq)
  have HBA : Hid (∀ O, Below w.heap.size w (w.alloc O)) := hid fun O => (Below.refl _ _).alloc (Nat.le_refl _) O
  by_cases k6 : k = 6
  · subst k6
    by_cases h6 : 6 < d
    · have HF : Hid (R = 6) := hid (by rw [HR.out, if_pos (.inl h6)])
      clear HX HB
      go_enter Tryz.func106, Tryz.ntmps106
      go_wp2_with fail
      go_ret
      exact ⟨ret_int HF.out.symm, HBA.out _⟩
    have h6' : d ≤ 6 := by omega
    by_cases h64 : 64 ≤ n
    · have HF : Hid (R = 6) := hid (by rw [HR.out, if_pos (.inr h64)])
      have h64' : (64 : Int) ≤ (n : Int) := by omega
      clear HX HB h6
      go_enter Tryz.func106, Tryz.ntmps106
      go_wp2_with fail
      go_ret
      exact ⟨ret_int HF.out.symm, HBA.out _⟩
    have h64' : (n : Int) < 64 := by omega
    replace HR : Hid (R = if S then 1 else if LM then 6 else if NM = false then 3 else if hi' < lo ∨ lo < -1000000000 ∨ 1000000000 < hi' then 5 else if CH then 4 else 0) := hid (by rw [HR.out, if_neg (by omega)])
    have g1 : decide (6 < d) = false := decide_eq_false h6
    have g2 : decide ((64 : Int) ≤ (n : Int)) = false := decide_eq_false (by omega)
    clear h6 h64
    go_enter Tryz.func106, Tryz.ntmps106
    go_wp2_with fail
    generalize w.alloc (.cells #[.int .i64 6, .int .i64 lo, .int .i64 hi', .slice an nn cn, .slice ap np cp, .slice ar nr cr] 26) = W1 at HB HX ⊢
    obtain ⟨x0, hx⟩ := ext_self W1
    rw [hx]
    clear hx
    have l0 : ∀ x : Ext W1, x.1.cell? ⟨w.heap.size, 0, none⟩ = some (.int .i64 6) := fun x => HX.out x 0 _ rfl
    have l1 : ∀ x : Ext W1, x.1.cell? ⟨w.heap.size, 1, none⟩ = some (.int .i64 lo) := fun x => HX.out x 1 _ rfl
    have l2 : ∀ x : Ext W1, x.1.cell? ⟨w.heap.size, 2, none⟩ = some (.int .i64 hi') := fun x => HX.out x 2 _ rfl
    have l3 : ∀ x : Ext W1, x.1.cell? ⟨w.heap.size, 3, none⟩ = some (.slice an nn cn) := fun x => HX.out x 3 _ rfl
    have l4 : ∀ x : Ext W1, x.1.cell? ⟨w.heap.size, 4, none⟩ = some (.slice ap np cp) := fun x => HX.out x 4 _ rfl
    have l5 : ∀ x : Ext W1, x.1.cell? ⟨w.heap.size, 5, none⟩ = some (.slice ar nr cr) := fun x => HX.out x 5 _ rfl
    replace HSH := hid (ext_of HB.out HSH.out)
    replace HNA := hid (ext_of HB.out HNA.out)
    go_wp2_with fail
    refine (HSH.out _).mono ?_
    rintro e _ ⟨rfl, x1, rfl⟩
    clear x0
    cases S
    case true =>
      have HF : Hid (R = 1) := hid (by rw [HR.out, if_pos rfl])
      go_wp2_with fail
      go_ret
      exact ⟨ret_int HF.out.symm, HB.out _⟩
    replace HR : Hid (R = if LM then 6 else if NM = false then 3 else if hi' < lo ∨ lo < -1000000000 ∨ 1000000000 < hi' then 5 else if CH then 4 else 0) := hid (by rw [HR.out, if_neg Bool.false_ne_true])
    by_cases hm : 8 < nn
    · have HF : Hid (R = 6) := hid (by rw [HR.out, if_pos (HLM.out.2 (by first | exact .inl hm | (left; unfold mostN; split <;> (try split) <;> omega)))])
      have hm' : decide ((8 : Int) < (nn : Int)) = true := decide_eq_true (by omega)
      go_wp2_with fail
      go_ret
      exact ⟨ret_int HF.out.symm, HB.out _⟩
    have hm' : decide ((8 : Int) < (nn : Int)) = false := decide_eq_false (by omega)
    by_cases hr : 32 < nr
    · have HF : Hid (R = 6) := hid (by rw [HR.out, if_pos (HLM.out.2 (.inr hr))])
      have hr' : decide ((32 : Int) < (nr : Int)) = true := decide_eq_true (by omega)
      go_wp2_with fail
      go_ret
      exact ⟨ret_int HF.out.symm, HB.out _⟩
    have hr' : decide ((32 : Int) < (nr : Int)) = false := decide_eq_false (by omega)
    replace HR : Hid (R = if NM = false then 3 else if hi' < lo ∨ lo < -1000000000 ∨ 1000000000 < hi' then 5 else if CH then 4 else 0) := hid (by rw [HR.out, if_neg (fun h => by have := HLM.out.1 h; unfold mostN at this; revert this; first | omega | (split <;> (try split) <;> omega))])
    clear HLM hm hr
    go_wp2_with fail
    refine (HNA.out _).mono ?_
    rintro e _ ⟨rfl, x2, rfl⟩
    clear x1
    cases NM
    case false =>
      have HF : Hid (R = 3) := hid (by rw [HR.out, if_pos rfl])
      go_wp2_with fail
      go_ret
      exact ⟨ret_int HF.out.symm, HB.out _⟩
    replace HR : Hid (R = if hi' < lo ∨ lo < -1000000000 ∨ 1000000000 < hi' then 5 else if CH then 4 else 0) := hid (by rw [HR.out, if_neg (fun h => Bool.noConfusion h)])
    by_cases p1 : hi' < lo
    · have HF : Hid (R = 5) := hid (by rw [HR.out, if_pos (by omega)])
      have dp1 : decide (hi' < lo) = true := decide_eq_true p1
      clear p1
      go_wp2_with fail
      go_ret
      exact ⟨ret_int HF.out.symm, HB.out _⟩
    have dp1 : decide (hi' < lo) = false := decide_eq_false p1
    by_cases p2 : lo < -1000000000
    · have HF : Hid (R = 5) := hid (by rw [HR.out, if_pos (by omega)])
      have dp2 : decide (lo < -1000000000) = true := decide_eq_true p2
      clear p2
      go_wp2_with fail
      go_ret
      exact ⟨ret_int HF.out.symm, HB.out _⟩
    have dp2 : decide (lo < -1000000000) = false := decide_eq_false p2
    by_cases p3 : 1000000000 < hi'
    · have HF : Hid (R = 5) := hid (by rw [HR.out, if_pos (by omega)])
      have dp3 : decide (1000000000 < hi') = true := decide_eq_true p3
      clear p3
      go_wp2_with fail
      go_ret
      exact ⟨ret_int HF.out.symm, HB.out _⟩
    have dp3 : decide (1000000000 < hi') = false := decide_eq_false p3
    replace HR : Hid (R = if CH then 4 else 0) := hid (by rw [HR.out, if_neg (by omega)])
    clear p1 p2 p3
    have HF : Hid (R = 0) := hid (by rw [HR.out, H7.out (by decide)]; rfl)
    clear HP
    go_wp2_with fail
    go_ret
    exact ⟨ret_int HF.out.symm, HB.out _⟩
  by_cases k10 : k = 10
  · subst k10
    by_cases h6 : 6 < d
    · have HF : Hid (R = 6) := hid (by rw [HR.out, if_pos (.inl h6)])
      clear HX HB
      go_enter Tryz.func106, Tryz.ntmps106
      go_wp2_with fail
      go_ret
      exact ⟨ret_int HF.out.symm, HBA.out _⟩
    have h6' : d ≤ 6 := by omega
    by_cases h64 : 64 ≤ n
    · have HF : Hid (R = 6) := hid (by rw [HR.out, if_pos (.inr h64)])
      have h64' : (64 : Int) ≤ (n : Int) := by omega
      clear HX HB h6
      go_enter Tryz.func106, Tryz.ntmps106
      go_wp2_with fail
      go_ret
      exact ⟨ret_int HF.out.symm, HBA.out _⟩
    have h64' : (n : Int) < 64 := by omega
    replace HR : Hid (R = if S then 1 else if LM then 6 else if NM = false then 3 else if hi' < lo ∨ lo < -1000000000 ∨ 1000000000 < hi' then 5 else if CH then 4 else 0) := hid (by rw [HR.out, if_neg (by omega)])
    have g1 : decide (6 < d) = false := decide_eq_false h6
    have g2 : decide ((64 : Int) ≤ (n : Int)) = false := decide_eq_false (by omega)
    clear h6 h64
    go_enter Tryz.func106, Tryz.ntmps106
    go_wp2_with fail
    generalize w.alloc (.cells #[.int .i64 10, .int .i64 lo, .int .i64 hi', .slice an nn cn, .slice ap np cp, .slice ar nr cr] 26) = W1 at HB HX ⊢
    obtain ⟨x0, hx⟩ := ext_self W1
    rw [hx]
    clear hx
    have l0 : ∀ x : Ext W1, x.1.cell? ⟨w.heap.size, 0, none⟩ = some (.int .i64 10) := fun x => HX.out x 0 _ rfl
    have l1 : ∀ x : Ext W1, x.1.cell? ⟨w.heap.size, 1, none⟩ = some (.int .i64 lo) := fun x => HX.out x 1 _ rfl
    have l2 : ∀ x : Ext W1, x.1.cell? ⟨w.heap.size, 2, none⟩ = some (.int .i64 hi') := fun x => HX.out x 2 _ rfl
    have l3 : ∀ x : Ext W1, x.1.cell? ⟨w.heap.size, 3, none⟩ = some (.slice an nn cn) := fun x => HX.out x 3 _ rfl
    have l4 : ∀ x : Ext W1, x.1.cell? ⟨w.heap.size, 4, none⟩ = some (.slice ap np cp) := fun x => HX.out x 4 _ rfl
    have l5 : ∀ x : Ext W1, x.1.cell? ⟨w.heap.size, 5, none⟩ = some (.slice ar nr cr) := fun x => HX.out x 5 _ rfl
    replace HSH := hid (ext_of HB.out HSH.out)
    replace HNA := hid (ext_of HB.out HNA.out)
    go_wp2_with fail
    refine (HSH.out _).mono ?_
    rintro e _ ⟨rfl, x1, rfl⟩
    clear x0
    cases S
    case true =>
      have HF : Hid (R = 1) := hid (by rw [HR.out, if_pos rfl])
      go_wp2_with fail
      go_ret
      exact ⟨ret_int HF.out.symm, HB.out _⟩
    replace HR : Hid (R = if LM then 6 else if NM = false then 3 else if hi' < lo ∨ lo < -1000000000 ∨ 1000000000 < hi' then 5 else if CH then 4 else 0) := hid (by rw [HR.out, if_neg Bool.false_ne_true])
    by_cases hm : 12 < nn
    · have HF : Hid (R = 6) := hid (by rw [HR.out, if_pos (HLM.out.2 (by first | exact .inl hm | (left; unfold mostN; split <;> (try split) <;> omega)))])
      have hm' : decide ((12 : Int) < (nn : Int)) = true := decide_eq_true (by omega)
      go_wp2_with fail
      go_ret
      exact ⟨ret_int HF.out.symm, HB.out _⟩
    have hm' : decide ((12 : Int) < (nn : Int)) = false := decide_eq_false (by omega)
    by_cases hr : 32 < nr
    · have HF : Hid (R = 6) := hid (by rw [HR.out, if_pos (HLM.out.2 (.inr hr))])
      have hr' : decide ((32 : Int) < (nr : Int)) = true := decide_eq_true (by omega)
      go_wp2_with fail
      go_ret
      exact ⟨ret_int HF.out.symm, HB.out _⟩
    have hr' : decide ((32 : Int) < (nr : Int)) = false := decide_eq_false (by omega)
    replace HR : Hid (R = if NM = false then 3 else if hi' < lo ∨ lo < -1000000000 ∨ 1000000000 < hi' then 5 else if CH then 4 else 0) := hid (by rw [HR.out, if_neg (fun h => by have := HLM.out.1 h; unfold mostN at this; revert this; first | omega | (split <;> (try split) <;> omega))])
    clear HLM hm hr
    go_wp2_with fail
    refine (HNA.out _).mono ?_
    rintro e _ ⟨rfl, x2, rfl⟩
    clear x1
    cases NM
    case false =>
      have HF : Hid (R = 3) := hid (by rw [HR.out, if_pos rfl])
      go_wp2_with fail
      go_ret
      exact ⟨ret_int HF.out.symm, HB.out _⟩
    replace HR : Hid (R = if hi' < lo ∨ lo < -1000000000 ∨ 1000000000 < hi' then 5 else if CH then 4 else 0) := hid (by rw [HR.out, if_neg (fun h => Bool.noConfusion h)])
    by_cases p1 : hi' < lo
    · have HF : Hid (R = 5) := hid (by rw [HR.out, if_pos (by omega)])
      have dp1 : decide (hi' < lo) = true := decide_eq_true p1
      clear p1
      go_wp2_with fail
      go_ret
      exact ⟨ret_int HF.out.symm, HB.out _⟩
    have dp1 : decide (hi' < lo) = false := decide_eq_false p1
    by_cases p2 : lo < -1000000000
    · have HF : Hid (R = 5) := hid (by rw [HR.out, if_pos (by omega)])
      have dp2 : decide (lo < -1000000000) = true := decide_eq_true p2
      clear p2
      go_wp2_with fail
      go_ret
      exact ⟨ret_int HF.out.symm, HB.out _⟩
    have dp2 : decide (lo < -1000000000) = false := decide_eq_false p2
    by_cases p3 : 1000000000 < hi'
    · have HF : Hid (R = 5) := hid (by rw [HR.out, if_pos (by omega)])
      have dp3 : decide (1000000000 < hi') = true := decide_eq_true p3
      clear p3
      go_wp2_with fail
      go_ret
      exact ⟨ret_int HF.out.symm, HB.out _⟩
    have dp3 : decide (1000000000 < hi') = false := decide_eq_false p3
    replace HR : Hid (R = if CH then 4 else 0) := hid (by rw [HR.out, if_neg (by omega)])
    clear p1 p2 p3
    have HF : Hid (R = 0) := hid (by rw [HR.out, H7.out (by decide)]; rfl)
    clear HP
    go_wp2_with fail
    go_ret
    exact ⟨ret_int HF.out.symm, HB.out _⟩
  have e6 : (k == 6) = false := by rw [beq_eq_false_iff_ne]; exact k6
  have e10 : (k == 10) = false := by rw [beq_eq_false_iff_ne]; exact k10
  by_cases h6 : 6 < d
  · have HF : Hid (R = 6) := hid (by rw [HR.out, if_pos (.inl h6)])
    clear HX HB
    go_enter Tryz.func106, Tryz.ntmps106
    go_wp2_with fail
    go_ret
    exact ⟨ret_int HF.out.symm, HBA.out _⟩
  have h6' : d ≤ 6 := by omega
  by_cases h64 : 64 ≤ n
  · have HF : Hid (R = 6) := hid (by rw [HR.out, if_pos (.inr h64)])
    have h64' : (64 : Int) ≤ (n : Int) := by omega
    clear HX HB h6
    go_enter Tryz.func106, Tryz.ntmps106
    go_wp2_with fail
    go_ret
    exact ⟨ret_int HF.out.symm, HBA.out _⟩
  have h64' : (n : Int) < 64 := by omega
  replace HR : Hid (R = if S then 1 else if LM then 6 else if NM = false then 3 else if hi' < lo ∨ lo < -1000000000 ∨ 1000000000 < hi' then 5 else if CH then 4 else 0) := hid (by rw [HR.out, if_neg (by omega)])
  have g1 : decide (6 < d) = false := decide_eq_false h6
  have g2 : decide ((64 : Int) ≤ (n : Int)) = false := decide_eq_false (by omega)
  clear h6 h64
  go_enter Tryz.func106, Tryz.ntmps106
  go_wp2_with fail
  generalize w.alloc (.cells #[.int .i64 k, .int .i64 lo, .int .i64 hi', .slice an nn cn, .slice ap np cp, .slice ar nr cr] 26) = W1 at HB HX ⊢
  obtain ⟨x0, hx⟩ := ext_self W1
  rw [hx]
  clear hx
  have l0 : ∀ x : Ext W1, x.1.cell? ⟨w.heap.size, 0, none⟩ = some (.int .i64 k) := fun x => HX.out x 0 _ rfl
  have l1 : ∀ x : Ext W1, x.1.cell? ⟨w.heap.size, 1, none⟩ = some (.int .i64 lo) := fun x => HX.out x 1 _ rfl
  have l2 : ∀ x : Ext W1, x.1.cell? ⟨w.heap.size, 2, none⟩ = some (.int .i64 hi') := fun x => HX.out x 2 _ rfl
  have l3 : ∀ x : Ext W1, x.1.cell? ⟨w.heap.size, 3, none⟩ = some (.slice an nn cn) := fun x => HX.out x 3 _ rfl
  have l4 : ∀ x : Ext W1, x.1.cell? ⟨w.heap.size, 4, none⟩ = some (.slice ap np cp) := fun x => HX.out x 4 _ rfl
  have l5 : ∀ x : Ext W1, x.1.cell? ⟨w.heap.size, 5, none⟩ = some (.slice ar nr cr) := fun x => HX.out x 5 _ rfl
  replace HSH := hid (ext_of HB.out HSH.out)
  replace HNA := hid (ext_of HB.out HNA.out)
  go_wp2_with fail
  refine (HSH.out _).mono ?_
  rintro e _ ⟨rfl, x1, rfl⟩
  clear x0
  cases S
  case true =>
    have HF : Hid (R = 1) := hid (by rw [HR.out, if_pos rfl])
    go_wp2_with fail
    go_ret
    exact ⟨ret_int HF.out.symm, HB.out _⟩
  replace HR : Hid (R = if LM then 6 else if NM = false then 3 else if hi' < lo ∨ lo < -1000000000 ∨ 1000000000 < hi' then 5 else if CH then 4 else 0) := hid (by rw [HR.out, if_neg Bool.false_ne_true])
  by_cases hm : 32 < nn
  · have HF : Hid (R = 6) := hid (by rw [HR.out, if_pos (HLM.out.2 (by first | exact .inl hm | (left; unfold mostN; split <;> (try split) <;> omega)))])
    have hm' : decide ((32 : Int) < (nn : Int)) = true := decide_eq_true (by omega)
    go_wp2_with fail
    go_ret
    exact ⟨ret_int HF.out.symm, HB.out _⟩
  have hm' : decide ((32 : Int) < (nn : Int)) = false := decide_eq_false (by omega)
  by_cases hr : 32 < nr
  · have HF : Hid (R = 6) := hid (by rw [HR.out, if_pos (HLM.out.2 (.inr hr))])
    have hr' : decide ((32 : Int) < (nr : Int)) = true := decide_eq_true (by omega)
    go_wp2_with fail
    go_ret
    exact ⟨ret_int HF.out.symm, HB.out _⟩
  have hr' : decide ((32 : Int) < (nr : Int)) = false := decide_eq_false (by omega)
  replace HR : Hid (R = if NM = false then 3 else if hi' < lo ∨ lo < -1000000000 ∨ 1000000000 < hi' then 5 else if CH then 4 else 0) := hid (by rw [HR.out, if_neg (fun h => by have := HLM.out.1 h; unfold mostN at this; revert this; first | omega | (split <;> (try split) <;> omega))])
  clear HLM hm hr
  go_wp2_with fail
  refine (HNA.out _).mono ?_
  rintro e _ ⟨rfl, x2, rfl⟩
  clear x1
  cases NM
  case false =>
    have HF : Hid (R = 3) := hid (by rw [HR.out, if_pos rfl])
    go_wp2_with fail
    go_ret
    exact ⟨ret_int HF.out.symm, HB.out _⟩
  replace HR : Hid (R = if hi' < lo ∨ lo < -1000000000 ∨ 1000000000 < hi' then 5 else if CH then 4 else 0) := hid (by rw [HR.out, if_neg (fun h => Bool.noConfusion h)])
  by_cases p1 : hi' < lo
  · have HF : Hid (R = 5) := hid (by rw [HR.out, if_pos (by omega)])
    have dp1 : decide (hi' < lo) = true := decide_eq_true p1
    clear p1
    go_wp2_with fail
    go_ret
    exact ⟨ret_int HF.out.symm, HB.out _⟩
  have dp1 : decide (hi' < lo) = false := decide_eq_false p1
  by_cases p2 : lo < -1000000000
  · have HF : Hid (R = 5) := hid (by rw [HR.out, if_pos (by omega)])
    have dp2 : decide (lo < -1000000000) = true := decide_eq_true p2
    clear p2
    go_wp2_with fail
    go_ret
    exact ⟨ret_int HF.out.symm, HB.out _⟩
  have dp2 : decide (lo < -1000000000) = false := decide_eq_false p2
  by_cases p3 : 1000000000 < hi'
  · have HF : Hid (R = 5) := hid (by rw [HR.out, if_pos (by omega)])
    have dp3 : decide (1000000000 < hi') = true := decide_eq_true p3
    clear p3
    go_wp2_with fail
    go_ret
    exact ⟨ret_int HF.out.symm, HB.out _⟩
  have dp3 : decide (1000000000 < hi') = false := decide_eq_false p3
  replace HR : Hid (R = if CH then 4 else 0) := hid (by rw [HR.out, if_neg (by omega)])
  clear p1 p2 p3
  by_cases h7 : k = 7
  · obtain ⟨b, oo, p, q, n0, p0, r0, rfl, h2, hch, hpr, hpc⟩ := HP.out (by trivial) h7
    subst h7
    subst h2
    have HC := hid hpc
    have HR2 : Hid (R = if (!chainB p) then 4 else 0) := hid (by rw [HR.out, hch])
    have HCC : Hid (∀ x : Ext W1, Calls Tryz.prog 148 #[.agg #[.int .i64 p.kind, .int .i64 p.lo, .int .i64 p.hi, n0, p0, r0]] x.1 fun e w' => e = .returned (.bool (chainB p)) ∧ ∃ y : Ext W1, w' = y.1) := hid (ext_of HB.out fun W h => rChain_any _ p _ W (Nat.le_refl _) (latRd.below h _ _ hpr))
    have g0 : ∀ x : Ext W1, x.1.cell? ⟨b, oo, none⟩ = some (.int .i64 p.kind) := fun x => ((HC.out.below (HB.out x)) 0 (by simp))
    have g1 : ∀ x : Ext W1, x.1.cell? ⟨b, oo + 1, none⟩ = some (.int .i64 p.lo) := fun x => ((HC.out.below (HB.out x)) 1 (by simp))
    have g2 : ∀ x : Ext W1, x.1.cell? ⟨b, oo + 2, none⟩ = some (.int .i64 p.hi) := fun x => ((HC.out.below (HB.out x)) 2 (by simp))
    have g3 : ∀ x : Ext W1, x.1.cell? ⟨b, oo + 3, none⟩ = some (n0) := fun x => ((HC.out.below (HB.out x)) 3 (by simp))
    have g4 : ∀ x : Ext W1, x.1.cell? ⟨b, oo + 4, none⟩ = some (p0) := fun x => ((HC.out.below (HB.out x)) 4 (by simp))
    have g5 : ∀ x : Ext W1, x.1.cell? ⟨b, oo + 5, none⟩ = some (r0) := fun x => ((HC.out.below (HB.out x)) 5 (by simp))
    clear hpc hpr hch HP H7 HSH HNA e6 e10
    go_wp2_with fail
    refine (HCC.out _).mono ?_
    rintro e _ ⟨rfl, x3, rfl⟩
    cases hc : chainB p
    · have HF : Hid (R = 4) := hid (by rw [HR2.out, hc]; rfl)
      clear hc
      go_wp2_with fail
      go_ret
      exact ⟨ret_int HF.out.symm, HB.out _⟩
    · have HF : Hid (R = 0) := hid (by rw [HR2.out, hc]; rfl)
      clear hc
      go_wp2_with fail
      go_ret
      exact ⟨ret_int HF.out.symm, HB.out _⟩
  · have HF : Hid (R = 0) := hid (by rw [HR.out, H7.out h7]; rfl)
    have e7 : (k == 7) = false := by rw [beq_eq_false_iff_ne]; exact h7
    clear HP H7 h7
    go_wp2_with fail
    go_ret
    exact ⟨ret_int HF.out.symm, HB.out _⟩
end Go.Proofs.YtmdjnaobllajmaaGreatDoor

