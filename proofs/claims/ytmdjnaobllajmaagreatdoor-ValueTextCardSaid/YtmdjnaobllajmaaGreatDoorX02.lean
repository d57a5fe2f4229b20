/-
  What the statements of the chapter share, part 02: VCmp.
-/
import Derived.Test.YtmdjnaobllajmaaGreatDoorX01
import Derived.Laws.Externs
set_option linter.unusedVariables false
set_option linter.unusedSimpArgs false
set_option maxRecDepth 100000
set_option maxHeartbeats 8000000
namespace Go.Proofs.YtmdjnaobllajmaaGreatDoor
open Go.RowKit
def cmpI (a b : Int) : Int := if a < b then -1 else if b < a then 1 else 0
def strC (s t : ByteArray) : Int := if strLt s t then -1 else if (s.toList == t.toList) then 0 else 1
def lexC {α : Type} (c : α → α → Int) : List α → List α → Int
 | [], [] => 0
 | [], _ :: _ => -1
 | _ :: _, [] => 1
 | x :: s, y :: t => if c x y ≠ 0 then c x y else lexC c s t
theorem lexC_step {α : Type} (c : α → α → Int) (a b : List α) (k : Nat) (ha : k < a.length) (hb : k < b.length) : lexC c (a.drop k) (b.drop k) = if c a[k] b[k] ≠ 0 then c a[k] b[k] else lexC c (a.drop (k + 1)) (b.drop (k + 1)) := by
 rw [drop_consS a k ha, drop_consS b k hb, lexC]
theorem lexC_one {α : Type} (c : α → α → Int) (a b : List α) (k : Nat) (ha : k < a.length) (hb : b.length ≤ k) : lexC c (a.drop k) (b.drop k) = 1 := by
 rw [drop_consS a k ha, List.drop_eq_nil_of_le hb]; rfl
theorem lexC_end {α : Type} (c : α → α → Int) (a b : List α) (k : Nat) (ha : a.length ≤ k) : lexC c (a.drop k) (b.drop k) = if k < b.length then -1 else 0 := by
 rw [List.drop_eq_nil_of_le ha]
 by_cases h : k < b.length
 · rw [drop_consS b k h, if_pos h]; rfl
 · rw [List.drop_eq_nil_of_le (by omega), if_neg h]; rfl
theorem isNaN64 (a : Int) (w : World) : Calls Tryz.prog 74 #[.int .i64 a] w fun e w' => e = .returned (.bool false) ∧ w' = w := by
  go_enter Tryz.func74, Tryz.ntmps74
  go_wp2
  go_ret
  exact ⟨rfl, rfl⟩
theorem isNaNi (a : Int) (w : World) : Calls Tryz.prog 159 #[.int .i64 a] w fun e w' => e = .returned (.bool false) ∧ w' = w := by
  go_enter Tryz.func159, Tryz.ntmps159
  go_wp2
  go_ret
  exact ⟨rfl, rfl⟩
theorem isNaNs (s : ByteArray) (w : World) : Calls Tryz.prog 127 #[.string s] w fun e w' => e = .returned (.bool false) ∧ w' = w := by
  go_enter Tryz.func127, Tryz.ntmps127
  go_wp2
  go_ret
  exact ⟨ret_bool (by simp), rfl⟩
theorem cmpI_cases (a b : Int) : (cmpI a b = -1 ∧ a < b) ∨ (cmpI a b = 1 ∧ b < a) ∨ (cmpI a b = 0 ∧ a = b) := by
 unfold cmpI
 by_cases h : a < b
 · simp [h]
 · by_cases h' : b < a
   · simp [h, h']
   · simp [h, h']; omega
theorem cmp64_any (a b : Int) (w : World) : Calls Tryz.prog 42 #[.int .i64 a, .int .i64 b] w fun e w' => e = .returned (.int .i64 (cmpI a b)) ∧ w' = w := by
  rcases cmpI_cases a b with ⟨h, h1⟩ | ⟨h, h1⟩ | ⟨h, rfl⟩
  all_goals
   have HC := hid h
   clear h
   go_enter Tryz.func42, Tryz.ntmps42
   go_wp2_with fail
   refine (isNaN64 _ _).mono ?_
   rintro e w1 ⟨rfl, rfl⟩
   go_wp2_with fail
   refine (isNaN64 _ _).mono ?_
   rintro e w1 ⟨rfl, rfl⟩
   go_wp2_with fail
   go_ret
   exact ⟨ret_int HC.out.symm, rfl⟩
theorem cmpi_any (a b : Int) (w : World) : Calls Tryz.prog 129 #[.int .i64 a, .int .i64 b] w fun e w' => e = .returned (.int .i64 (cmpI a b)) ∧ w' = w := by
  rcases cmpI_cases a b with ⟨h, h1⟩ | ⟨h, h1⟩ | ⟨h, rfl⟩
  all_goals
   have HC := hid h
   clear h
   go_enter Tryz.func129, Tryz.ntmps129
   go_wp2_with fail
   refine (isNaNi _ _).mono ?_
   rintro e w1 ⟨rfl, rfl⟩
   go_wp2_with fail
   refine (isNaNi _ _).mono ?_
   rintro e w1 ⟨rfl, rfl⟩
   go_wp2_with fail
   go_ret
   exact ⟨ret_int HC.out.symm, rfl⟩
theorem strC_cases (s t : ByteArray) : (strC s t = -1 ∧ strLt s t = true) ∨ (strC s t = 1 ∧ strLt s t = false ∧ (s.toList == t.toList) = false) ∨ (strC s t = 0 ∧ strLt s t = false ∧ (s.toList == t.toList) = true) := by
 unfold strC
 cases strLt s t <;> cases (s.toList == t.toList) <;> simp
theorem cmps_any (s t : ByteArray) (w : World) : Calls Tryz.prog 75 #[.string s, .string t] w fun e w' => e = .returned (.int .i64 (strC s t)) ∧ w' = w := by
  rcases strC_cases s t with ⟨h, h1⟩ | ⟨h, h1, h2⟩ | ⟨h, h1, h2⟩
  all_goals
   have HC := hid h
   clear h
   have b1 : Op.bytesLess s.toList t.toList = _ := h1
   clear h1
   go_enter Tryz.func75, Tryz.ntmps75
   go_wp2_with fail
   refine (isNaNs _ _).mono ?_
   rintro e w1 ⟨rfl, rfl⟩
   go_wp2_with fail
   refine (isNaNs _ _).mono ?_
   rintro e w1 ⟨rfl, rfl⟩
   go_wp2_with fail
   go_ret
   exact ⟨ret_int HC.out.symm, rfl⟩
theorem I64s.shape {w : World} {v : Value} {l : List Int} (h : I64s w v l) : ∃ a cap, v = .slice a l.length cap ∧ l.length ≤ 9223372036854775807 := by
 obtain ⟨a, cap, h1, h2, h3⟩ := SlRd.shape h
 exact ⟨a, cap, h1, h3⟩
theorem orInt_any (v : Value) (l : List Int) (w : World) (hv : I64s w v l) :
 Calls Tryz.prog 41 #[v] w fun e w' => e = .returned (.int .i64 (orI l)) ∧ w' = w := by
 obtain ⟨a, cap, rfl, hmax⟩ := hv.shape
 have HV := hid hv
 clear hv
 go_enter Tryz.func41, Tryz.ntmps41
 go_wp2
 go_loop [8] (fun i => ∃ (k : Nat), k ≤ l.length ∧ i = .int .i64 k ∧ Hid (orI l = orI (l.drop k))) (fun i => l.length - (intOf i).toNat)
 case atStart => exact ⟨0, Nat.zero_le _, rfl, hid (by simp)⟩
 case round =>
  obtain ⟨k, hk, rfl, He⟩ := hrel
  by_cases hlt : k < l.length
  · obtain ⟨b, o, rfl, hcell⟩ := HV.out.cell k hlt
    have HD : Hid (orI l = if l[k] = 0 then orI (l.drop (k + 1)) else l[k]) := hid (by rw [He.out, drop_consS l k hlt, orI])
    cases hz : (l[k] != 0)
    · have HZ : Hid (l[k] = 0) := hid (by simpa using hz)
      go_wp2
      go_round
      case rel => exact ⟨k + 1, by omega, by go_num, hid (by rw [HD.out, if_pos HZ.out])⟩
      case measure => simp [intOf]; omega
    · have HZ : Hid (¬ l[k] = 0) := hid (by simpa using hz)
      go_wp2
      go_ret
      exact ⟨ret_int (by rw [HD.out, if_neg HZ.out]), rfl⟩
  · have HF : Hid (orI l = 0) := hid (by rw [He.out, List.drop_eq_nil_of_le (by omega)]; rfl)
    go_wp2
    go_ret
    exact ⟨ret_int HF.out.symm, rfl⟩
theorem two_ints {w : World} {n : Nat} (a b : Int) (h : w.heap[n]? = some (.cells #[.int .i64 a, .int .i64 b] 3)) : I64s w (.slice (some ⟨n, 0, none⟩) 2 2) [a, b] := by
 refine ⟨some ⟨n, 0, none⟩, 2, rfl, ⟨(by intro h; cases h), by simp⟩, by decide, fun i hi => ⟨n, 0, [.int .i64 [a, b][i]], rfl, rfl, ?_, rfl⟩⟩
 intro j hj
 have hj0 : j = 0 := by simpa using hj
 subst hj0
 simp only [List.length_cons, List.length_nil] at hi
 match i, hi with
 | 0, _ => simp [World.cell?, h]
 | 1, _ => simp [World.cell?, h]
theorem slicesCmp_any (v u : Value) (a b : List ByteArray) (w : World) (hv : Strs w v a) (hu : Strs w u b) :
 Calls Tryz.prog 43 #[v, u] w fun e w' => e = .returned (.int .i64 (lexC strC a b)) ∧ w' = w := by
 obtain ⟨ad, cap, rfl, _, hmax⟩ := hv.shape
 obtain ⟨ad', cap', rfl, _, hmax'⟩ := hu.shape
 have HV := hid hv
 have HU := hid hu
 clear hv hu
 go_enter Tryz.func43, Tryz.ntmps43
 go_wp2
 go_loop [11] (fun i => ∃ (k : Nat), k ≤ a.length ∧ k ≤ b.length ∧ i = .int .i64 k ∧ Hid (lexC strC a b = lexC strC (a.drop k) (b.drop k))) (fun i => a.length - (intOf i).toNat)
 case atStart => exact ⟨0, Nat.zero_le _, Nat.zero_le _, rfl, hid (by simp)⟩
 case round =>
  obtain ⟨k, hk, hk', rfl, He⟩ := hrel
  by_cases hlt : k < a.length
  · obtain ⟨bb, o, rfl, hcell, _⟩ := HV.out.cell k hlt
    by_cases hlt' : k < b.length
    · obtain ⟨bb', o', rfl, hcell', _⟩ := HU.out.cell k hlt'
      have HD : Hid (lexC strC a b = if strC a[k] b[k] ≠ 0 then strC a[k] b[k] else lexC strC (a.drop (k + 1)) (b.drop (k + 1))) := hid (by rw [He.out, lexC_step _ _ _ _ hlt hlt'])
      go_wp2_with fail
      refine (cmps_any _ _ _).mono ?_
      rintro e w1 ⟨rfl, rfl⟩
      cases hz : (strC a[k] b[k] != 0)
      · have HD2 : Hid (lexC strC a b = lexC strC (a.drop (k + 1)) (b.drop (k + 1))) := hid (by rw [HD.out, if_neg (by simpa using hz)])
        go_wp2_with fail
        go_round
        case rel => exact ⟨k + 1, by omega, by omega, by go_num, HD2⟩
        case measure => simp [intOf]; omega
      · have HD2 : Hid (lexC strC a b = strC a[k] b[k]) := hid (by rw [HD.out, if_pos (by simpa using hz)])
        go_wp2_with fail
        go_ret
        exact ⟨ret_int HD2.out.symm, rfl⟩
    · have HF : Hid (lexC strC a b = 1) := hid (by rw [He.out, lexC_one _ _ _ _ hlt (by omega)])
      go_wp2
      go_ret
      exact ⟨ret_int HF.out.symm, rfl⟩
  · have HF : Hid (lexC strC a b = if k < b.length then -1 else 0) := hid (by rw [He.out, lexC_end _ _ _ _ (by omega)])
    have hka : k = a.length := by omega
    subst hka
    by_cases hl : a.length < b.length
    · have HF2 : Hid (lexC strC a b = -1) := hid (by rw [HF.out, if_pos hl])
      go_wp2
      go_ret
      exact ⟨ret_int HF2.out.symm, rfl⟩
    · have HF2 : Hid (lexC strC a b = 0) := hid (by rw [HF.out, if_neg hl])
      go_wp2
      go_ret
      exact ⟨ret_int HF2.out.symm, rfl⟩
end Go.Proofs.YtmdjnaobllajmaaGreatDoor
