/-
  What the statements of the chapter share, part 09: WSpec.
-/
import GoSem.Claims
set_option linter.unusedVariables false
set_option linter.unusedSimpArgs false
set_option maxRecDepth 100000
set_option maxHeartbeats 8000000
namespace Go.Proofs.YtmdjnaobllajmaaGreatDoor
open _root_.List renaming length_cons → Z0
section
def Yy (n : Nat) : List UInt8 := if n < 128 then [UInt8.ofNat n] else UInt8.ofNat (n % 128 + 128) :: Yy (n / 128)
 termination_by n
 decreasing_by omega
theorem Ze8 {n : Nat} (h : n < 128) : Yy n = [UInt8.ofNat n] := by rw [Yy, if_pos h]
theorem Zj1 {n : Nat} (h : 128 ≤ n) : Yy n = UInt8.ofNat (n % 128 + 128) :: Yy (n / 128) := by rw [Yy, if_neg (by omega)]
theorem uintE_len (k : Nat) : ∀ n, n < 128 ^ k → 1 ≤ k → (Yy n).length ≤ k ∧ 1 ≤ (Yy n).length := by
 induction k with
 | zero => intro n _ h; omega
 | succ k ih =>
   intro n hn _
   by_cases h : n < 128
   · rw [Ze8 h]; simp
   · rw [Zj1 (by omega)]
     have hk : 1 ≤ k := by
      rcases Nat.eq_zero_or_pos k with h0 | h0
      · subst h0; simp at hn; omega
      · exact h0
     have hd : n / 128 < 128 ^ k := by
      rw [Nat.pow_succ] at hn
      exact Nat.div_lt_of_lt_mul (by rw [Nat.mul_comm]; exact hn)
     have := ih (n / 128) hd hk
     simp only [Z0]
     omega
theorem Zg9 (n : Nat) (h : n < 18446744073709551616) : (Yy n).length ≤ 10 ∧ 1 ≤ (Yy n).length := uintE_len 10 n (by omega) (by omega)
def zz (n : Int) : Nat := if 0 ≤ n then 2 * n.toNat else 2 * (-(n + 1)).toNat + 1
def unzz (n : Nat) : Int := if n % 2 = 0 then (n / 2 : Nat) else -((n / 2 : Nat) : Int) - 1
theorem unzz_zz (n : Int) : unzz (zz n) = n := by
 unfold unzz zz
 by_cases h : 0 ≤ n
 · rw [if_pos h, if_pos (by omega)]; omega
 · rw [if_neg h, if_neg (by omega)]; omega
theorem zz_unzz (n : Nat) : zz (unzz n) = n := by
 unfold unzz zz
 by_cases h : n % 2 = 0
 · rw [if_pos h, if_pos (by omega)]; omega
 · rw [if_neg h, if_neg (by omega)]; omega
theorem zz_lt (n : Int) (h1 : -9223372036854775808 ≤ n) (h2 : n ≤ 9223372036854775807) : zz n < 18446744073709551616 := by
 unfold zz
 split <;> omega
theorem unzz_bd (n : Nat) (h : n < 18446744073709551616) : -9223372036854775808 ≤ unzz n ∧ unzz n ≤ 9223372036854775807 := by
 unfold unzz
 split <;> omega
def intE (n : Int) : List UInt8 := Yy (zz n)
def Zg6 (b : List UInt8) : List UInt8 := Yy b.length ++ b
def Xq (s : ByteArray) : List UInt8 := Yy s.size ++ s.data.toList
def Zg3 (b : Bool) : List UInt8 := [if b then 1 else 0]
def numF : Nat → List UInt8 → Option (Nat × Nat)
 | _, [] => none
 | i, b :: t => if 10 ≤ i then none else if i = 9 ∧ 1 < b.toNat then none
   else if b.toNat < 128 then (if b.toNat = 0 ∧ i ≠ 0 then none else some (b.toNat, 1))
   else match numF (i + 1) t with
    | none => none
    | some (n, c) => some (b.toNat % 128 + 128 * n, c + 1)
theorem Zs4 (i : Nat) : numF i [] = none := by unfold numF; rfl
theorem numF_ge {i : Nat} (l : List UInt8) (h : 10 ≤ i) : numF i l = none := by
 cases l with
 | nil => exact Zs4 i
 | cons b t => rw [numF, if_pos h]
theorem Yi1 {i : Nat} {b : UInt8} (t : List UInt8) (h : i = 9 ∧ 1 < b.toNat) : numF i (b :: t) = none := by
 rw [numF, if_neg (by omega), if_pos h]
theorem Zd3 {i : Nat} {b : UInt8} (t : List UInt8) (hi : i < 10) (h9 : ¬ (i = 9 ∧ 1 < b.toNat)) (h : b.toNat < 128) : numF i (b :: t) = if b.toNat = 0 ∧ i ≠ 0 then none else some (b.toNat, 1) := by
 rw [numF, if_neg (by omega), if_neg h9, if_pos h]
theorem Zl4 {i : Nat} {b : UInt8} (t : List UInt8) (hi : i < 10) (h9 : ¬ (i = 9 ∧ 1 < b.toNat)) (h : ¬ b.toNat < 128) : numF i (b :: t) = match numF (i + 1) t with
 | none => none
 | some (n, c) => some (b.toNat % 128 + 128 * n, c + 1) := by
 rw [numF, if_neg (by omega), if_neg h9, if_neg h]
theorem Js : ∀ (l : List UInt8) (i : Nat) (n c : Nat), numF i l = some (n, c) → c ≤ l.length ∧ 1 ≤ c ∧ i + c ≤ 10 ∧ (i = 0 ∨ n ≠ 0) ∧ n < 2 ^ (64 - 7 * i) ∧ l.take c = Yy n
 | [], i, n, c, h => by rw [Zs4] at h; cases h
 | b :: t, i, n, c, h => by
   by_cases hi : 10 ≤ i
   · rw [numF_ge _ hi] at h; cases h
   by_cases h9 : i = 9 ∧ 1 < b.toNat
   · rw [Yi1 t h9] at h; cases h
   have hb : b.toNat < 256 := b.toNat_lt
   by_cases hl : b.toNat < 128
   · rw [Zd3 t (by omega) h9 hl] at h
     by_cases hz : b.toNat = 0 ∧ i ≠ 0
     · rw [if_pos hz] at h; cases h
     · rw [if_neg hz] at h
       simp only [Option.some.injEq, Prod.mk.injEq] at h
       obtain ⟨rfl, rfl⟩ := h
       refine ⟨by simp, Nat.le_refl _, by omega, by omega, ?_, ?_⟩
       · rcases Nat.lt_or_ge i 9 with hi9 | hi9
         · have : 2 ^ 7 ≤ 2 ^ (64 - 7 * i) := Nat.pow_le_pow_right (by omega) (by omega)
           omega
         · have : i = 9 := by omega
           subst this
           have : b.toNat ≤ 1 := by omega
           show b.toNat < 2 ^ 1
           omega
       · rw [Ze8 hl]
         simp
   · rw [Zl4 t (by omega) h9 hl] at h
     have hi9 : i < 9 := by omega
     cases hr : numF (i + 1) t with
     | none => rw [hr] at h; cases h
     | some p =>
       obtain ⟨m, d⟩ := p
       rw [hr] at h
       simp only [Option.some.injEq, Prod.mk.injEq] at h
       obtain ⟨rfl, rfl⟩ := h
       obtain ⟨h1, h2, h3, h4, h5, h6⟩ := Js t (i + 1) m d hr
       have hm : m ≠ 0 := by omega
       refine ⟨by simp only [Z0]; omega, by omega, by omega, .inr (by omega), ?_, ?_⟩
       · have e : 2 ^ (64 - 7 * i) = 128 * 2 ^ (64 - 7 * (i + 1)) := by
          rw [show 64 - 7 * i = 7 + (64 - 7 * (i + 1)) by omega, Nat.pow_add]
         rw [e]
         omega
       · rw [Zj1 (by omega), List.take_succ_cons, h6]
         have e1 : (b.toNat % 128 + 128 * m) / 128 = m := by omega
         have e2 : (b.toNat % 128 + 128 * m) % 128 + 128 = b.toNat := by omega
         rw [e1, e2]
         simp
theorem Yc3 : ∀ (k n i : Nat) (r : List UInt8), n < 2 ^ k → n < 2 ^ (64 - 7 * i) → i < 10 → (i = 0 ∨ n ≠ 0) → numF i (Yy n ++ r) = some (n, (Yy n).length)
 | k, n, i, r, hk, hn, hi, hz => by
   by_cases h : n < 128
   · rw [Ze8 h]
     have hb : (UInt8.ofNat n).toNat = n := by simp; omega
     rw [List.singleton_append, Zd3 r hi (by
      rw [hb]
      rintro ⟨rfl, h1⟩
      have : n < 2 ^ 1 := hn
      omega) (by rw [hb]; exact h), hb, if_neg (by omega)]
     rfl
   · rw [Zj1 (by omega)]
     have hb : (UInt8.ofNat (n % 128 + 128)).toNat = n % 128 + 128 := by simp; omega
     have hi9 : i < 9 := by
      rcases Nat.lt_or_ge i 9 with h' | h'
      · exact h'
      · have : i = 9 := by omega
        subst this
        have : n < 2 ^ 1 := hn
        omega
     have hk' : k ≠ 0 := by rintro rfl; simp at hk; omega
     have e : 2 ^ (64 - 7 * i) = 128 * 2 ^ (64 - 7 * (i + 1)) := by
      rw [show 64 - 7 * i = 7 + (64 - 7 * (i + 1)) by omega, Nat.pow_add]
     have ih := Yc3 (k - 1) (n / 128) (i + 1) r (by
      have : 2 ^ k = 2 * 2 ^ (k - 1) := by rw [← Nat.pow_succ', show (k - 1).succ = k by omega]
      omega) (by rw [e] at hn; omega) (by omega) (.inr (by omega))
     rw [List.cons_append, Zl4 _ hi (by omega) (by rw [hb]; omega), ih]
     simp only [hb, Z0, Option.some.injEq, Prod.mk.injEq, and_true]
     omega
 termination_by k => k
 decreasing_by omega
end
end Go.Proofs.YtmdjnaobllajmaaGreatDoor
