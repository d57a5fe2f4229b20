/-
  What the statements of the chapter share, part 09: WSpec.
-/
import GoSem.Claims
set_option linter.unusedVariables false
set_option linter.unusedSimpArgs false
set_option maxRecDepth 100000
set_option maxHeartbeats 8000000
namespace Go.Proofs.YtbhkcbidcfofiaaGreat
section
def W9 (n : Nat) : List UInt8 := if n < 128 then [UInt8.ofNat n] else UInt8.ofNat (n % 128 + 128) :: W9 (n / 128)
 termination_by n
 decreasing_by omega
theorem Zn6 {n : Nat} (h : n < 128) : W9 n = [UInt8.ofNat n] := by rw [W9, if_pos h]
theorem Zv7 {n : Nat} (h : 128 ≤ n) : W9 n = UInt8.ofNat (n % 128 + 128) :: W9 (n / 128) := by rw [W9, if_neg (by omega)]
theorem uintE_len (k : Nat) : ∀ n, n < 128 ^ k → 1 ≤ k → (W9 n).length ≤ k ∧ 1 ≤ (W9 n).length := by
 induction k with
 | zero => intro n _ h; omega
 | succ k ih =>
   intro n hn _
   by_cases h : n < 128
   · rw [Zn6 h]; simp
   · rw [Zv7 (by omega)]
     have hk : 1 ≤ k := by
      rcases Nat.eq_zero_or_pos k with h0 | h0
      · subst h0; simp at hn; omega
      · exact h0
     have hd : n / 128 < 128 ^ k := by
      rw [Nat.pow_succ] at hn
      exact Nat.div_lt_of_lt_mul (by rw [Nat.mul_comm]; exact hn)
     have := ih (n / 128) hd hk
     simp only [List.length_cons]
     omega
theorem Zx5 (n : Nat) (h : n < 18446744073709551616) : (W9 n).length ≤ 10 ∧ 1 ≤ (W9 n).length := uintE_len 10 n (by omega) (by omega)
def zz (n : Int) : Nat := if 0 ≤ n then 2 * n.toNat else 2 * (-(n + 1)).toNat + 1
def unzz (n : Nat) : Int := if n % 2 = 0 then (n / 2 : Nat) else -((n / 2 : Nat) : Int) - 1
theorem zz_unzz (n : Nat) : zz (unzz n) = n := by
 unfold unzz zz
 by_cases h : n % 2 = 0
 · rw [if_pos h, if_pos (by omega)]; omega
 · rw [if_neg h, if_neg (by omega)]; omega
theorem unzz_bd (n : Nat) (h : n < 18446744073709551616) : -9223372036854775808 ≤ unzz n ∧ unzz n ≤ 9223372036854775807 := by
 unfold unzz
 split <;> omega
def intE (n : Int) : List UInt8 := W9 (zz n)
def bytesE (b : List UInt8) : List UInt8 := W9 b.length ++ b
def U8 (s : ByteArray) : List UInt8 := W9 s.size ++ s.data.toList
def boolE (b : Bool) : List UInt8 := [if b then 1 else 0]
def numF : Nat → List UInt8 → Option (Nat × Nat)
 | _, [] => none
 | i, b :: t => if 10 ≤ i then none else if i = 9 ∧ 1 < b.toNat then none
   else if b.toNat < 128 then (if b.toNat = 0 ∧ i ≠ 0 then none else some (b.toNat, 1))
   else match numF (i + 1) t with
    | none => none
    | some (n, c) => some (b.toNat % 128 + 128 * n, c + 1)
theorem Ym9 (i : Nat) : numF i [] = none := by unfold numF; rfl
theorem numF_ge {i : Nat} (l : List UInt8) (h : 10 ≤ i) : numF i l = none := by
 cases l with
 | nil => exact Ym9 i
 | cons b t => rw [numF, if_pos h]
theorem numF_big {i : Nat} {b : UInt8} (t : List UInt8) (h : i = 9 ∧ 1 < b.toNat) : numF i (b :: t) = none := by
 rw [numF, if_neg (by omega), if_pos h]
theorem numF_last {i : Nat} {b : UInt8} (t : List UInt8) (hi : i < 10) (h9 : ¬ (i = 9 ∧ 1 < b.toNat)) (h : b.toNat < 128) : numF i (b :: t) = if b.toNat = 0 ∧ i ≠ 0 then none else some (b.toNat, 1) := by
 rw [numF, if_neg (by omega), if_neg h9, if_pos h]
theorem numF_more {i : Nat} {b : UInt8} (t : List UInt8) (hi : i < 10) (h9 : ¬ (i = 9 ∧ 1 < b.toNat)) (h : ¬ b.toNat < 128) : numF i (b :: t) = match numF (i + 1) t with
 | none => none
 | some (n, c) => some (b.toNat % 128 + 128 * n, c + 1) := by
 rw [numF, if_neg (by omega), if_neg h9, if_neg h]
theorem Za9 : ∀ (l : List UInt8) (i : Nat) (n c : Nat), numF i l = some (n, c) → c ≤ l.length ∧ 1 ≤ c ∧ i + c ≤ 10 ∧ (i = 0 ∨ n ≠ 0) ∧ n < 2 ^ (64 - 7 * i) ∧ l.take c = W9 n
 | [], i, n, c, h => by rw [Ym9] at h; cases h
 | b :: t, i, n, c, h => by
   by_cases hi : 10 ≤ i
   · rw [numF_ge _ hi] at h; cases h
   by_cases h9 : i = 9 ∧ 1 < b.toNat
   · rw [numF_big t h9] at h; cases h
   have hb : b.toNat < 256 := b.toNat_lt
   by_cases hl : b.toNat < 128
   · rw [numF_last t (by omega) h9 hl] at h
     by_cases hz : b.toNat = 0 ∧ i ≠ 0
     · rw [if_pos hz] at h; cases h
     · rw [if_neg hz] at h
       simp only [Option.some.injEq, Prod.mk.injEq] at h
       obtain ⟨rfl, rfl⟩ := h
       refine ⟨by simp, Nat.le_refl _, by omega, by omega, ?_, ?_⟩
       · rcases Nat.lt_or_ge i 9 with hi9 | hi9
         · have : 2 ^ 7 ≤ 2 ^ (64 - 7 * i) := Nat.pow_le_pow_right (by omega) (by omega)
           omega
         · have : i = 9 := by omega
           subst this
           have : b.toNat ≤ 1 := by omega
           show b.toNat < 2 ^ 1
           omega
       · rw [Zn6 hl]
         simp
   · rw [numF_more t (by omega) h9 hl] at h
     have hi9 : i < 9 := by omega
     cases hr : numF (i + 1) t with
     | none => rw [hr] at h; cases h
     | some p =>
       obtain ⟨m, d⟩ := p
       rw [hr] at h
       simp only [Option.some.injEq, Prod.mk.injEq] at h
       obtain ⟨rfl, rfl⟩ := h
       obtain ⟨h1, h2, h3, h4, h5, h6⟩ := Za9 t (i + 1) m d hr
       have hm : m ≠ 0 := by omega
       refine ⟨by simp only [List.length_cons]; omega, by omega, by omega, .inr (by omega), ?_, ?_⟩
       · have e : 2 ^ (64 - 7 * i) = 128 * 2 ^ (64 - 7 * (i + 1)) := by
          rw [show 64 - 7 * i = 7 + (64 - 7 * (i + 1)) by omega, Nat.pow_add]
         rw [e]
         omega
       · rw [Zv7 (by omega), List.take_succ_cons, h6]
         have e1 : (b.toNat % 128 + 128 * m) / 128 = m := by omega
         have e2 : (b.toNat % 128 + 128 * m) % 128 + 128 = b.toNat := by omega
         rw [e1, e2]
         simp
end
end Go.Proofs.YtbhkcbidcfofiaaGreat
