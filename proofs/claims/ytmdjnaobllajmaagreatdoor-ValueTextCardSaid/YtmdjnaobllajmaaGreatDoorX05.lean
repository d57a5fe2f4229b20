/-
  What the statements of the chapter share, part 05: WSpec, RSpec, VSpec, VVal1.
-/
import Derived.Test.YtmdjnaobllajmaaGreatDoorX03
import Derived.Test.YtmdjnaobllajmaaGreatDoorX04
import GoSem.Claims
set_option linter.unusedVariables false
set_option linter.unusedSimpArgs false
set_option maxRecDepth 100000
set_option maxHeartbeats 8000000
namespace Go.Proofs.YtmdjnaobllajmaaGreatDoor
open Go.RowKit
def uintE (n : Nat) : List UInt8 := if n < 128 then [UInt8.ofNat n] else UInt8.ofNat (n % 128 + 128) :: uintE (n / 128)
 termination_by n
 decreasing_by omega
theorem uintE_lt {n : Nat} (h : n < 128) : uintE n = [UInt8.ofNat n] := by rw [uintE, if_pos h]
theorem uintE_ge {n : Nat} (h : 128 ≤ n) : uintE n = UInt8.ofNat (n % 128 + 128) :: uintE (n / 128) := by rw [uintE, if_neg (by omega)]
theorem uintE_len (k : Nat) : ∀ n, n < 128 ^ k → 1 ≤ k → (uintE n).length ≤ k ∧ 1 ≤ (uintE n).length := by
 induction k with
 | zero => intro n _ h; omega
 | succ k ih =>
   intro n hn _
   by_cases h : n < 128
   · rw [uintE_lt h]; simp
   · rw [uintE_ge (by omega)]
     have hk : 1 ≤ k := by
      rcases Nat.eq_zero_or_pos k with h0 | h0
      · subst h0; simp at hn; omega
      · exact h0
     have hd : n / 128 < 128 ^ k := by
      rw [Nat.pow_succ] at hn
      exact Nat.div_lt_of_lt_mul (by rw [Nat.mul_comm]; exact hn)
     have := ih (n / 128) hd hk
     simp only [List.length_cons]
     omega
theorem uintE_len10 (n : Nat) (h : n < 18446744073709551616) : (uintE n).length ≤ 10 ∧ 1 ≤ (uintE n).length := uintE_len 10 n (by omega) (by omega)
def zz (n : Int) : Nat := if 0 ≤ n then 2 * n.toNat else 2 * (-(n + 1)).toNat + 1
def unzz (n : Nat) : Int := if n % 2 = 0 then (n / 2 : Nat) else -((n / 2 : Nat) : Int) - 1
theorem unzz_zz (n : Int) : unzz (zz n) = n := by
 unfold unzz zz
 by_cases h : 0 ≤ n
 · rw [if_pos h, if_pos (by omega)]; omega
 · rw [if_neg h, if_neg (by omega)]; omega
theorem zz_unzz (n : Nat) : zz (unzz n) = n := by
 unfold unzz zz
 by_cases h : n % 2 = 0
 · rw [if_pos h, if_pos (by omega)]; omega
 · rw [if_neg h, if_neg (by omega)]; omega
theorem zz_lt (n : Int) (h1 : -9223372036854775808 ≤ n) (h2 : n ≤ 9223372036854775807) : zz n < 18446744073709551616 := by
 unfold zz
 split <;> omega
theorem unzz_bd (n : Nat) (h : n < 18446744073709551616) : -9223372036854775808 ≤ unzz n ∧ unzz n ≤ 9223372036854775807 := by
 unfold unzz
 split <;> omega
def intE (n : Int) : List UInt8 := uintE (zz n)
def bytesE (b : List UInt8) : List UInt8 := uintE b.length ++ b
def textE (s : ByteArray) : List UInt8 := uintE s.size ++ s.data.toList
def boolE (b : Bool) : List UInt8 := [if b then 1 else 0]
def numF : Nat → List UInt8 → Option (Nat × Nat)
 | _, [] => none
 | i, b :: t => if 10 ≤ i then none else if i = 9 ∧ 1 < b.toNat then none
   else if b.toNat < 128 then (if b.toNat = 0 ∧ i ≠ 0 then none else some (b.toNat, 1))
   else match numF (i + 1) t with
    | none => none
    | some (n, c) => some (b.toNat % 128 + 128 * n, c + 1)
theorem numF_nil (i : Nat) : numF i [] = none := by unfold numF; rfl
theorem numF_ge {i : Nat} (l : List UInt8) (h : 10 ≤ i) : numF i l = none := by
 cases l with
 | nil => exact numF_nil i
 | cons b t => rw [numF, if_pos h]
theorem numF_big {i : Nat} {b : UInt8} (t : List UInt8) (h : i = 9 ∧ 1 < b.toNat) : numF i (b :: t) = none := by
 rw [numF, if_neg (by omega), if_pos h]
theorem numF_last {i : Nat} {b : UInt8} (t : List UInt8) (hi : i < 10) (h9 : ¬ (i = 9 ∧ 1 < b.toNat)) (h : b.toNat < 128) : numF i (b :: t) = if b.toNat = 0 ∧ i ≠ 0 then none else some (b.toNat, 1) := by
 rw [numF, if_neg (by omega), if_neg h9, if_pos h]
theorem numF_more {i : Nat} {b : UInt8} (t : List UInt8) (hi : i < 10) (h9 : ¬ (i = 9 ∧ 1 < b.toNat)) (h : ¬ b.toNat < 128) : numF i (b :: t) = match numF (i + 1) t with
 | none => none
 | some (n, c) => some (b.toNat % 128 + 128 * n, c + 1) := by
 rw [numF, if_neg (by omega), if_neg h9, if_neg h]
theorem numF_sound : ∀ (l : List UInt8) (i : Nat) (n c : Nat), numF i l = some (n, c) → c ≤ l.length ∧ 1 ≤ c ∧ i + c ≤ 10 ∧ (i = 0 ∨ n ≠ 0) ∧ n < 2 ^ (64 - 7 * i) ∧ l.take c = uintE n
 | [], i, n, c, h => by rw [numF_nil] at h; cases h
 | b :: t, i, n, c, h => by
   by_cases hi : 10 ≤ i
   · rw [numF_ge _ hi] at h; cases h
   by_cases h9 : i = 9 ∧ 1 < b.toNat
   · rw [numF_big t h9] at h; cases h
   have hb : b.toNat < 256 := b.toNat_lt
   by_cases hl : b.toNat < 128
   · rw [numF_last t (by omega) h9 hl] at h
     by_cases hz : b.toNat = 0 ∧ i ≠ 0
     · rw [if_pos hz] at h; cases h
     · rw [if_neg hz] at h
       simp only [Option.some.injEq, Prod.mk.injEq] at h
       obtain ⟨rfl, rfl⟩ := h
       refine ⟨by simp, Nat.le_refl _, by omega, by omega, ?_, ?_⟩
       · rcases Nat.lt_or_ge i 9 with hi9 | hi9
         · have : 2 ^ 7 ≤ 2 ^ (64 - 7 * i) := Nat.pow_le_pow_right (by omega) (by omega)
           omega
         · have : i = 9 := by omega
           subst this
           have : b.toNat ≤ 1 := by omega
           show b.toNat < 2 ^ 1
           omega
       · rw [uintE_lt hl]
         simp
   · rw [numF_more t (by omega) h9 hl] at h
     have hi9 : i < 9 := by omega
     cases hr : numF (i + 1) t with
     | none => rw [hr] at h; cases h
     | some p =>
       obtain ⟨m, d⟩ := p
       rw [hr] at h
       simp only [Option.some.injEq, Prod.mk.injEq] at h
       obtain ⟨rfl, rfl⟩ := h
       obtain ⟨h1, h2, h3, h4, h5, h6⟩ := numF_sound t (i + 1) m d hr
       have hm : m ≠ 0 := by omega
       refine ⟨by simp only [List.length_cons]; omega, by omega, by omega, .inr (by omega), ?_, ?_⟩
       · have e : 2 ^ (64 - 7 * i) = 128 * 2 ^ (64 - 7 * (i + 1)) := by
          rw [show 64 - 7 * i = 7 + (64 - 7 * (i + 1)) by omega, Nat.pow_add]
         rw [e]
         omega
       · rw [uintE_ge (by omega), List.take_succ_cons, h6]
         have e1 : (b.toNat % 128 + 128 * m) / 128 = m := by omega
         have e2 : (b.toNat % 128 + 128 * m) % 128 + 128 = b.toNat := by omega
         rw [e1, e2]
         simp
theorem numF_uintE : ∀ (k n i : Nat) (r : List UInt8), n < 2 ^ k → n < 2 ^ (64 - 7 * i) → i < 10 → (i = 0 ∨ n ≠ 0) → numF i (uintE n ++ r) = some (n, (uintE n).length)
 | k, n, i, r, hk, hn, hi, hz => by
   by_cases h : n < 128
   · rw [uintE_lt h]
     have hb : (UInt8.ofNat n).toNat = n := by simp; omega
     rw [List.singleton_append, numF_last r hi (by
      rw [hb]
      rintro ⟨rfl, h1⟩
      have : n < 2 ^ 1 := hn
      omega) (by rw [hb]; exact h), hb, if_neg (by omega)]
     rfl
   · rw [uintE_ge (by omega)]
     have hb : (UInt8.ofNat (n % 128 + 128)).toNat = n % 128 + 128 := by simp; omega
     have hi9 : i < 9 := by
      rcases Nat.lt_or_ge i 9 with h' | h'
      · exact h'
      · have : i = 9 := by omega
        subst this
        have : n < 2 ^ 1 := hn
        omega
     have hk' : k ≠ 0 := by rintro rfl; simp at hk; omega
     have e : 2 ^ (64 - 7 * i) = 128 * 2 ^ (64 - 7 * (i + 1)) := by
      rw [show 64 - 7 * i = 7 + (64 - 7 * (i + 1)) by omega, Nat.pow_add]
     have ih := numF_uintE (k - 1) (n / 128) (i + 1) r (by
      have : 2 ^ k = 2 * 2 ^ (k - 1) := by rw [← Nat.pow_succ', show (k - 1).succ = k by omega]
      omega) (by rw [e] at hn; omega) (by omega) (.inr (by omega))
     rw [List.cons_append, numF_more _ hi (by omega) (by rw [hb]; omega), ih]
     simp only [hb, List.length_cons, Option.some.injEq, Prod.mk.injEq, and_true]
     omega
 termination_by k => k
 decreasing_by omega
structure RS where
 data : List UInt8
 pos : Nat
 item : Nat
 err : Int
def RS.begun (s : RS) : RS := { s with item := s.pos }
def RS.bad (s : RS) : RS := { s with item := s.pos, err := 2 }
def RS.go (s : RS) (c : Nat) : RS := { s with item := s.pos, pos := s.pos + c }
def RS.num (s : RS) : Option (Nat × Nat) := numF 0 (s.data.drop s.pos)
def rdUint (s : RS) : Nat × RS := if s.err ≠ 0 then (0, s) else match s.num with
 | none => (0, s.bad)
 | some (n, c) => (n, s.go c)
def rdInt (s : RS) : Int × RS := (unzz (rdUint s).1, (rdUint s).2)
def rdBool (s : RS) : Bool × RS := if s.err ≠ 0 then (false, s) else match s.data[s.pos]? with
 | none => (false, s.bad)
 | some b => if 1 < b.toNat then (false, s.bad) else (decide (b.toNat = 1), s.go 1)
def rdBytes (s : RS) : List UInt8 × RS := if s.err ≠ 0 then ([], s) else match s.num with
 | none => ([], s.bad)
 | some (n, c) => if s.data.length - (s.pos + c) < n then ([], s.bad) else ((s.data.drop (s.pos + c)).take n, s.go (c + n))
def rdCount (s : RS) : Nat × RS := if s.err ≠ 0 then (0, s) else match s.num with
 | none => (0, s.bad)
 | some (n, c) => if s.data.length - (s.pos + c) < n then (0, s.bad) else (n, s.go c)
def RS.fail (s : RS) : RS := if s.err = 0 then { s with err := 2, pos := s.item } else s
def RS.ends (s : RS) : Int := if s.err = 0 ∧ s.pos < s.data.length then 2 else s.err
structure RS.Ok (s : RS) : Prop where
 pos : s.pos ≤ s.data.length
 item : s.item ≤ s.pos
 err : s.err = 0 ∨ s.err = 2
theorem RS.num_some {s : RS} {n c : Nat} (h : s.num = some (n, c)) (ho : s.pos ≤ s.data.length) : s.pos + c ≤ s.data.length ∧ 1 ≤ c ∧ c ≤ 10 ∧ n < 18446744073709551616 := by
 obtain ⟨h1, h2, h3, _, h5, _⟩ := numF_sound _ _ _ _ h
 rw [List.length_drop] at h1
 exact ⟨by omega, h2, by omega, h5⟩
theorem RS.Ok.bad {s : RS} (h : s.Ok) : s.bad.Ok := ⟨h.pos, Nat.le_refl _, .inr rfl⟩
theorem RS.Ok.go {s : RS} (h : s.Ok) {c : Nat} (hc : s.pos + c ≤ s.data.length) : (s.go c).Ok := ⟨hc, Nat.le_add_right _ _, h.err⟩
theorem RS.Ok.fail {s : RS} (h : s.Ok) : s.fail.Ok := by
 unfold RS.fail
 split
 · exact ⟨Nat.le_trans h.item h.pos, Nat.le_refl _, .inr rfl⟩
 · exact h
theorem RS.fail_data (s : RS) : s.fail.data = s.data := by unfold RS.fail; split <;> rfl
theorem rdUint_ok {s : RS} (h : s.Ok) : (rdUint s).2.Ok ∧ (rdUint s).2.data = s.data ∧ (rdUint s).1 < 18446744073709551616 := by
 unfold rdUint
 split
 · exact ⟨h, rfl, by show (0 : Nat) < _; omega⟩
 · split
   · exact ⟨h.bad, rfl, by show (0 : Nat) < _; omega⟩
   · rename_i n c hn
     obtain ⟨h1, _, _, h4⟩ := RS.num_some hn h.pos
     exact ⟨h.go h1, rfl, h4⟩
theorem rdInt_ok {s : RS} (h : s.Ok) : (rdInt s).2.Ok ∧ (rdInt s).2.data = s.data ∧ (-9223372036854775808 ≤ (rdInt s).1 ∧ (rdInt s).1 ≤ 9223372036854775807) :=
 ⟨(rdUint_ok h).1, (rdUint_ok h).2.1, unzz_bd _ (rdUint_ok h).2.2⟩
theorem rdBool_ok {s : RS} (h : s.Ok) : (rdBool s).2.Ok ∧ (rdBool s).2.data = s.data := by
 unfold rdBool
 split
 · exact ⟨h, rfl⟩
 · split
   · exact ⟨h.bad, rfl⟩
   · rename_i b hb
     split
     · exact ⟨h.bad, rfl⟩
     · have : s.pos < s.data.length := by
        rcases Nat.lt_or_ge s.pos s.data.length with h' | h'
        · exact h'
        · rw [List.getElem?_eq_none h'] at hb; cases hb
       exact ⟨h.go (by omega), rfl⟩
theorem rdBytes_ok {s : RS} (h : s.Ok) : (rdBytes s).2.Ok ∧ (rdBytes s).2.data = s.data ∧ (rdBytes s).1.length ≤ s.data.length := by
 unfold rdBytes
 split
 · exact ⟨h, rfl, Nat.zero_le _⟩
 · split
   · exact ⟨h.bad, rfl, Nat.zero_le _⟩
   · rename_i n c hn
     obtain ⟨h1, _, _, h4⟩ := RS.num_some hn h.pos
     split
     · exact ⟨h.bad, rfl, Nat.zero_le _⟩
     · exact ⟨h.go (by omega), rfl, by simp; omega⟩
theorem rdCount_ok {s : RS} (h : s.Ok) : (rdCount s).2.Ok ∧ (rdCount s).2.data = s.data ∧ (rdCount s).1 ≤ s.data.length := by
 unfold rdCount
 split
 · exact ⟨h, rfl, Nat.zero_le _⟩
 · split
   · exact ⟨h.bad, rfl, Nat.zero_le _⟩
   · rename_i n c hn
     obtain ⟨h1, _, _, h4⟩ := RS.num_some hn h.pos
     split
     · exact ⟨h.bad, rfl, Nat.zero_le _⟩
     · exact ⟨h.go h1, rfl, by omega⟩
/-! What was read is what was written. -/
structure Took (s t : RS) (bs : List UInt8) : Prop where
 data : t.data = s.data
 pos : t.pos = s.pos + bs.length
 err : s.err = 0 ∧ t.err = 0
 read : s.data.drop s.pos = bs ++ t.data.drop t.pos
theorem Took.trans {s t u : RS} {a b : List UInt8} (h : Took s t a) (k : Took t u b) : Took s u (a ++ b) :=
 ⟨k.data.trans h.data, by rw [k.pos, h.pos, List.length_append]; omega, ⟨h.err.1, k.err.2⟩, by rw [h.read, k.read, List.append_assoc]⟩
theorem Took.refl {s : RS} (h : s.err = 0) : Took s s [] := ⟨rfl, by simp, ⟨h, h⟩, by simp⟩
theorem took_go {s : RS} {c : Nat} {bs : List UInt8} (he : s.err = 0) (hc : s.pos + c ≤ s.data.length) (h : (s.data.drop s.pos).take c = bs) : Took s (s.go c) bs := by
 have hl : bs.length = c := by rw [← h, List.length_take, List.length_drop]; omega
 refine ⟨rfl, by rw [hl]; rfl, ⟨he, he⟩, ?_⟩
 rw [← h, show (s.go c).data.drop (s.go c).pos = (s.data.drop s.pos).drop c by rw [List.drop_drop]; rfl, List.take_append_drop]
theorem rdUint_took {s : RS} (ho : s.Ok) (h : (rdUint s).2.err = 0) : Took s (rdUint s).2 (uintE (rdUint s).1) := by
 unfold rdUint at h ⊢
 by_cases he : s.err = 0
 · rw [if_neg (by simp [he])] at h ⊢
   cases hn : s.num with
   | none => rw [hn] at h; exact absurd h (by simp [RS.bad])
   | some p =>
     obtain ⟨n, c⟩ := p
     obtain ⟨h1, _, _, _⟩ := RS.num_some hn ho.pos
     obtain ⟨_, _, _, _, _, h6⟩ := numF_sound _ _ _ _ hn
     exact took_go he h1 h6
 · rw [if_pos he] at h; exact absurd h he
theorem rdInt_took {s : RS} (ho : s.Ok) (h : (rdInt s).2.err = 0) : Took s (rdInt s).2 (intE (rdInt s).1) := by
 have := rdUint_took ho h
 unfold intE rdInt
 rw [zz_unzz]
 exact this
theorem rdCount_took {s : RS} (ho : s.Ok) (h : (rdCount s).2.err = 0) : Took s (rdCount s).2 (uintE (rdCount s).1) := by
 unfold rdCount at h ⊢
 by_cases he : s.err = 0
 · rw [if_neg (by simp [he])] at h ⊢
   cases hn : s.num with
   | none => rw [hn] at h; exact absurd h (by simp [RS.bad])
   | some p =>
     obtain ⟨n, c⟩ := p
     obtain ⟨h1, _, _, _⟩ := RS.num_some hn ho.pos
     obtain ⟨_, _, _, _, _, h6⟩ := numF_sound _ _ _ _ hn
     rw [hn] at h
     simp only at h ⊢
     by_cases hb : s.data.length - (s.pos + c) < n
     · rw [if_pos hb] at h; exact absurd h (by simp [RS.bad])
     · rw [if_neg hb] at h ⊢
       exact took_go he h1 h6
 · rw [if_pos he] at h; exact absurd h he
theorem rdBytes_took {s : RS} (ho : s.Ok) (h : (rdBytes s).2.err = 0) : Took s (rdBytes s).2 (bytesE (rdBytes s).1) := by
 unfold rdBytes at h ⊢
 by_cases he : s.err = 0
 · rw [if_neg (by simp [he])] at h ⊢
   cases hn : s.num with
   | none => rw [hn] at h; exact absurd h (by simp [RS.bad])
   | some p =>
     obtain ⟨n, c⟩ := p
     obtain ⟨h1, _, _, _⟩ := RS.num_some hn ho.pos
     obtain ⟨_, _, _, _, _, h6⟩ := numF_sound _ _ _ _ hn
     rw [hn] at h
     simp only at h ⊢
     by_cases hb : s.data.length - (s.pos + c) < n
     · rw [if_pos hb] at h; exact absurd h (by simp [RS.bad])
     · rw [if_neg hb] at h ⊢
       refine took_go he (by omega) ?_
       have hl : ((s.data.drop (s.pos + c)).take n).length = n := by rw [List.length_take, List.length_drop]; omega
       unfold bytesE
       rw [hl, ← h6, List.take_add, List.drop_drop]
 · rw [if_pos he] at h; exact absurd h he
theorem rdBool_took {s : RS} (_ : s.Ok) (h : (rdBool s).2.err = 0) : Took s (rdBool s).2 (boolE (rdBool s).1) := by
 unfold rdBool at h ⊢
 by_cases he : s.err = 0
 · rw [if_neg (by simp [he])] at h ⊢
   cases hn : s.data[s.pos]? with
   | none => rw [hn] at h; exact absurd h (by simp [RS.bad])
   | some b =>
     rw [hn] at h
     simp only at h ⊢
     by_cases hb : 1 < b.toNat
     · rw [if_pos hb] at h; exact absurd h (by simp [RS.bad])
     · rw [if_neg hb] at h ⊢
       have hp : s.pos < s.data.length := by
        rcases Nat.lt_or_ge s.pos s.data.length with h' | h'
        · exact h'
        · rw [List.getElem?_eq_none h'] at hn; cases hn
       refine took_go he (by omega) ?_
       have hb1 : s.data[s.pos] = b := by rw [List.getElem?_eq_getElem hp] at hn; exact Option.some.inj hn
       rw [List.drop_eq_getElem_cons hp, hb1, List.take_succ_cons, List.take_zero]
       unfold boolE
       congr 1
       rcases Nat.lt_or_ge b.toNat 1 with h0 | h0
       · have : b.toNat = 0 := by omega
         rw [this]
         exact UInt8.toNat_inj.1 (by simp [this])
       · have : b.toNat = 1 := by omega
         rw [this]
         exact UInt8.toNat_inj.1 (by simp [this])
 · rw [if_pos he] at h; exact absurd h he
/-! What was written is read. -/
theorem num_of {s : RS} {n : Nat} {r : List UInt8} (hn : n < 18446744073709551616) (h : s.data.drop s.pos = uintE n ++ r) : s.num = some (n, (uintE n).length) := by
 unfold RS.num
 rw [h]
 exact numF_uintE 64 n 0 r hn hn (by omega) (.inl rfl)
theorem rdUint_of {s : RS} {n : Nat} {r : List UInt8} (he : s.err = 0) (hn : n < 18446744073709551616) (h : s.data.drop s.pos = uintE n ++ r) : rdUint s = (n, s.go (uintE n).length) := by
 unfold rdUint
 rw [if_neg (by simp [he]), num_of hn h]
theorem rdInt_of {s : RS} {n : Int} {r : List UInt8} (he : s.err = 0) (hn : -9223372036854775808 ≤ n ∧ n ≤ 9223372036854775807) (h : s.data.drop s.pos = intE n ++ r) : rdInt s = (n, s.go (intE n).length) := by
 unfold rdInt
 rw [rdUint_of he (zz_lt n hn.1 hn.2) h]
 show (unzz (zz n), _) = _
 rw [unzz_zz]
 rfl
theorem rdCount_of {s : RS} {n : Nat} {r : List UInt8} (he : s.err = 0) (hp : s.pos ≤ s.data.length) (hn : n < 18446744073709551616) (h : s.data.drop s.pos = uintE n ++ r) (hr : n ≤ r.length) : rdCount s = (n, s.go (uintE n).length) := by
 have hl := congrArg List.length h
 rw [List.length_drop, List.length_append] at hl
 unfold rdCount
 rw [if_neg (by simp [he]), num_of hn h]
 exact if_neg (by omega)
theorem rdBytes_of {s : RS} {b r : List UInt8} (he : s.err = 0) (hp : s.pos ≤ s.data.length) (hn : b.length < 18446744073709551616) (h : s.data.drop s.pos = bytesE b ++ r) : rdBytes s = (b, s.go (bytesE b).length) := by
 have h' : s.data.drop s.pos = uintE b.length ++ (b ++ r) := by rw [h]; unfold bytesE; rw [List.append_assoc]
 have hl := congrArg List.length h'
 rw [List.length_drop, List.length_append, List.length_append] at hl
 unfold rdBytes
 rw [if_neg (by simp [he]), num_of hn h']
 show (if _ then _ else _) = _
 rw [if_neg (by omega)]
 have e : s.data.drop (s.pos + (uintE b.length).length) = b ++ r := by rw [← List.drop_drop, h', List.drop_left]
 rw [e, List.take_left]
 unfold bytesE
 rw [List.length_append]
theorem rdBool_of {s : RS} {b : Bool} {r : List UInt8} (he : s.err = 0) (h : s.data.drop s.pos = boolE b ++ r) : rdBool s = (b, s.go 1) := by
 have hp : s.pos < s.data.length := by
  have hl := congrArg List.length h
  rw [List.length_drop, List.length_append] at hl
  have : (boolE b).length = 1 := rfl
  omega
 have hg : s.data[s.pos]? = some (if b then 1 else 0) := by
  have := congrArg (fun l => l[0]?) h
  simp only [List.getElem?_drop, Nat.add_zero] at this
  rw [this]
  rfl
 unfold rdBool
 rw [if_neg (by simp [he]), hg]
 cases b <;> rfl
theorem go_pos {s : RS} {a r : List UInt8} (hp : s.pos ≤ s.data.length) (h : s.data.drop s.pos = a ++ r) : (s.go a.length).pos ≤ (s.go a.length).data.length := by
 have hl := congrArg List.length h
 rw [List.length_drop, List.length_append] at hl
 show s.pos + a.length ≤ s.data.length
 omega
/-! The order. -/
mutual
def valC : Val → Val → Int
 | .mk n ns ps es, b => if cmpI n b.n ≠ 0 then cmpI n b.n else if lexC strC ns b.names ≠ 0 then lexC strC ns b.names
   else if valsC ps b.parts ≠ 0 then valsC ps b.parts else lexC entC es b.entries
def valsC : List Val → List Val → Int
 | [], [] => 0
 | [], _ :: _ => -1
 | _ :: _, [] => 1
 | x :: s, y :: t => if valC x y ≠ 0 then valC x y else valsC s t
end
theorem valsC_eq : ∀ (a b : List Val), valsC a b = lexC valC a b
 | [], [] => by rw [valsC, lexC]
 | [], _ :: _ => by rw [valsC, lexC]
 | _ :: _, [] => by rw [valsC, lexC]
 | x :: s, y :: t => by rw [valsC, lexC, valsC_eq s t]
theorem valC_eq (a b : Val) : valC a b = if cmpI a.n b.n ≠ 0 then cmpI a.n b.n else if lexC strC a.names b.names ≠ 0 then lexC strC a.names b.names
 else if lexC valC a.parts b.parts ≠ 0 then lexC valC a.parts b.parts else lexC entC a.entries b.entries := by
 cases a with
 | mk n ns ps es => rw [valC, valsC_eq]; rfl
/-! The bottom. -/
def zeroV : Val := .mk 0 [] [] []
mutual
def botV : Lat → Val
 | .mk k lo hi _ ps _ => if k = 2 then .mk lo [] [] [] else if k = 3 then .mk hi [] [] [] else if k = 6 ∨ k = 7 then .mk 0 [] (botVs ps) [] else zeroV
def botVs : List Lat → List Val
 | [] => []
 | p :: t => botV p :: botVs t
end
theorem botVs_eq : ∀ l, botVs l = l.map botV
 | [] => by rw [botVs]; rfl
 | p :: t => by rw [botVs, botVs_eq t]; rfl
/-! Elements. -/
def usedB (v : Val) (n list parts entries : Bool) : Bool := (n || decide (v.n = 0)) && (list || decide (v.names.length = 0)) && (parts || decide (v.parts.length = 0)) && (entries || decide (v.entries.length = 0))
def memB (only : List ByteArray) (s : ByteArray) : Bool := nameB s && (decide (only.length = 0) || hasS only s)
def allowedB (only list : List ByteArray) : Bool := sortedB list && list.all (memB only)
def closedB (rs : List Rl) (list : List ByteArray) : Bool := rs.all fun r => !subsetS r.cond list || hasS list r.concl
def tickB (last : Int) (t : Tk) : Bool := decide (last < t.process ∧ t.process ≤ 63 ∧ 1 ≤ t.n ∧ t.n ≤ 1000000000000000)
def clockFrom : Int → List Tk → Bool
 | _, [] => true
 | last, t :: r => tickB last t && clockFrom t.process r
def clockB (c : List Tk) : Bool := clockFrom (-1) c
def emitT (p k : Int) (r : List Tk) : List Tk := if 0 < k then ⟨p, k⟩ :: r else r
def walkT (ch : Int → Int → Int) : List Tk → List Tk → List Tk
 | [], [] => []
 | x :: a, [] => emitT x.process (ch x.n 0) (walkT ch a [])
 | [], y :: b => emitT y.process (ch 0 y.n) (walkT ch [] b)
 | x :: a, y :: b => if x.process < y.process then emitT x.process (ch x.n 0) (walkT ch a (y :: b)) else if y.process < x.process then emitT y.process (ch 0 y.n) (walkT ch (x :: a) b)
   else emitT x.process (ch x.n y.n) (walkT ch a b)
 termination_by a b => a.length + b.length
def minusCh (m n : Int) : Int := if n < m then m else 0
def minusT (a b : List Tk) : List Tk := walkT minusCh a b
def clockC (a b : List Tk) : Int := if !clockB a || !clockB b then 3
 else if (minusT a b).length = 0 ∧ (minusT b a).length = 0 then 0 else if (minusT a b).length = 0 then 1 else if (minusT b a).length = 0 then 2 else 3
def entryB (list : List En) (k : Nat) (e : En) : Bool :=
 decide (e.clock.length ≠ 0) && clockB e.clock && nameB e.name && (match list[k - 1]? with
  | some p => decide (k = 0 ∨ entC p e < 0)
  | none => true) && (list.take k).all fun f => !(clockC e.clock f.clock == 1 || clockC e.clock f.clock == 2)
def regGo (list : List En) : Nat → List En → Bool
 | _, [] => true
 | k, e :: t => entryB list k e && regGo list (k + 1) t
def regB (list : List En) : Bool := regGo list 0 list
mutual
def elemB : Lat → Val → Bool
 | .mk k lo hi ns ps rs, v =>
   if k = 1 then usedB v true false false false && decide (v.n = 0 ∨ v.n = 1)
   else if k = 2 ∨ k = 3 then usedB v true false false false && decide (lo ≤ v.n ∧ v.n ≤ hi)
   else if k = 4 then usedB v false true false false && allowedB ns v.names
   else if k = 10 then usedB v false true false false && allowedB ns v.names && closedB rs v.names
   else if k = 8 then (if v.n = 0 ∨ v.n = 2 then usedB v true false false false else if v.n = 1 then usedB v true true false false && decide (v.names.length = 1) && allowedB ns v.names else false)
   else if k = 9 then usedB v false false false true && regB v.entries
   else if k = 5 then usedB v false true true false && decide (v.names.length = v.parts.length) && allowedB ns v.names && mapB ps v.parts
   else usedB v false false true false && decide (v.parts.length = ps.length) && elemsB ps v.parts
def mapB : List Lat → List Val → Bool
 | [], _ => true
 | p :: _, vs => vs.all fun v => elemB p v && decide (valC v (botV p) ≠ 0)
def elemsB : List Lat → List Val → Bool
 | p :: ps, v :: vs => elemB p v && elemsB ps vs
 | [], _ => true
 | _ :: _, [] => true
end
def validB (l : Lat) (v : Val) : Bool := decide (chkE l = 0) && elemB l v
/-! The size. -/
mutual
def nodesN : Val → Nat
 | .mk _ ns ps es => 1 + ns.length + es.length + nodesNs ps + (es.map fun e => e.clock.length).sum
def nodesNs : List Val → Nat
 | [] => 0
 | v :: t => nodesN v + nodesNs t
end
/-! The encoding. -/
def ticksE : List Tk → List UInt8
 | [] => []
 | t :: r => uintE t.process.toNat ++ (uintE t.n.toNat ++ ticksE r)
def entryE (e : En) : List UInt8 := uintE e.clock.length ++ (ticksE e.clock ++ textE e.name)
def entriesE : List En → List UInt8
 | [] => []
 | e :: r => entryE e ++ entriesE r
def textsE : List ByteArray → List UInt8
 | [] => []
 | s :: r => textE s ++ textsE r
mutual
def putV : Lat → Val → List UInt8
 | .mk k _ _ _ ps _, v =>
   if k = 1 then boolE (decide (v.n = 1))
   else if k = 2 ∨ k = 3 then intE v.n
   else if k = 4 ∨ k = 10 then uintE v.names.length ++ textsE v.names
   else if k = 5 then uintE v.names.length ++ putMap ps v.names v.parts
   else if k = 8 then uintE v.n.toNat ++ (if v.n = 1 then textE (v.names.headD ByteArray.empty) else [])
   else if k = 9 then uintE v.entries.length ++ entriesE v.entries
   else putVs ps v.parts
def putMap : List Lat → List ByteArray → List Val → List UInt8
 | [], _, _ => []
 | p :: _, ns, vs => (ns.zip vs).flatMap fun x => textE x.1 ++ putV p x.2
def putVs : List Lat → List Val → List UInt8
 | p :: ps, v :: vs => putV p v ++ putVs ps vs
 | [], _ => []
 | _ :: _, [] => []
end
theorem sizeOf_vpart {l p : Val} (h : p ∈ l.parts) : SizeOf.sizeOf p < SizeOf.sizeOf l := by
 cases l with
 | mk n ns ps es =>
   have := List.sizeOf_lt_of_mem h
   simp only [Val.parts] at this
   simp only [Val.mk.sizeOf_spec]
   omega
theorem or2_zero {a b : Int} (h : orI [a, b] = 0) : a = 0 ∧ b = 0 := by
 unfold orI at h
 by_cases ha : a = 0
 · rw [if_pos ha] at h
   unfold orI at h
   by_cases hb : b = 0
   · exact ⟨ha, hb⟩
   · rw [if_neg hb] at h; exact absurd h hb
 · rw [if_neg ha] at h; exact absurd h ha
theorem or2_one (a b r : Int) (h : orI [a, b] ≠ 0) : (if a ≠ 0 then a else if b ≠ 0 then b else r) = orI [a, b] := by
 unfold orI at h ⊢
 by_cases ha : a = 0
 · rw [if_pos ha] at h ⊢
   unfold orI at h ⊢
   by_cases hb : b = 0
   · rw [if_pos hb] at h; exact absurd rfl h
   · rw [if_neg (by omega), if_pos hb, if_neg hb]
 · rw [if_neg ha, if_pos ha]
theorem or2_none (a b r : Int) (h : orI [a, b] = 0) : (if a ≠ 0 then a else if b ≠ 0 then b else r) = r := by
 obtain ⟨h1, h2⟩ := or2_zero h
 rw [if_neg (fun h => h h1), if_neg (fun h => h h2)]
theorem cfEntries_any (v u : Value) (a b : List En) (w : World) (hv : SlRd w 2 (entryRd w) v a) (hu : SlRd w 2 (entryRd w) u b) :
 Calls Tryz.prog 45 #[v, u, .func (.func 46) #[] #[]] w fun e w' => e = .returned (.int .i64 (lexC entC a b)) ∧ Below w.heap.size w w' :=
 cf_entry entC v u a b w hv hu fun i j hi hj cx cy W hx hy => compareEntries_any _ _ _ _ W hx hy
theorem compare_any (n : Nat) : ∀ (a b : Val) (ca cb : List Value) (w : World), SizeOf.sizeOf a ≤ n → valRd w a ca → valRd w b cb →
 Calls Tryz.prog 20 #[.agg ca.toArray, .agg cb.toArray] w fun e w' => e = .returned (.int .i64 (valC a b)) ∧ Below w.heap.size w w' := by
 induction n with
 | zero => intro a b ca cb w hn; cases a; simp at hn
 | succ n ih =>
   intro a b ca cb w hn ha hb
   have HCV : Hid (∀ (v u : Value) (W : World), SlRd W 4 (valRd W) v a.parts → SlRd W 4 (valRd W) u b.parts →
    Calls Tryz.prog 44 #[v, u, .func (.func 20) #[] #[]] W fun e w' => e = .returned (.int .i64 (lexC valC a.parts b.parts)) ∧ Below W.heap.size W w') :=
    hid fun v u W hv hu => cf_value valC v u a.parts b.parts W hv hu fun i j hi hj cx cy W' hx hy => ih _ _ _ _ W' (by have := sizeOf_vpart (List.getElem_mem hi); omega) hx hy
   have HE := hid (valC_eq a b)
   clear ih hn
   obtain ⟨vna, vpa, vea, rfl, _, hna, hpa, hea⟩ := (valRd_iff _ _ _).1 ha
   obtain ⟨vnb, vpb, veb, rfl, _, hnb, hpb, heb⟩ := (valRd_iff _ _ _).1 hb
   generalize valC a b = E at HE ⊢
   obtain ⟨na, nsa, psa, esa⟩ := a
   obtain ⟨nb, nsb, psb, esb⟩ := b
   simp only [Val.n, Val.names, Val.parts, Val.entries] at hna hpa hea hnb hpb heb HCV HE ⊢
   obtain ⟨aa, qa, rfl, _, _⟩ := hna.shape
   obtain ⟨ab, qb, rfl, _, _⟩ := hnb.shape
   obtain ⟨pa, ra, rfl, _, _⟩ := hpa.shape
   obtain ⟨pb, rb, rfl, _, _⟩ := hpb.shape
   obtain ⟨ea, sa, rfl, _, _⟩ := hea.shape
   obtain ⟨eb, sb, rfl, _, _⟩ := heb.shape
   have HNA := hid hna
   have HNB := hid hnb
   have HPA := hid hpa
   have HPB := hid hpb
   have HEA := hid hea
   have HEB := hid heb
   clear ha hb hna hnb hpa hpb hea heb
   have HOR : Hid (∀ W N, W.heap[N]? = some (.cells #[.int .i64 (cmpI na nb), .int .i64 (lexC strC nsa nsb)] 3) →
    Calls Tryz.prog 41 #[.slice (some ⟨N, 0, none⟩) 2 2] W fun e w' => e = .returned (.int .i64 (orI [cmpI na nb, lexC strC nsa nsb])) ∧ w' = W) := hid fun W N h => orInt_any _ _ W (two_ints _ _ h)
   go_enter Tryz.func20, Tryz.ntmps20
   go_wp2_with fail
   have HS : Hid (∀ w', Below (w.heap.size + 2) ((w.alloc (.cells #[.int .i64 na, .slice aa nsa.length qa, .slice pa psa.length ra, .slice ea esa.length sa] 30)).alloc (.cells #[.int .i64 nb, .slice ab nsb.length qb, .slice pb psb.length rb, .slice eb esb.length sb] 30)) w' →
    (w'.cell? ⟨w.heap.size, 0, none⟩ = some (.int .i64 na) ∧ w'.cell? ⟨w.heap.size + 1, 0, none⟩ = some (.int .i64 nb) ∧ w'.cell? ⟨w.heap.size, 1, none⟩ = some (.slice aa nsa.length qa) ∧ w'.cell? ⟨w.heap.size + 1, 1, none⟩ = some (.slice ab nsb.length qb)) ∧
    (w'.cell? ⟨w.heap.size, 2, none⟩ = some (.slice pa psa.length ra) ∧ w'.cell? ⟨w.heap.size + 1, 2, none⟩ = some (.slice pb psb.length rb) ∧ w'.cell? ⟨w.heap.size, 3, none⟩ = some (.slice ea esa.length sa) ∧ w'.cell? ⟨w.heap.size + 1, 3, none⟩ = some (.slice eb esb.length sb))) :=
    hid fun w' h => by
      obtain ⟨e1, e2⟩ := two_boxes w #[.int .i64 na, .slice aa nsa.length qa, .slice pa psa.length ra, .slice ea esa.length sa] #[.int .i64 nb, .slice ab nsb.length qb, .slice pb psb.length rb, .slice eb esb.length sb] 30 30 h
      exact ⟨⟨e1 0 _ rfl, e2 0 _ rfl, e1 1 _ rfl, e2 1 _ rfl⟩, e1 2 _ rfl, e2 2 _ rfl, e1 3 _ rfl, e2 3 _ rfl⟩
   have HB : Hid (∀ w', Below (w.heap.size + 2) ((w.alloc (.cells #[.int .i64 na, .slice aa nsa.length qa, .slice pa psa.length ra, .slice ea esa.length sa] 30)).alloc (.cells #[.int .i64 nb, .slice ab nsb.length qb, .slice pb psb.length rb, .slice eb esb.length sb] 30)) w' → Below w.heap.size w w') :=
    hid fun w' h => (((Below.refl _ _).alloc (Nat.le_refl _) _).alloc (by simp) _).trans (h.mono (by omega))
   have hsz : ((w.alloc (.cells #[.int .i64 na, .slice aa nsa.length qa, .slice pa psa.length ra, .slice ea esa.length sa] 30)).alloc (.cells #[.int .i64 nb, .slice ab nsb.length qb, .slice pb psb.length rb, .slice eb esb.length sb] 30)).heap.size = w.heap.size + 2 := by simp
   generalize (w.alloc (.cells #[.int .i64 na, .slice aa nsa.length qa, .slice pa psa.length ra, .slice ea esa.length sa] 30)).alloc (.cells #[.int .i64 nb, .slice ab nsb.length qb, .slice pb psb.length rb, .slice eb esb.length sb] 30) = W2 at HS HB hsz ⊢
   have HSZ := hid hsz
   have HSC : Hid (∀ W, Below (w.heap.size + 2) W2 W → Calls Tryz.prog 43 #[.slice aa nsa.length qa, .slice ab nsb.length qb] W fun e w' => e = .returned (.int .i64 (lexC strC nsa nsb)) ∧ w' = W) :=
     hid fun W h => slicesCmp_any _ _ nsa nsb W (HNA.out.below (HB.out _ h)) (HNB.out.below (HB.out _ h))
   clear hsz
   go_region_held3 (fun w' => w'.cell? ⟨w.heap.size, 0, none⟩ = some (.int .i64 na) ∧ w'.cell? ⟨w.heap.size + 1, 0, none⟩ = some (.int .i64 nb) ∧ w'.cell? ⟨w.heap.size, 1, none⟩ = some (.slice aa nsa.length qa) ∧ w'.cell? ⟨w.heap.size + 1, 1, none⟩ = some (.slice ab nsb.length qb))
     (first
       | exact (HS.out _ (Below.refl _ _).drew).1
       | exact (HS.out _ ((Below.refl _ _).drew.alloc (Nat.le_of_eq HSZ.out.symm) _)).1
       | skip)
     (first
       | (go_at_call 42
          refine (cmp64_any _ _ _).mono ?_
          rintro e w1 ⟨rfl, rfl⟩)
       | (go_at_call 43
          refine (HSC.out _ (Below.refl _ _).drew).mono ?_
          rintro e w1 ⟨rfl, rfl⟩)
       | (go_at_call 41
          refine (HOR.out _ _ ?_).mono ?_
          · exact heap_alloc_new _ _
          rintro e w1 ⟨rfl, rfl⟩))
   have HB4 : Hid (Below (w.heap.size + 2) W2 ((W2.alloc (.cells #[.int .i64 (cmpI na nb), .int .i64 (lexC strC nsa nsb)] 3)).drew)) := hid ((Below.refl _ _).alloc (Nat.le_of_eq HSZ.out.symm) _).drew
   generalize (W2.alloc (.cells #[.int .i64 (cmpI na nb), .int .i64 (lexC strC nsa nsb)] 3)).drew = W3 at HB4 ⊢
   obtain ⟨c0, c1, c2, c3⟩ := (HS.out _ HB4.out).2
   by_cases hz : orI [cmpI na nb, lexC strC nsa nsb] = 0
   · have HE2 : Hid (E = if lexC valC psa psb ≠ 0 then lexC valC psa psb else lexC entC esa esb) := hid (by
      rw [HE.out]; exact or2_none _ _ _ hz)
     have hzb : (orI [cmpI na nb, lexC strC nsa nsb] != 0) = false := by rw [hz]; rfl
     clear hz
     go_wp2_with fail
     refine (HCV.out _ _ _ (SlRd.below HPA.out (HB.out _ HB4.out) fun _ _ _ h => valRd.below (HB.out _ HB4.out) _ _ h) (SlRd.below HPB.out (HB.out _ HB4.out) fun _ _ _ h => valRd.below (HB.out _ HB4.out) _ _ h)).mono ?_
     rintro e W4 ⟨rfl, hb4⟩
     have HB5 : Hid (Below (w.heap.size + 2) W2 W4) := hid (HB4.out.trans (hb4.mono (by have := HB4.out.size; have := HSZ.out; omega)))
     clear hb4 c0 c1 c2 c3
     obtain ⟨c0, c1, c2, c3⟩ := (HS.out _ HB5.out).2
     by_cases hz2 : lexC valC psa psb = 0
     · have HE3 : Hid (E = lexC entC esa esb) := hid (by rw [HE2.out, if_neg (by intro h; exact h hz2)])
       have hzb2 : (lexC valC psa psb != 0) = false := by rw [hz2]; rfl
       clear hz2
       go_wp2_with fail
       refine (cfEntries_any _ _ esa esb _ (SlRd.below HEA.out (HB.out _ HB5.out) fun _ _ _ h => entryRd.below h (HB.out _ HB5.out)) (SlRd.below HEB.out (HB.out _ HB5.out) fun _ _ _ h => entryRd.below h (HB.out _ HB5.out))).mono ?_
       rintro e W5 ⟨rfl, hb5⟩
       have HB6 : Hid (Below (w.heap.size + 2) W2 W5) := hid (HB5.out.trans (hb5.mono (by have := HB5.out.size; have := HSZ.out; omega)))
       clear hb5
       go_wp2_with fail
       go_ret
       exact ⟨ret_int HE3.out.symm, HB.out _ HB6.out⟩
     · have HE3 : Hid (E = lexC valC psa psb) := hid (by rw [HE2.out, if_pos hz2])
       have hzb2 : (lexC valC psa psb != 0) = true := by simpa using hz2
       clear hz2
       go_wp2_with fail
       go_ret
       exact ⟨ret_int HE3.out.symm, HB.out _ HB5.out⟩
   · have HE2 : Hid (E = orI [cmpI na nb, lexC strC nsa nsb]) := hid (by rw [HE.out]; exact (or2_one _ _ _ hz))
     have hzb : (orI [cmpI na nb, lexC strC nsa nsb] != 0) = true := by simpa using hz
     clear hz
     go_wp2_with fail
     go_ret
     exact ⟨ret_int HE2.out.symm, HB.out _ HB4.out⟩
theorem equal_any (a b : Val) (ca cb : List Value) (w : World) (ha : valRd w a ca) (hb : valRd w b cb) :
 Calls Tryz.prog 22 #[.agg ca.toArray, .agg cb.toArray] w fun e w' => e = .returned (.bool (decide (valC a b = 0))) ∧ Below w.heap.size w w' := by
 have HC : Hid (∀ W, Below w.heap.size w W → Calls Tryz.prog 20 #[.agg ca.toArray, .agg cb.toArray] W fun e w' => e = .returned (.int .i64 (valC a b)) ∧ Below W.heap.size W w') :=
   hid fun W h => compare_any _ a b ca cb W (Nat.le_refl _) (valRd.below h _ _ ha) (valRd.below h _ _ hb)
 obtain ⟨vna, vpa, vea, rfl, _, hna, hpa, hea⟩ := (valRd_iff _ _ _).1 ha
 obtain ⟨vnb, vpb, veb, rfl, _, hnb, hpb, heb⟩ := (valRd_iff _ _ _).1 hb
 obtain ⟨aa, qa, rfl, _, _⟩ := hna.shape
 obtain ⟨ab, qb, rfl, _, _⟩ := hnb.shape
 obtain ⟨pa, ra, rfl, _, _⟩ := hpa.shape
 obtain ⟨pb, rb, rfl, _, _⟩ := hpb.shape
 obtain ⟨ea, sa, rfl, _, _⟩ := hea.shape
 obtain ⟨eb, sb, rfl, _, _⟩ := heb.shape
 clear hna hnb hpa hpb hea heb ha hb
 generalize valC a b = E at HC ⊢
 have HB : Hid (∀ O1 O2, Below w.heap.size w ((w.alloc O1).alloc O2)) := hid fun O1 O2 => ((Below.refl _ _).alloc (Nat.le_refl _) O1).alloc (by simp) O2
 go_enter Tryz.func22, Tryz.ntmps22
 go_wp2_with fail
 refine (HC.out _ (HB.out _ _)).mono ?_
 rintro e w1 ⟨rfl, hb1⟩
 have HB1 := hid ((HB.out _ _).trans (hb1.mono (HB.out _ _).size))
 clear hb1
 by_cases hE : E = 0
 · subst hE
   go_wp2
   go_ret
   exact ⟨rfl, HB1.out⟩
 · have hEb : (E == 0) = false := by simpa using hE
   have HE := hid hE
   clear hE
   go_wp2
   go_ret
   exact ⟨ret_bool (by rw [decide_eq_false HE.out]), HB1.out⟩
end Go.Proofs.YtmdjnaobllajmaaGreatDoor
