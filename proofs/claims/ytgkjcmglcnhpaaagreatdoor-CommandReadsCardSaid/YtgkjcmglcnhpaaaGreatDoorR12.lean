/-
  What the statements of the chapter share, part 12: WSpec, RSpec, PRd, DTab, D13, D14, WR0.
-/
import Derived.Test.YtgkjcmglcnhpaaaGreatDoorR06
import Derived.Test.YtgkjcmglcnhpaaaGreatDoorR07
import GoSem.Claims
set_option linter.unusedVariables false
set_option linter.unusedSimpArgs false
set_option maxRecDepth 100000
set_option maxHeartbeats 8000000
namespace Go.Proofs.YtgkjcmglcnhpaaaGreatDoor
open _root_.List renaming length_append → Z1, length_drop → Z2, append_assoc → Z3, length_cons → Z4, getElem?_eq_some_iff → Z5, getElem?_append_left → Z8, flatMap_cons → Z9
open _root_.Nat renaming le_refl → Z6, zero_le → Z7
open _root_.Go.Proofs.Tryz renaming prog → Z0
open Go.RowKit
section
def X3 (n : Nat) : List UInt8 := if n < 128 then [UInt8.ofNat n] else UInt8.ofNat (n % 128 + 128) :: X3 (n / 128)
 termination_by n
 decreasing_by omega
theorem Wg {n : Nat} (h : n < 128) : X3 n = [UInt8.ofNat n] := by rw [X3, if_pos h]
theorem Zb1 {n : Nat} (h : 128 ≤ n) : X3 n = UInt8.ofNat (n % 128 + 128) :: X3 (n / 128) := by rw [X3, if_neg (by omega)]
theorem uintE_len (k : Nat) : ∀ n, n < 128 ^ k → 1 ≤ k → (X3 n).length ≤ k ∧ 1 ≤ (X3 n).length := by
 induction k with
 | zero => intro n _ h; omega
 | succ k ih =>
   intro n hn _
   by_cases h : n < 128
   · rw [Wg h]; simp
   · rw [Zb1 (by omega)]
     have hk : 1 ≤ k := by
      rcases Nat.eq_zero_or_pos k with h0 | h0
      · subst h0; simp at hn; omega
      · exact h0
     have hd : n / 128 < 128 ^ k := by
      rw [Nat.pow_succ] at hn
      exact Nat.div_lt_of_lt_mul (by rw [Nat.mul_comm]; exact hn)
     have := ih (n / 128) hd hk
     simp only [Z4]
     omega
theorem X7 (n : Nat) (h : n < 18446744073709551616) : (X3 n).length ≤ 10 ∧ 1 ≤ (X3 n).length := uintE_len 10 n (by omega) (by omega)
def zz (n : Int) : Nat := if 0 ≤ n then 2 * n.toNat else 2 * (-(n + 1)).toNat + 1
def unzz (n : Nat) : Int := if n % 2 = 0 then (n / 2 : Nat) else -((n / 2 : Nat) : Int) - 1
theorem unzz_zz (n : Int) : unzz (zz n) = n := by
 unfold unzz zz
 by_cases h : 0 ≤ n
 · rw [if_pos h, if_pos (by omega)]; omega
 · rw [if_neg h, if_neg (by omega)]; omega
theorem zz_lt (n : Int) (h1 : -9223372036854775808 ≤ n) (h2 : n ≤ 9223372036854775807) : zz n < 18446744073709551616 := by
 unfold zz
 split <;> omega
theorem unzz_bd (n : Nat) (h : n < 18446744073709551616) : -9223372036854775808 ≤ unzz n ∧ unzz n ≤ 9223372036854775807 := by
 unfold unzz
 split <;> omega
def intE (n : Int) : List UInt8 := X3 (zz n)
def W5 (b : List UInt8) : List UInt8 := X3 b.length ++ b
def Yv (s : ByteArray) : List UInt8 := X3 s.size ++ s.data.toList
def boolE (b : Bool) : List UInt8 := [if b then 1 else 0]
def numF : Nat → List UInt8 → Option (Nat × Nat)
 | _, [] => none
 | i, b :: t => if 10 ≤ i then none else if i = 9 ∧ 1 < b.toNat then none
   else if b.toNat < 128 then (if b.toNat = 0 ∧ i ≠ 0 then none else some (b.toNat, 1))
   else match numF (i + 1) t with
    | none => none
    | some (n, c) => some (b.toNat % 128 + 128 * n, c + 1)
theorem Ya5 (i : Nat) : numF i [] = none := by unfold numF; rfl
theorem numF_ge {i : Nat} (l : List UInt8) (h : 10 ≤ i) : numF i l = none := by
 cases l with
 | nil => exact Ya5 i
 | cons b t => rw [numF, if_pos h]
theorem numF_big {i : Nat} {b : UInt8} (t : List UInt8) (h : i = 9 ∧ 1 < b.toNat) : numF i (b :: t) = none := by
 rw [numF, if_neg (by omega), if_pos h]
theorem Zr2 {i : Nat} {b : UInt8} (t : List UInt8) (hi : i < 10) (h9 : ¬ (i = 9 ∧ 1 < b.toNat)) (h : b.toNat < 128) : numF i (b :: t) = if b.toNat = 0 ∧ i ≠ 0 then none else some (b.toNat, 1) := by
 rw [numF, if_neg (by omega), if_neg h9, if_pos h]
theorem Zr1 {i : Nat} {b : UInt8} (t : List UInt8) (hi : i < 10) (h9 : ¬ (i = 9 ∧ 1 < b.toNat)) (h : ¬ b.toNat < 128) : numF i (b :: t) = match numF (i + 1) t with
 | none => none
 | some (n, c) => some (b.toNat % 128 + 128 * n, c + 1) := by
 rw [numF, if_neg (by omega), if_neg h9, if_neg h]
theorem Zw3 : ∀ (l : List UInt8) (i : Nat) (n c : Nat), numF i l = some (n, c) → c ≤ l.length ∧ 1 ≤ c ∧ i + c ≤ 10 ∧ (i = 0 ∨ n ≠ 0) ∧ n < 2 ^ (64 - 7 * i) ∧ l.take c = X3 n
 | [], i, n, c, h => by rw [Ya5] at h; cases h
 | b :: t, i, n, c, h => by
   by_cases hi : 10 ≤ i
   · rw [numF_ge _ hi] at h; cases h
   by_cases h9 : i = 9 ∧ 1 < b.toNat
   · rw [numF_big t h9] at h; cases h
   have hb : b.toNat < 256 := b.toNat_lt
   by_cases hl : b.toNat < 128
   · rw [Zr2 t (by omega) h9 hl] at h
     by_cases hz : b.toNat = 0 ∧ i ≠ 0
     · rw [if_pos hz] at h; cases h
     · rw [if_neg hz] at h
       simp only [Option.some.injEq, Prod.mk.injEq] at h
       obtain ⟨rfl, rfl⟩ := h
       refine ⟨by simp, Z6 _, by omega, by omega, ?_, ?_⟩
       · rcases Nat.lt_or_ge i 9 with hi9 | hi9
         · have : 2 ^ 7 ≤ 2 ^ (64 - 7 * i) := Nat.pow_le_pow_right (by omega) (by omega)
           omega
         · have : i = 9 := by omega
           subst this
           have : b.toNat ≤ 1 := by omega
           show b.toNat < 2 ^ 1
           omega
       · rw [Wg hl]
         simp
   · rw [Zr1 t (by omega) h9 hl] at h
     have hi9 : i < 9 := by omega
     cases hr : numF (i + 1) t with
     | none => rw [hr] at h; cases h
     | some p =>
       obtain ⟨m, d⟩ := p
       rw [hr] at h
       simp only [Option.some.injEq, Prod.mk.injEq] at h
       obtain ⟨rfl, rfl⟩ := h
       obtain ⟨h1, h2, h3, h4, h5, h6⟩ := Zw3 t (i + 1) m d hr
       have hm : m ≠ 0 := by omega
       refine ⟨by simp only [Z4]; omega, by omega, by omega, .inr (by omega), ?_, ?_⟩
       · have e : 2 ^ (64 - 7 * i) = 128 * 2 ^ (64 - 7 * (i + 1)) := by
          rw [show 64 - 7 * i = 7 + (64 - 7 * (i + 1)) by omega, Nat.pow_add]
         rw [e]
         omega
       · rw [Zb1 (by omega), List.take_succ_cons, h6]
         have e1 : (b.toNat % 128 + 128 * m) / 128 = m := by omega
         have e2 : (b.toNat % 128 + 128 * m) % 128 + 128 = b.toNat := by omega
         rw [e1, e2]
         simp
theorem Zw2 : ∀ (k n i : Nat) (r : List UInt8), n < 2 ^ k → n < 2 ^ (64 - 7 * i) → i < 10 → (i = 0 ∨ n ≠ 0) → numF i (X3 n ++ r) = some (n, (X3 n).length)
 | k, n, i, r, hk, hn, hi, hz => by
   by_cases h : n < 128
   · rw [Wg h]
     have hb : (UInt8.ofNat n).toNat = n := by simp; omega
     rw [List.singleton_append, Zr2 r hi (by
      rw [hb]
      rintro ⟨rfl, h1⟩
      have : n < 2 ^ 1 := hn
      omega) (by rw [hb]; exact h), hb, if_neg (by omega)]
     rfl
   · rw [Zb1 (by omega)]
     have hb : (UInt8.ofNat (n % 128 + 128)).toNat = n % 128 + 128 := by simp; omega
     have hi9 : i < 9 := by
      rcases Nat.lt_or_ge i 9 with h' | h'
      · exact h'
      · have : i = 9 := by omega
        subst this
        have : n < 2 ^ 1 := hn
        omega
     have hk' : k ≠ 0 := by rintro rfl; simp at hk; omega
     have e : 2 ^ (64 - 7 * i) = 128 * 2 ^ (64 - 7 * (i + 1)) := by
      rw [show 64 - 7 * i = 7 + (64 - 7 * (i + 1)) by omega, Nat.pow_add]
     have ih := Zw2 (k - 1) (n / 128) (i + 1) r (by
      have : 2 ^ k = 2 * 2 ^ (k - 1) := by rw [← Nat.pow_succ', show (k - 1).succ = k by omega]
      omega) (by rw [e] at hn; omega) (by omega) (.inr (by omega))
     rw [List.cons_append, Zr1 _ hi (by omega) (by rw [hb]; omega), ih]
     simp only [hb, Z4, Option.some.injEq, Prod.mk.injEq, and_true]
     omega
 termination_by k => k
 decreasing_by omega
end
section
structure RS where
 data : List UInt8
 pos : Nat
 item : Nat
 err : Int
def RS.begun (s : RS) : RS := { s with item := s.pos }
def RS.bad (s : RS) : RS := { s with item := s.pos, err := 2 }
def RS.go (s : RS) (c : Nat) : RS := { s with item := s.pos, pos := s.pos + c }
def RS.num (s : RS) : Option (Nat × Nat) := numF 0 (s.data.drop s.pos)
def Xc (s : RS) : Nat × RS := if s.err ≠ 0 then (0, s) else match s.num with
 | none => (0, s.bad)
 | some (n, c) => (n, s.go c)
def Yo (s : RS) : Int × RS := (unzz (Xc s).1, (Xc s).2)
def rdBool (s : RS) : Bool × RS := if s.err ≠ 0 then (false, s) else match s.data[s.pos]? with
 | none => (false, s.bad)
 | some b => if 1 < b.toNat then (false, s.bad) else (decide (b.toNat = 1), s.go 1)
def Yh (s : RS) : List UInt8 × RS := if s.err ≠ 0 then ([], s) else match s.num with
 | none => ([], s.bad)
 | some (n, c) => if s.data.length - (s.pos + c) < n then ([], s.bad) else ((s.data.drop (s.pos + c)).take n, s.go (c + n))
def Ym (s : RS) : Nat × RS := if s.err ≠ 0 then (0, s) else match s.num with
 | none => (0, s.bad)
 | some (n, c) => if s.data.length - (s.pos + c) < n then (0, s.bad) else (n, s.go c)
def RS.fail (s : RS) : RS := if s.err = 0 then { s with err := 2, pos := s.item } else s
def RS.ends (s : RS) : Int := if s.err = 0 ∧ s.pos < s.data.length then 2 else s.err
structure RS.Ok (s : RS) : Prop where
 pos : s.pos ≤ s.data.length
 item : s.item ≤ s.pos
 err : s.err = 0 ∨ s.err = 2
theorem RS.num_some {s : RS} {n c : Nat} (h : s.num = some (n, c)) (ho : s.pos ≤ s.data.length) : s.pos + c ≤ s.data.length ∧ 1 ≤ c ∧ c ≤ 10 ∧ n < 18446744073709551616 := by
 obtain ⟨h1, h2, h3, _, h5, _⟩ := Zw3 _ _ _ _ h
 rw [Z2] at h1
 exact ⟨by omega, h2, by omega, h5⟩
theorem RS.Ok.bad {s : RS} (h : s.Ok) : s.bad.Ok := ⟨h.pos, Z6 _, .inr rfl⟩
theorem RS.Ok.go {s : RS} (h : s.Ok) {c : Nat} (hc : s.pos + c ≤ s.data.length) : (s.go c).Ok := ⟨hc, Nat.le_add_right _ _, h.err⟩
theorem RS.Ok.fail {s : RS} (h : s.Ok) : s.fail.Ok := by
 unfold RS.fail
 split
 · exact ⟨Nat.le_trans h.item h.pos, Z6 _, .inr rfl⟩
 · exact h
theorem Zf3 {s : RS} (h : s.Ok) : (Xc s).2.Ok ∧ (Xc s).2.data = s.data ∧ (Xc s).1 < 18446744073709551616 := by
 unfold Xc
 split
 · exact ⟨h, rfl, by show (0 : Nat) < _; omega⟩
 · split
   · exact ⟨h.bad, rfl, by show (0 : Nat) < _; omega⟩
   · rename_i n c hn
     obtain ⟨h1, _, _, h4⟩ := RS.num_some hn h.pos
     exact ⟨h.go h1, rfl, h4⟩
theorem Zm5 {s : RS} (h : s.Ok) : (Yo s).2.Ok ∧ (Yo s).2.data = s.data ∧ (-9223372036854775808 ≤ (Yo s).1 ∧ (Yo s).1 ≤ 9223372036854775807) :=
 ⟨(Zf3 h).1, (Zf3 h).2.1, unzz_bd _ (Zf3 h).2.2⟩
theorem Zj1 {s : RS} (h : s.Ok) : (Yh s).2.Ok ∧ (Yh s).2.data = s.data ∧ (Yh s).1.length ≤ s.data.length := by
 unfold Yh
 split
 · exact ⟨h, rfl, Z7 _⟩
 · split
   · exact ⟨h.bad, rfl, Z7 _⟩
   · rename_i n c hn
     obtain ⟨h1, _, _, h4⟩ := RS.num_some hn h.pos
     split
     · exact ⟨h.bad, rfl, Z7 _⟩
     · exact ⟨h.go (by omega), rfl, by simp; omega⟩
theorem rdCount_ok {s : RS} (h : s.Ok) : (Ym s).2.Ok ∧ (Ym s).2.data = s.data ∧ (Ym s).1 ≤ s.data.length := by
 unfold Ym
 split
 · exact ⟨h, rfl, Z7 _⟩
 · split
   · exact ⟨h.bad, rfl, Z7 _⟩
   · rename_i n c hn
     obtain ⟨h1, _, _, h4⟩ := RS.num_some hn h.pos
     split
     · exact ⟨h.bad, rfl, Z7 _⟩
     · exact ⟨h.go h1, rfl, by omega⟩
/-! What was read is what was written. -/
structure Took (s t : RS) (bs : List UInt8) : Prop where
 data : t.data = s.data
 pos : t.pos = s.pos + bs.length
 err : s.err = 0 ∧ t.err = 0
 read : s.data.drop s.pos = bs ++ t.data.drop t.pos
theorem Took.trans {s t u : RS} {a b : List UInt8} (h : Took s t a) (k : Took t u b) : Took s u (a ++ b) :=
 ⟨k.data.trans h.data, by rw [k.pos, h.pos, Z1]; omega, ⟨h.err.1, k.err.2⟩, by rw [h.read, k.read, Z3]⟩
theorem Took.refl {s : RS} (h : s.err = 0) : Took s s [] := ⟨rfl, by simp, ⟨h, h⟩, by simp⟩
theorem took_go {s : RS} {c : Nat} {bs : List UInt8} (he : s.err = 0) (hc : s.pos + c ≤ s.data.length) (h : (s.data.drop s.pos).take c = bs) : Took s (s.go c) bs := by
 have hl : bs.length = c := by rw [← h, List.length_take, Z2]; omega
 refine ⟨rfl, by rw [hl]; rfl, ⟨he, he⟩, ?_⟩
 rw [← h, show (s.go c).data.drop (s.go c).pos = (s.data.drop s.pos).drop c by rw [List.drop_drop]; rfl, List.take_append_drop]
/-! What was written is read. -/
theorem num_of {s : RS} {n : Nat} {r : List UInt8} (hn : n < 18446744073709551616) (h : s.data.drop s.pos = X3 n ++ r) : s.num = some (n, (X3 n).length) := by
 unfold RS.num
 rw [h]
 exact Zw2 64 n 0 r hn hn (by omega) (.inl rfl)
theorem rdUint_of {s : RS} {n : Nat} {r : List UInt8} (he : s.err = 0) (hn : n < 18446744073709551616) (h : s.data.drop s.pos = X3 n ++ r) : Xc s = (n, s.go (X3 n).length) := by
 unfold Xc
 rw [if_neg (by simp [he]), num_of hn h]
theorem rdInt_of {s : RS} {n : Int} {r : List UInt8} (he : s.err = 0) (hn : -9223372036854775808 ≤ n ∧ n ≤ 9223372036854775807) (h : s.data.drop s.pos = intE n ++ r) : Yo s = (n, s.go (intE n).length) := by
 unfold Yo
 rw [rdUint_of he (zz_lt n hn.1 hn.2) h]
 show (unzz (zz n), _) = _
 rw [unzz_zz]
 rfl
theorem rdCount_of {s : RS} {n : Nat} {r : List UInt8} (he : s.err = 0) (hp : s.pos ≤ s.data.length) (hn : n < 18446744073709551616) (h : s.data.drop s.pos = X3 n ++ r) (hr : n ≤ r.length) : Ym s = (n, s.go (X3 n).length) := by
 have hl := congrArg List.length h
 rw [Z2, Z1] at hl
 unfold Ym
 rw [if_neg (by simp [he]), num_of hn h]
 exact if_neg (by omega)
theorem Zv9 {s : RS} {b r : List UInt8} (he : s.err = 0) (hp : s.pos ≤ s.data.length) (hn : b.length < 18446744073709551616) (h : s.data.drop s.pos = W5 b ++ r) : Yh s = (b, s.go (W5 b).length) := by
 have h' : s.data.drop s.pos = X3 b.length ++ (b ++ r) := by rw [h]; unfold W5; rw [Z3]
 have hl := congrArg List.length h'
 rw [Z2, Z1, Z1] at hl
 unfold Yh
 rw [if_neg (by simp [he]), num_of hn h']
 show (if _ then _ else _) = _
 rw [if_neg (by omega)]
 have e : s.data.drop (s.pos + (X3 b.length).length) = b ++ r := by rw [← List.drop_drop, h', List.drop_left]
 rw [e, List.take_left]
 unfold W5
 rw [Z1]
theorem go_pos {s : RS} {a r : List UInt8} (hp : s.pos ≤ s.data.length) (h : s.data.drop s.pos = a ++ r) : (s.go a.length).pos ≤ (s.go a.length).data.length := by
 have hl := congrArg List.length h
 rw [Z2, Z1] at hl
 show s.pos + a.length ≤ s.data.length
 omega
end
section
def strOf (l : List UInt8) : ByteArray := ⟨l.toArray⟩
def Vm (s : RS) : ByteArray × RS := (strOf (Yh s).1, (Yh s).2)
def Wi {α : Type} (f : RS → α × RS) : Nat → RS → List α × RS
 | 0, s => ([], s)
 | n + 1, s => if s.err = 0 then ((f s).1 :: (Wi f n (f s).2).1, (Wi f n (f s).2).2) else ([], s)
theorem rdLoop_bad {α : Type} (f : RS → α × RS) (n : Nat) (s : RS) (h : s.err ≠ 0) : Wi f n s = ([], s) := by
 cases n with
 | zero => rfl
 | succ n => unfold Wi; rw [if_neg h]
theorem Zf4 {α : Type} (f : RS → α × RS) (n : Nat) (s : RS) (h : s.err = 0) : Wi f (n + 1) s = ((f s).1 :: (Wi f n (f s).2).1, (Wi f n (f s).2).2) := by
 conv => lhs; unfold Wi
 rw [if_pos h]
def LoopAt {α : Type} (R : List α × RS) (f : RS → α × RS) (acc : List α) (k : Nat) (s : RS) : Prop := R = (acc ++ (Wi f k s).1, (Wi f k s).2)
theorem LoopAt.start {α : Type} (f : RS → α × RS) (k : Nat) (s : RS) : LoopAt (Wi f k s) f [] k s := rfl
theorem LoopAt.step {α : Type} {R : List α × RS} {f : RS → α × RS} {acc : List α} {k : Nat} {s : RS} (h : LoopAt R f acc (k + 1) s) (he : s.err = 0) : LoopAt R f (acc ++ [(f s).1]) k (f s).2 := by
 unfold LoopAt at h ⊢
 rw [h, Zf4 f k s he, Z3]
 rfl
structure Tks {α : Type} (f : RS → α × RS) (enc : α → List UInt8) : Prop where
 ok : ∀ s, s.Ok → (f s).2.Ok ∧ (f s).2.data = s.data
 took : ∀ s, s.Ok → (f s).2.err = 0 → Took s (f s).2 (enc (f s).1)
def rdList {α : Type} (f : RS → α × RS) (s : RS) : List α × RS := Wi f (Ym s).1 (Ym s).2
def Rds {α : Type} (f : RS → α × RS) (x : α) (bs : List UInt8) : Prop := ∀ (s : RS) (r : List UInt8), s.Ok → s.err = 0 → s.data.length < 18446744073709551616 → s.data.drop s.pos = bs ++ r → ∃ s', f s = (x, s') ∧ s'.Ok ∧ Took s s' bs
theorem Wx {s t : RS} {bs r : List UInt8} (h : Took s t bs) (hr : s.data.drop s.pos = bs ++ r) : t.data.drop t.pos = r := by
 have := h.read
 rw [hr] at this
 exact (List.append_cancel_left this).symm
theorem J3 {s t : RS} {bs : List UInt8} (h : Took s t bs) : t.data.length = s.data.length := congrArg List.length h.data
theorem rds_go {s : RS} {bs r : List UInt8} (ho : s.Ok) (he : s.err = 0) (hr : s.data.drop s.pos = bs ++ r) : (s.go bs.length).Ok ∧ Took s (s.go bs.length) bs := by
 have hp := go_pos ho.pos hr
 refine ⟨ho.go hp, took_go he hp ?_⟩
 rw [hr, List.take_left]
theorem Zz0 {n : Int} (hn : -9223372036854775808 ≤ n ∧ n ≤ 9223372036854775807) : Rds Yo n (intE n) := fun s r ho he _ hr => ⟨_, rdInt_of he hn hr, rds_go ho he hr⟩
theorem rds_text (q : ByteArray) : Rds Vm q (Yv q) := fun s r ho he hl hr => by
  have hb : s.data.drop s.pos = W5 q.data.toList ++ r := hr
  have hlen := congrArg List.length hb
  rw [Z2, Z1] at hlen
  unfold W5 at hlen
  rw [Z1] at hlen
  refine ⟨_, ?_, rds_go ho he hb⟩
  unfold Vm
  rw [Zv9 he ho.pos (by omega) hb]
  rfl
theorem Rds.bind {α β γ : Type} {f : RS → α × RS} {x : α} {a : List UInt8} (hf : Rds f x a) {g : RS → β × RS} {y : β} {b : List UInt8} (hg : Rds g y b) {h : RS → γ × RS} {z : γ} (hh : ∀ s s' s'', f s = (x, s') → g s' = (y, s'') → h s = (z, s'')) : Rds h z (a ++ b) := fun s r ho he hl hr => by
  rw [Z3] at hr
  obtain ⟨s', h1, h2, h3⟩ := hf s _ ho he hl hr
  obtain ⟨s'', h4, h5, h6⟩ := hg s' r h2 h3.err.2 (by rw [J3 h3]; exact hl) (Wx h3 hr)
  exact ⟨s'', hh s s' s'' h1 h4, h5, h3.trans h6⟩
theorem rds_loop {α : Type} {f : RS → α × RS} {enc : α → List UInt8} : ∀ (l : List α), (∀ x ∈ l, Rds f x (enc x)) → Rds (Wi f l.length) l (l.flatMap enc)
 | [], _ => fun s r ho he hl hr => ⟨s, rfl, ho, Took.refl he⟩
 | x :: t, h => fun s r ho he hl hr => by
   rw [Z9, Z3] at hr
   obtain ⟨s', h1, h2, h3⟩ := h x (by simp) s _ ho he hl hr
   obtain ⟨s'', h4, h5, h6⟩ := rds_loop t (fun y hy => h y (by simp [hy])) s' r h2 h3.err.2 (by rw [J3 h3]; exact hl) (Wx h3 hr)
   refine ⟨s'', ?_, h5, by rw [Z9]; exact h3.trans h6⟩
   show Wi f (t.length + 1) s = _
   rw [Zf4 f _ s he, h1, h4]
theorem Zs0 {α : Type} {enc : α → List UInt8} (h1 : ∀ x, 1 ≤ (enc x).length) : ∀ l : List α, l.length ≤ (l.flatMap enc).length
 | [] => Z7 _
 | x :: t => by
   rw [Z9, Z1, Z4]
   have := h1 x
   have := Zs0 h1 t
   omega
theorem rds_list {α : Type} {f : RS → α × RS} {enc : α → List UInt8} (h1 : ∀ x, 1 ≤ (enc x).length) (l : List α) (h : ∀ x ∈ l, Rds f x (enc x)) : Rds (rdList f) l (X3 l.length ++ l.flatMap enc) := fun s r ho he hl hr => by
  rw [Z3] at hr
  have hlen := congrArg List.length hr
  rw [Z2, Z1, Z1] at hlen
  have := Zs0 h1 l
  have hc := rdCount_of he ho.pos (n := l.length) (by omega) hr (by rw [Z1]; omega)
  obtain ⟨h2, h3⟩ := rds_go ho he hr
  obtain ⟨s'', h4, h5, h6⟩ := rds_loop l h _ r h2 h3.err.2 hl (Wx h3 hr)
  refine ⟨s'', ?_, h5, h3.trans h6⟩
  unfold rdList
  rw [hc]
  exact h4
theorem uintE_pos (n : Nat) : 1 ≤ (X3 n).length := by
 by_cases h : n < 128
 · rw [Wg h]; exact Z6 _
 · rw [Zb1 (by omega), Z4]; omega
theorem textE_pos (s : ByteArray) : 1 ≤ (Yv s).length := by
 unfold Yv
 rw [Z1]
 have := uintE_pos s.size
 omega
end
section
@[go_sem] theorem aggT_2 : aggT Z0 2 = some false := by kernel_rfl
@[go_sem] theorem aggT_3 : aggT Z0 3 = some false := by kernel_rfl
@[go_sem] theorem aggT_4 : aggT Z0 4 = some false := by kernel_rfl
@[go_sem] theorem aggT_5 : aggT Z0 5 = some false := by kernel_rfl
@[go_sem] theorem aggT_9 : aggT Z0 9 = some false := by kernel_rfl
@[go_sem] theorem aggT_22 : aggT Z0 22 = some false := by kernel_rfl
@[go_sem] theorem aggT_23 : aggT Z0 23 = some false := by kernel_rfl
@[go_sem] theorem aggT_25 : aggT Z0 25 = some true := by kernel_rfl
@[go_sem] theorem aggT_27 : aggT Z0 27 = some false := by kernel_rfl
@[go_sem] theorem aggT_28 : aggT Z0 28 = some false := by kernel_rfl
@[go_sem] theorem aggT_29 : aggT Z0 29 = some false := by kernel_rfl
@[go_sem] theorem aggT_31 : aggT Z0 31 = some true := by kernel_rfl
@[go_sem] theorem aggT_34 : aggT Z0 34 = some false := by kernel_rfl
@[go_sem] theorem aggT_37 : aggT Z0 37 = some false := by kernel_rfl
@[go_sem] theorem aggT_38 : aggT Z0 38 = some false := by kernel_rfl
@[go_sem] theorem aggT_40 : aggT Z0 40 = some true := by kernel_rfl
@[go_sem] theorem aggT_58 : aggT Z0 58 = some true := by kernel_rfl
@[go_sem] theorem aggT_72 : aggT Z0 72 = some true := by kernel_rfl
@[go_sem] theorem aggT_74 : aggT Z0 74 = some true := by kernel_rfl
@[go_sem] theorem aggT_130 : aggT Z0 130 = some false := by kernel_rfl
@[go_sem] theorem aggT_131 : aggT Z0 131 = some false := by kernel_rfl
@[go_sem] theorem aggT_133 : aggT Z0 133 = some true := by kernel_rfl
@[go_sem] theorem aggT_147 : aggT Z0 147 = some true := by kernel_rfl
@[go_sem] theorem aggT_157 : aggT Z0 157 = some true := by kernel_rfl
@[go_sem] theorem aggT_161 : aggT Z0 161 = some false := by kernel_rfl
@[go_sem] theorem aggT_163 : aggT Z0 163 = some true := by kernel_rfl
@[go_sem] theorem aggT_165 : aggT Z0 165 = some true := by kernel_rfl
@[go_sem] theorem aggT_171 : aggT Z0 171 = some false := by kernel_rfl
@[go_sem] theorem aggT_172 : aggT Z0 172 = some true := by kernel_rfl
@[go_sem] theorem aggT_193 : aggT Z0 193 = some true := by kernel_rfl
@[go_sem] theorem allSz_25 : Uq Z0 25 = true := by kernel_rfl
@[go_sem] theorem allSz_31 : Uq Z0 31 = true := by kernel_rfl
@[go_sem] theorem allSz_40 : Uq Z0 40 = true := by kernel_rfl
@[go_sem] theorem allSz_58 : Uq Z0 58 = true := by kernel_rfl
@[go_sem] theorem allSz_72 : Uq Z0 72 = true := by kernel_rfl
@[go_sem] theorem allSz_74 : Uq Z0 74 = true := by kernel_rfl
@[go_sem] theorem allSz_95 : Uq Z0 95 = true := by kernel_rfl
@[go_sem] theorem allSz_98 : Uq Z0 98 = true := by kernel_rfl
@[go_sem] theorem allSz_113 : Uq Z0 113 = true := by kernel_rfl
@[go_sem] theorem allSz_121 : Uq Z0 121 = true := by kernel_rfl
@[go_sem] theorem allSz_133 : Uq Z0 133 = true := by kernel_rfl
@[go_sem] theorem allSz_163 : Uq Z0 163 = true := by kernel_rfl
@[go_sem] theorem allSz_165 : Uq Z0 165 = true := by kernel_rfl
@[go_sem] theorem allSz_172 : Uq Z0 172 = true := by kernel_rfl
@[go_sem] theorem allSz_186 : Uq Z0 186 = true := by kernel_rfl
@[go_sem] theorem allSz_193 : Uq Z0 193 = true := by kernel_rfl
@[go_sem] theorem allSz_196 : Uq Z0 196 = true := by kernel_rfl
@[go_sem] theorem apT_22 : apT Z0 22 = some (3, 1, 8) := by kernel_rfl
@[go_sem] theorem apT_23 : apT Z0 23 = some (74, 7, 112) := by kernel_rfl
@[go_sem] theorem apT_27 : apT Z0 27 = some (9, 1, 16) := by kernel_rfl
@[go_sem] theorem apT_37 : apT Z0 37 = some (72, 2, 40) := by kernel_rfl
@[go_sem] theorem apT_38 : apT Z0 38 = some (5, 1, 1) := by kernel_rfl
@[go_sem] theorem apT_128 : apT Z0 128 = some (34, 1, 8) := by kernel_rfl
@[go_sem] theorem apT_130 : apT Z0 130 = some (133, 4, 80) := by kernel_rfl
@[go_sem] theorem apT_131 : apT Z0 131 = some (163, 2, 40) := by kernel_rfl
@[go_sem] theorem apT_161 : apT Z0 161 = some (165, 2, 16) := by kernel_rfl
@[go_sem] theorem apT_201 : apT Z0 201 = some (2, 1, 8) := by kernel_rfl
@[go_sem] theorem arrT_147 : arrT Z0 147 = some (64, 5) := by kernel_rfl
@[go_sem] theorem arrT_172 : arrT Z0 172 = some (8, 171) := by kernel_rfl
@[go_sem] theorem arrT_186 : arrT Z0 186 = some (64, 171) := by kernel_rfl
@[go_sem] theorem arrT_193 : arrT Z0 193 = some (8, 171) := by kernel_rfl
@[go_sem] theorem byT_38 : byT Z0 38 = true := by kernel_rfl
@[go_sem] theorem elT_22 : elT Z0 22 = some 3 := by kernel_rfl
@[go_sem] theorem elT_23 : elT Z0 23 = some 74 := by kernel_rfl
@[go_sem] theorem elT_27 : elT Z0 27 = some 9 := by kernel_rfl
@[go_sem] theorem elT_28 : elT Z0 28 = some 31 := by kernel_rfl
@[go_sem] theorem elT_29 : elT Z0 29 = some 157 := by kernel_rfl
@[go_sem] theorem elT_37 : elT Z0 37 = some 72 := by kernel_rfl
@[go_sem] theorem elT_38 : elT Z0 38 = some 5 := by kernel_rfl
@[go_sem] theorem elT_128 : elT Z0 128 = some 34 := by kernel_rfl
@[go_sem] theorem elT_130 : elT Z0 130 = some 133 := by kernel_rfl
@[go_sem] theorem elT_131 : elT Z0 131 = some 163 := by kernel_rfl
@[go_sem] theorem elT_161 : elT Z0 161 = some 165 := by kernel_rfl
@[go_sem] theorem elT_201 : elT Z0 201 = some 2 := by kernel_rfl
@[go_sem] theorem fldT_25_0 : fldT Z0 25 0 = some (0, 3) := by kernel_rfl
@[go_sem] theorem fldT_25_1 : fldT Z0 25 1 = some (1, 3) := by kernel_rfl
@[go_sem] theorem fldT_25_2 : fldT Z0 25 2 = some (2, 22) := by kernel_rfl
@[go_sem] theorem fldT_25_3 : fldT Z0 25 3 = some (3, 3) := by kernel_rfl
@[go_sem] theorem fldT_25_4 : fldT Z0 25 4 = some (4, 22) := by kernel_rfl
@[go_sem] theorem fldT_25_5 : fldT Z0 25 5 = some (5, 23) := by kernel_rfl
@[go_sem] theorem fldT_31_0 : fldT Z0 31 0 = some (0, 3) := by kernel_rfl
@[go_sem] theorem fldT_31_1 : fldT Z0 31 1 = some (1, 2) := by kernel_rfl
@[go_sem] theorem fldT_31_2 : fldT Z0 31 2 = some (2, 2) := by kernel_rfl
@[go_sem] theorem fldT_31_3 : fldT Z0 31 3 = some (3, 27) := by kernel_rfl
@[go_sem] theorem fldT_31_4 : fldT Z0 31 4 = some (4, 28) := by kernel_rfl
@[go_sem] theorem fldT_31_5 : fldT Z0 31 5 = some (5, 29) := by kernel_rfl
@[go_sem] theorem fldT_40_0 : fldT Z0 40 0 = some (0, 3) := by kernel_rfl
@[go_sem] theorem fldT_40_1 : fldT Z0 40 1 = some (1, 3) := by kernel_rfl
@[go_sem] theorem fldT_40_2 : fldT Z0 40 2 = some (2, 3) := by kernel_rfl
@[go_sem] theorem fldT_40_3 : fldT Z0 40 3 = some (3, 37) := by kernel_rfl
@[go_sem] theorem fldT_40_4 : fldT Z0 40 4 = some (4, 3) := by kernel_rfl
@[go_sem] theorem fldT_40_5 : fldT Z0 40 5 = some (5, 38) := by kernel_rfl
@[go_sem] theorem fldT_58_0 : fldT Z0 58 0 = some (0, 3) := by kernel_rfl
@[go_sem] theorem fldT_58_1 : fldT Z0 58 1 = some (1, 3) := by kernel_rfl
@[go_sem] theorem fldT_58_2 : fldT Z0 58 2 = some (2, 38) := by kernel_rfl
@[go_sem] theorem fldT_72_0 : fldT Z0 72 0 = some (0, 9) := by kernel_rfl
@[go_sem] theorem fldT_72_1 : fldT Z0 72 1 = some (1, 38) := by kernel_rfl
@[go_sem] theorem fldT_74_0 : fldT Z0 74 0 = some (0, 9) := by kernel_rfl
@[go_sem] theorem fldT_74_1 : fldT Z0 74 1 = some (1, 31) := by kernel_rfl
@[go_sem] theorem fldT_78_0 : fldT Z0 78 0 = some (0, 38) := by kernel_rfl
@[go_sem] theorem fldT_95_0 : fldT Z0 95 0 = some (0, 38) := by kernel_rfl
@[go_sem] theorem fldT_95_1 : fldT Z0 95 1 = some (1, 3) := by kernel_rfl
@[go_sem] theorem fldT_95_2 : fldT Z0 95 2 = some (2, 3) := by kernel_rfl
@[go_sem] theorem fldT_95_3 : fldT Z0 95 3 = some (3, 4) := by kernel_rfl
@[go_sem] theorem fldT_98_0 : fldT Z0 98 0 = some (0, 38) := by kernel_rfl
@[go_sem] theorem fldT_98_1 : fldT Z0 98 1 = some (1, 3) := by kernel_rfl
@[go_sem] theorem fldT_98_2 : fldT Z0 98 2 = some (2, 3) := by kernel_rfl
@[go_sem] theorem fldT_113_0 : fldT Z0 113 0 = some (0, 3) := by kernel_rfl
@[go_sem] theorem fldT_121_0 : fldT Z0 121 0 = some (0, 38) := by kernel_rfl
@[go_sem] theorem fldT_121_1 : fldT Z0 121 1 = some (1, 3) := by kernel_rfl
@[go_sem] theorem fldT_121_2 : fldT Z0 121 2 = some (2, 3) := by kernel_rfl
@[go_sem] theorem fldT_121_3 : fldT Z0 121 3 = some (3, 34) := by kernel_rfl
@[go_sem] theorem fldT_133_0 : fldT Z0 133 0 = some (0, 2) := by kernel_rfl
@[go_sem] theorem fldT_133_1 : fldT Z0 133 1 = some (1, 27) := by kernel_rfl
@[go_sem] theorem fldT_133_2 : fldT Z0 133 2 = some (2, 130) := by kernel_rfl
@[go_sem] theorem fldT_133_3 : fldT Z0 133 3 = some (3, 131) := by kernel_rfl
@[go_sem] theorem fldT_157_0 : fldT Z0 157 0 = some (0, 27) := by kernel_rfl
@[go_sem] theorem fldT_157_1 : fldT Z0 157 1 = some (1, 9) := by kernel_rfl
@[go_sem] theorem fldT_163_0 : fldT Z0 163 0 = some (0, 161) := by kernel_rfl
@[go_sem] theorem fldT_163_1 : fldT Z0 163 1 = some (1, 9) := by kernel_rfl
@[go_sem] theorem fldT_165_0 : fldT Z0 165 0 = some (0, 3) := by kernel_rfl
@[go_sem] theorem fldT_165_1 : fldT Z0 165 1 = some (1, 2) := by kernel_rfl
@[go_sem] theorem fldT_196_0 : fldT Z0 196 0 = some (0, 193) := by kernel_rfl
@[go_sem] theorem fldT_196_1 : fldT Z0 196 1 = some (8, 38) := by kernel_rfl
@[go_sem] theorem fldT_196_2 : fldT Z0 196 2 = some (9, 3) := by kernel_rfl
@[go_sem] theorem intT_2 : intT Z0 2 = some IntKind.i64 := by kernel_rfl
@[go_sem] theorem intT_3 : intT Z0 3 = some IntKind.i64 := by kernel_rfl
@[go_sem] theorem intT_5 : intT Z0 5 = some IntKind.u8 := by kernel_rfl
@[go_sem] theorem intT_119 : intT Z0 119 = some IntKind.u64 := by kernel_rfl
@[go_sem] theorem intT_123 : intT Z0 123 = some IntKind.u64 := by kernel_rfl
@[go_sem] theorem intT_171 : intT Z0 171 = some IntKind.u32 := by kernel_rfl
@[go_sem] theorem nzT_2 : nzT Z0 2 = true := by kernel_rfl
@[go_sem] theorem nzT_3 : nzT Z0 3 = true := by kernel_rfl
@[go_sem] theorem nzT_4 : nzT Z0 4 = true := by kernel_rfl
@[go_sem] theorem nzT_9 : nzT Z0 9 = true := by kernel_rfl
@[go_sem] theorem nzT_22 : nzT Z0 22 = true := by kernel_rfl
@[go_sem] theorem nzT_23 : nzT Z0 23 = true := by kernel_rfl
@[go_sem] theorem nzT_27 : nzT Z0 27 = true := by kernel_rfl
@[go_sem] theorem nzT_28 : nzT Z0 28 = true := by kernel_rfl
@[go_sem] theorem nzT_29 : nzT Z0 29 = true := by kernel_rfl
@[go_sem] theorem nzT_31 : nzT Z0 31 = true := by kernel_rfl
@[go_sem] theorem nzT_34 : nzT Z0 34 = true := by kernel_rfl
@[go_sem] theorem nzT_37 : nzT Z0 37 = true := by kernel_rfl
@[go_sem] theorem nzT_38 : nzT Z0 38 = true := by kernel_rfl
@[go_sem] theorem nzT_130 : nzT Z0 130 = true := by kernel_rfl
@[go_sem] theorem nzT_131 : nzT Z0 131 = true := by kernel_rfl
@[go_sem] theorem nzT_161 : nzT Z0 161 = true := by kernel_rfl
@[go_sem] theorem nzT_193 : nzT Z0 193 = true := by kernel_rfl
@[go_sem] theorem plT_25_0 : plT Z0 25 0 = some (0, 1) := by kernel_rfl
@[go_sem] theorem plT_25_1 : plT Z0 25 1 = some (1, 1) := by kernel_rfl
@[go_sem] theorem plT_25_2 : plT Z0 25 2 = some (2, 1) := by kernel_rfl
@[go_sem] theorem plT_25_3 : plT Z0 25 3 = some (3, 1) := by kernel_rfl
@[go_sem] theorem plT_25_4 : plT Z0 25 4 = some (4, 1) := by kernel_rfl
@[go_sem] theorem plT_25_5 : plT Z0 25 5 = some (5, 1) := by kernel_rfl
@[go_sem] theorem plT_31_0 : plT Z0 31 0 = some (0, 1) := by kernel_rfl
@[go_sem] theorem plT_31_2 : plT Z0 31 2 = some (2, 1) := by kernel_rfl
@[go_sem] theorem plT_40_0 : plT Z0 40 0 = some (0, 1) := by kernel_rfl
@[go_sem] theorem plT_40_1 : plT Z0 40 1 = some (1, 1) := by kernel_rfl
@[go_sem] theorem plT_40_2 : plT Z0 40 2 = some (2, 1) := by kernel_rfl
@[go_sem] theorem plT_40_3 : plT Z0 40 3 = some (3, 1) := by kernel_rfl
@[go_sem] theorem plT_40_4 : plT Z0 40 4 = some (4, 1) := by kernel_rfl
@[go_sem] theorem plT_58_0 : plT Z0 58 0 = some (0, 1) := by kernel_rfl
@[go_sem] theorem plT_58_1 : plT Z0 58 1 = some (1, 1) := by kernel_rfl
@[go_sem] theorem plT_58_2 : plT Z0 58 2 = some (2, 1) := by kernel_rfl
@[go_sem] theorem plT_72_0 : plT Z0 72 0 = some (0, 1) := by kernel_rfl
@[go_sem] theorem plT_72_1 : plT Z0 72 1 = some (1, 1) := by kernel_rfl
@[go_sem] theorem plT_74_0 : plT Z0 74 0 = some (0, 1) := by kernel_rfl
@[go_sem] theorem plT_74_1 : plT Z0 74 1 = some (1, 6) := by kernel_rfl
@[go_sem] theorem plT_95_0 : plT Z0 95 0 = some (0, 1) := by kernel_rfl
@[go_sem] theorem plT_98_0 : plT Z0 98 0 = some (0, 1) := by kernel_rfl
@[go_sem] theorem plT_98_1 : plT Z0 98 1 = some (1, 1) := by kernel_rfl
@[go_sem] theorem plT_121_0 : plT Z0 121 0 = some (0, 1) := by kernel_rfl
@[go_sem] theorem plT_165_0 : plT Z0 165 0 = some (0, 1) := by kernel_rfl
@[go_sem] theorem plT_165_1 : plT Z0 165 1 = some (1, 1) := by kernel_rfl
@[go_sem] theorem plT_172_0 : plT Z0 172 0 = some (0, 1) := by kernel_rfl
@[go_sem] theorem plT_172_1 : plT Z0 172 1 = some (1, 1) := by kernel_rfl
@[go_sem] theorem plT_172_2 : plT Z0 172 2 = some (2, 1) := by kernel_rfl
@[go_sem] theorem plT_172_3 : plT Z0 172 3 = some (3, 1) := by kernel_rfl
@[go_sem] theorem plT_172_4 : plT Z0 172 4 = some (4, 1) := by kernel_rfl
@[go_sem] theorem plT_172_5 : plT Z0 172 5 = some (5, 1) := by kernel_rfl
@[go_sem] theorem plT_172_6 : plT Z0 172 6 = some (6, 1) := by kernel_rfl
@[go_sem] theorem plT_172_7 : plT Z0 172 7 = some (7, 1) := by kernel_rfl
@[go_sem] theorem plT_186_0 : plT Z0 186 0 = some (0, 1) := by kernel_rfl
@[go_sem] theorem plT_186_1 : plT Z0 186 1 = some (1, 1) := by kernel_rfl
@[go_sem] theorem plT_186_2 : plT Z0 186 2 = some (2, 1) := by kernel_rfl
@[go_sem] theorem plT_186_3 : plT Z0 186 3 = some (3, 1) := by kernel_rfl
@[go_sem] theorem plT_186_4 : plT Z0 186 4 = some (4, 1) := by kernel_rfl
@[go_sem] theorem plT_186_5 : plT Z0 186 5 = some (5, 1) := by kernel_rfl
@[go_sem] theorem plT_186_6 : plT Z0 186 6 = some (6, 1) := by kernel_rfl
@[go_sem] theorem plT_186_7 : plT Z0 186 7 = some (7, 1) := by kernel_rfl
@[go_sem] theorem plT_186_8 : plT Z0 186 8 = some (8, 1) := by kernel_rfl
@[go_sem] theorem plT_186_9 : plT Z0 186 9 = some (9, 1) := by kernel_rfl
@[go_sem] theorem plT_186_10 : plT Z0 186 10 = some (10, 1) := by kernel_rfl
@[go_sem] theorem plT_186_11 : plT Z0 186 11 = some (11, 1) := by kernel_rfl
@[go_sem] theorem plT_186_12 : plT Z0 186 12 = some (12, 1) := by kernel_rfl
@[go_sem] theorem plT_186_13 : plT Z0 186 13 = some (13, 1) := by kernel_rfl
@[go_sem] theorem plT_186_14 : plT Z0 186 14 = some (14, 1) := by kernel_rfl
@[go_sem] theorem plT_186_15 : plT Z0 186 15 = some (15, 1) := by kernel_rfl
@[go_sem] theorem plT_186_16 : plT Z0 186 16 = some (16, 1) := by kernel_rfl
@[go_sem] theorem plT_186_17 : plT Z0 186 17 = some (17, 1) := by kernel_rfl
@[go_sem] theorem plT_186_18 : plT Z0 186 18 = some (18, 1) := by kernel_rfl
@[go_sem] theorem plT_186_19 : plT Z0 186 19 = some (19, 1) := by kernel_rfl
@[go_sem] theorem plT_186_20 : plT Z0 186 20 = some (20, 1) := by kernel_rfl
@[go_sem] theorem plT_186_21 : plT Z0 186 21 = some (21, 1) := by kernel_rfl
@[go_sem] theorem plT_186_22 : plT Z0 186 22 = some (22, 1) := by kernel_rfl
@[go_sem] theorem plT_186_23 : plT Z0 186 23 = some (23, 1) := by kernel_rfl
@[go_sem] theorem plT_186_24 : plT Z0 186 24 = some (24, 1) := by kernel_rfl
@[go_sem] theorem plT_186_25 : plT Z0 186 25 = some (25, 1) := by kernel_rfl
@[go_sem] theorem plT_186_26 : plT Z0 186 26 = some (26, 1) := by kernel_rfl
@[go_sem] theorem plT_186_27 : plT Z0 186 27 = some (27, 1) := by kernel_rfl
@[go_sem] theorem plT_186_28 : plT Z0 186 28 = some (28, 1) := by kernel_rfl
@[go_sem] theorem plT_186_29 : plT Z0 186 29 = some (29, 1) := by kernel_rfl
@[go_sem] theorem plT_186_30 : plT Z0 186 30 = some (30, 1) := by kernel_rfl
@[go_sem] theorem plT_186_31 : plT Z0 186 31 = some (31, 1) := by kernel_rfl
@[go_sem] theorem plT_186_32 : plT Z0 186 32 = some (32, 1) := by kernel_rfl
@[go_sem] theorem plT_186_33 : plT Z0 186 33 = some (33, 1) := by kernel_rfl
@[go_sem] theorem plT_186_34 : plT Z0 186 34 = some (34, 1) := by kernel_rfl
@[go_sem] theorem plT_186_35 : plT Z0 186 35 = some (35, 1) := by kernel_rfl
@[go_sem] theorem plT_186_36 : plT Z0 186 36 = some (36, 1) := by kernel_rfl
@[go_sem] theorem plT_186_37 : plT Z0 186 37 = some (37, 1) := by kernel_rfl
@[go_sem] theorem plT_186_38 : plT Z0 186 38 = some (38, 1) := by kernel_rfl
@[go_sem] theorem plT_186_39 : plT Z0 186 39 = some (39, 1) := by kernel_rfl
@[go_sem] theorem plT_186_40 : plT Z0 186 40 = some (40, 1) := by kernel_rfl
@[go_sem] theorem plT_186_41 : plT Z0 186 41 = some (41, 1) := by kernel_rfl
@[go_sem] theorem plT_186_42 : plT Z0 186 42 = some (42, 1) := by kernel_rfl
@[go_sem] theorem plT_186_43 : plT Z0 186 43 = some (43, 1) := by kernel_rfl
@[go_sem] theorem plT_186_44 : plT Z0 186 44 = some (44, 1) := by kernel_rfl
@[go_sem] theorem plT_186_45 : plT Z0 186 45 = some (45, 1) := by kernel_rfl
@[go_sem] theorem plT_186_46 : plT Z0 186 46 = some (46, 1) := by kernel_rfl
@[go_sem] theorem plT_186_47 : plT Z0 186 47 = some (47, 1) := by kernel_rfl
@[go_sem] theorem plT_186_48 : plT Z0 186 48 = some (48, 1) := by kernel_rfl
@[go_sem] theorem plT_186_49 : plT Z0 186 49 = some (49, 1) := by kernel_rfl
@[go_sem] theorem plT_186_50 : plT Z0 186 50 = some (50, 1) := by kernel_rfl
@[go_sem] theorem plT_186_51 : plT Z0 186 51 = some (51, 1) := by kernel_rfl
@[go_sem] theorem plT_186_52 : plT Z0 186 52 = some (52, 1) := by kernel_rfl
@[go_sem] theorem plT_186_53 : plT Z0 186 53 = some (53, 1) := by kernel_rfl
@[go_sem] theorem plT_186_54 : plT Z0 186 54 = some (54, 1) := by kernel_rfl
@[go_sem] theorem plT_186_55 : plT Z0 186 55 = some (55, 1) := by kernel_rfl
@[go_sem] theorem plT_186_56 : plT Z0 186 56 = some (56, 1) := by kernel_rfl
@[go_sem] theorem plT_186_57 : plT Z0 186 57 = some (57, 1) := by kernel_rfl
@[go_sem] theorem plT_186_58 : plT Z0 186 58 = some (58, 1) := by kernel_rfl
@[go_sem] theorem plT_186_59 : plT Z0 186 59 = some (59, 1) := by kernel_rfl
@[go_sem] theorem plT_186_60 : plT Z0 186 60 = some (60, 1) := by kernel_rfl
@[go_sem] theorem plT_186_61 : plT Z0 186 61 = some (61, 1) := by kernel_rfl
@[go_sem] theorem plT_186_62 : plT Z0 186 62 = some (62, 1) := by kernel_rfl
@[go_sem] theorem plT_186_63 : plT Z0 186 63 = some (63, 1) := by kernel_rfl
@[go_sem] theorem plT_193_0 : plT Z0 193 0 = some (0, 1) := by kernel_rfl
@[go_sem] theorem plT_193_1 : plT Z0 193 1 = some (1, 1) := by kernel_rfl
@[go_sem] theorem plT_193_2 : plT Z0 193 2 = some (2, 1) := by kernel_rfl
@[go_sem] theorem plT_193_3 : plT Z0 193 3 = some (3, 1) := by kernel_rfl
@[go_sem] theorem plT_193_4 : plT Z0 193 4 = some (4, 1) := by kernel_rfl
@[go_sem] theorem plT_193_5 : plT Z0 193 5 = some (5, 1) := by kernel_rfl
@[go_sem] theorem plT_193_6 : plT Z0 193 6 = some (6, 1) := by kernel_rfl
@[go_sem] theorem plT_193_7 : plT Z0 193 7 = some (7, 1) := by kernel_rfl
@[go_sem] theorem plT_196_0 : plT Z0 196 0 = some (0, 8) := by kernel_rfl
@[go_sem] theorem slT_22 : slT Z0 22 = true := by kernel_rfl
@[go_sem] theorem slT_23 : slT Z0 23 = true := by kernel_rfl
@[go_sem] theorem slT_27 : slT Z0 27 = true := by kernel_rfl
@[go_sem] theorem slT_28 : slT Z0 28 = true := by kernel_rfl
@[go_sem] theorem slT_29 : slT Z0 29 = true := by kernel_rfl
@[go_sem] theorem slT_37 : slT Z0 37 = true := by kernel_rfl
@[go_sem] theorem slT_38 : slT Z0 38 = true := by kernel_rfl
@[go_sem] theorem slT_128 : slT Z0 128 = true := by kernel_rfl
@[go_sem] theorem slT_130 : slT Z0 130 = true := by kernel_rfl
@[go_sem] theorem slT_131 : slT Z0 131 = true := by kernel_rfl
@[go_sem] theorem slT_161 : slT Z0 161 = true := by kernel_rfl
@[go_sem] theorem slT_201 : slT Z0 201 = true := by kernel_rfl
@[go_sem] theorem strT_9 : strT Z0 9 = true := by kernel_rfl
@[go_sem] theorem szT_2 : szT Z0 2 = some 1 := by kernel_rfl
@[go_sem] theorem szT_3 : szT Z0 3 = some 1 := by kernel_rfl
@[go_sem] theorem szT_4 : szT Z0 4 = some 1 := by kernel_rfl
@[go_sem] theorem szT_5 : szT Z0 5 = some 1 := by kernel_rfl
@[go_sem] theorem szT_9 : szT Z0 9 = some 1 := by kernel_rfl
@[go_sem] theorem szT_22 : szT Z0 22 = some 1 := by kernel_rfl
@[go_sem] theorem szT_23 : szT Z0 23 = some 1 := by kernel_rfl
@[go_sem] theorem szT_25 : szT Z0 25 = some 6 := by kernel_rfl
@[go_sem] theorem szT_27 : szT Z0 27 = some 1 := by kernel_rfl
@[go_sem] theorem szT_28 : szT Z0 28 = some 1 := by kernel_rfl
@[go_sem] theorem szT_29 : szT Z0 29 = some 1 := by kernel_rfl
@[go_sem] theorem szT_31 : szT Z0 31 = some 6 := by kernel_rfl
@[go_sem] theorem szT_34 : szT Z0 34 = some 1 := by kernel_rfl
@[go_sem] theorem szT_37 : szT Z0 37 = some 1 := by kernel_rfl
@[go_sem] theorem szT_38 : szT Z0 38 = some 1 := by kernel_rfl
@[go_sem] theorem szT_40 : szT Z0 40 = some 6 := by kernel_rfl
@[go_sem] theorem szT_58 : szT Z0 58 = some 3 := by kernel_rfl
@[go_sem] theorem szT_72 : szT Z0 72 = some 2 := by kernel_rfl
@[go_sem] theorem szT_74 : szT Z0 74 = some 7 := by kernel_rfl
@[go_sem] theorem szT_113 : szT Z0 113 = some 1 := by kernel_rfl
@[go_sem] theorem szT_130 : szT Z0 130 = some 1 := by kernel_rfl
@[go_sem] theorem szT_131 : szT Z0 131 = some 1 := by kernel_rfl
@[go_sem] theorem szT_133 : szT Z0 133 = some 4 := by kernel_rfl
@[go_sem] theorem szT_147 : szT Z0 147 = some 64 := by kernel_rfl
@[go_sem] theorem szT_157 : szT Z0 157 = some 2 := by kernel_rfl
@[go_sem] theorem szT_161 : szT Z0 161 = some 1 := by kernel_rfl
@[go_sem] theorem szT_163 : szT Z0 163 = some 2 := by kernel_rfl
@[go_sem] theorem szT_165 : szT Z0 165 = some 2 := by kernel_rfl
@[go_sem] theorem szT_171 : szT Z0 171 = some 1 := by kernel_rfl
@[go_sem] theorem szT_172 : szT Z0 172 = some 8 := by kernel_rfl
@[go_sem] theorem szT_186 : szT Z0 186 = some 64 := by kernel_rfl
@[go_sem] theorem szT_193 : szT Z0 193 = some 8 := by kernel_rfl
@[go_sem] theorem zeroD_25 : Xs Z0 25 = some [D.v (Value.int IntKind.i64 (0)), D.v (Value.int IntKind.i64 (0)), D.v (Value.slice none 0 0), D.v (Value.int IntKind.i64 (0)), D.v (Value.slice none 0 0), D.v (Value.slice none 0 0)] := by kernel_rfl
@[go_sem] theorem zeroD_31 : Xs Z0 31 = some [D.v (Value.int IntKind.i64 (0)), D.v (Value.int IntKind.i64 (0)), D.v (Value.int IntKind.i64 (0)), D.v (Value.slice none 0 0), D.v (Value.slice none 0 0), D.v (Value.slice none 0 0)] := by kernel_rfl
@[go_sem] theorem zeroD_40 : Xs Z0 40 = some [D.v (Value.int IntKind.i64 (0)), D.v (Value.int IntKind.i64 (0)), D.v (Value.int IntKind.i64 (0)), D.v (Value.slice none 0 0), D.v (Value.int IntKind.i64 (0)), D.v (Value.slice none 0 0)] := by kernel_rfl
@[go_sem] theorem zeroD_58 : Xs Z0 58 = some [D.v (Value.int IntKind.i64 (0)), D.v (Value.int IntKind.i64 (0)), D.v (Value.slice none 0 0)] := by kernel_rfl
@[go_sem] theorem zeroD_72 : Xs Z0 72 = some [D.v (Value.string { data := { toList := [] } }), D.v (Value.slice none 0 0)] := by kernel_rfl
@[go_sem] theorem zeroD_74 : Xs Z0 74 = some [D.v (Value.string { data := { toList := [] } }), D.v (Value.int IntKind.i64 (0)), D.v (Value.int IntKind.i64 (0)), D.v (Value.int IntKind.i64 (0)), D.v (Value.slice none 0 0), D.v (Value.slice none 0 0), D.v (Value.slice none 0 0)] := by kernel_rfl
@[go_sem] theorem zeroD_78 : Xs Z0 78 = some [D.v (Value.slice none 0 0)] := by kernel_rfl
@[go_sem] theorem zeroD_95 : Xs Z0 95 = some [D.v (Value.slice none 0 0), D.v (Value.int IntKind.i64 (0)), D.v (Value.int IntKind.i64 (0)), D.v (Value.bool false)] := by kernel_rfl
@[go_sem] theorem zeroD_98 : Xs Z0 98 = some [D.v (Value.slice none 0 0), D.v (Value.int IntKind.i64 (0)), D.v (Value.int IntKind.i64 (0))] := by kernel_rfl
@[go_sem] theorem zeroD_113 : Xs Z0 113 = some [D.v (Value.int IntKind.i64 (0))] := by kernel_rfl
@[go_sem] theorem zeroD_121 : Xs Z0 121 = some [D.v (Value.slice none 0 0), D.v (Value.int IntKind.i64 (0)), D.v (Value.int IntKind.i64 (0)), D.v (Value.int IntKind.i64 (0))] := by kernel_rfl
@[go_sem] theorem zeroD_133 : Xs Z0 133 = some [D.v (Value.int IntKind.i64 (0)), D.v (Value.slice none 0 0), D.v (Value.slice none 0 0), D.v (Value.slice none 0 0)] := by kernel_rfl
@[go_sem] theorem zeroD_147 : Xs Z0 147 = some [D.v (Value.int IntKind.u8 (0)), D.v (Value.int IntKind.u8 (0)), D.v (Value.int IntKind.u8 (0)), D.v (Value.int IntKind.u8 (0)), D.v (Value.int IntKind.u8 (0)), D.v (Value.int IntKind.u8 (0)), D.v (Value.int IntKind.u8 (0)), D.v (Value.int IntKind.u8 (0)), D.v (Value.int IntKind.u8 (0)), D.v (Value.int IntKind.u8 (0)), D.v (Value.int IntKind.u8 (0)), D.v (Value.int IntKind.u8 (0)), D.v (Value.int IntKind.u8 (0)), D.v (Value.int IntKind.u8 (0)), D.v (Value.int IntKind.u8 (0)), D.v (Value.int IntKind.u8 (0)), D.v (Value.int IntKind.u8 (0)), D.v (Value.int IntKind.u8 (0)), D.v (Value.int IntKind.u8 (0)), D.v (Value.int IntKind.u8 (0)), D.v (Value.int IntKind.u8 (0)), D.v (Value.int IntKind.u8 (0)), D.v (Value.int IntKind.u8 (0)), D.v (Value.int IntKind.u8 (0)), D.v (Value.int IntKind.u8 (0)), D.v (Value.int IntKind.u8 (0)), D.v (Value.int IntKind.u8 (0)), D.v (Value.int IntKind.u8 (0)), D.v (Value.int IntKind.u8 (0)), D.v (Value.int IntKind.u8 (0)), D.v (Value.int IntKind.u8 (0)), D.v (Value.int IntKind.u8 (0)), D.v (Value.int IntKind.u8 (0)), D.v (Value.int IntKind.u8 (0)), D.v (Value.int IntKind.u8 (0)), D.v (Value.int IntKind.u8 (0)), D.v (Value.int IntKind.u8 (0)), D.v (Value.int IntKind.u8 (0)), D.v (Value.int IntKind.u8 (0)), D.v (Value.int IntKind.u8 (0)), D.v (Value.int IntKind.u8 (0)), D.v (Value.int IntKind.u8 (0)), D.v (Value.int IntKind.u8 (0)), D.v (Value.int IntKind.u8 (0)), D.v (Value.int IntKind.u8 (0)), D.v (Value.int IntKind.u8 (0)), D.v (Value.int IntKind.u8 (0)), D.v (Value.int IntKind.u8 (0)), D.v (Value.int IntKind.u8 (0)), D.v (Value.int IntKind.u8 (0)), D.v (Value.int IntKind.u8 (0)), D.v (Value.int IntKind.u8 (0)), D.v (Value.int IntKind.u8 (0)), D.v (Value.int IntKind.u8 (0)), D.v (Value.int IntKind.u8 (0)), D.v (Value.int IntKind.u8 (0)), D.v (Value.int IntKind.u8 (0)), D.v (Value.int IntKind.u8 (0)), D.v (Value.int IntKind.u8 (0)), D.v (Value.int IntKind.u8 (0)), D.v (Value.int IntKind.u8 (0)), D.v (Value.int IntKind.u8 (0)), D.v (Value.int IntKind.u8 (0)), D.v (Value.int IntKind.u8 (0))] := by kernel_rfl
@[go_sem] theorem zeroD_157 : Xs Z0 157 = some [D.v (Value.slice none 0 0), D.v (Value.string { data := { toList := [] } })] := by kernel_rfl
@[go_sem] theorem zeroD_163 : Xs Z0 163 = some [D.v (Value.slice none 0 0), D.v (Value.string { data := { toList := [] } })] := by kernel_rfl
@[go_sem] theorem zeroD_165 : Xs Z0 165 = some [D.v (Value.int IntKind.i64 (0)), D.v (Value.int IntKind.i64 (0))] := by kernel_rfl
@[go_sem] theorem zeroD_172 : Xs Z0 172 = some [D.v (Value.int IntKind.u32 (0)), D.v (Value.int IntKind.u32 (0)), D.v (Value.int IntKind.u32 (0)), D.v (Value.int IntKind.u32 (0)), D.v (Value.int IntKind.u32 (0)), D.v (Value.int IntKind.u32 (0)), D.v (Value.int IntKind.u32 (0)), D.v (Value.int IntKind.u32 (0))] := by kernel_rfl
@[go_sem] theorem zeroD_186 : Xs Z0 186 = some [D.v (Value.int IntKind.u32 (0)), D.v (Value.int IntKind.u32 (0)), D.v (Value.int IntKind.u32 (0)), D.v (Value.int IntKind.u32 (0)), D.v (Value.int IntKind.u32 (0)), D.v (Value.int IntKind.u32 (0)), D.v (Value.int IntKind.u32 (0)), D.v (Value.int IntKind.u32 (0)), D.v (Value.int IntKind.u32 (0)), D.v (Value.int IntKind.u32 (0)), D.v (Value.int IntKind.u32 (0)), D.v (Value.int IntKind.u32 (0)), D.v (Value.int IntKind.u32 (0)), D.v (Value.int IntKind.u32 (0)), D.v (Value.int IntKind.u32 (0)), D.v (Value.int IntKind.u32 (0)), D.v (Value.int IntKind.u32 (0)), D.v (Value.int IntKind.u32 (0)), D.v (Value.int IntKind.u32 (0)), D.v (Value.int IntKind.u32 (0)), D.v (Value.int IntKind.u32 (0)), D.v (Value.int IntKind.u32 (0)), D.v (Value.int IntKind.u32 (0)), D.v (Value.int IntKind.u32 (0)), D.v (Value.int IntKind.u32 (0)), D.v (Value.int IntKind.u32 (0)), D.v (Value.int IntKind.u32 (0)), D.v (Value.int IntKind.u32 (0)), D.v (Value.int IntKind.u32 (0)), D.v (Value.int IntKind.u32 (0)), D.v (Value.int IntKind.u32 (0)), D.v (Value.int IntKind.u32 (0)), D.v (Value.int IntKind.u32 (0)), D.v (Value.int IntKind.u32 (0)), D.v (Value.int IntKind.u32 (0)), D.v (Value.int IntKind.u32 (0)), D.v (Value.int IntKind.u32 (0)), D.v (Value.int IntKind.u32 (0)), D.v (Value.int IntKind.u32 (0)), D.v (Value.int IntKind.u32 (0)), D.v (Value.int IntKind.u32 (0)), D.v (Value.int IntKind.u32 (0)), D.v (Value.int IntKind.u32 (0)), D.v (Value.int IntKind.u32 (0)), D.v (Value.int IntKind.u32 (0)), D.v (Value.int IntKind.u32 (0)), D.v (Value.int IntKind.u32 (0)), D.v (Value.int IntKind.u32 (0)), D.v (Value.int IntKind.u32 (0)), D.v (Value.int IntKind.u32 (0)), D.v (Value.int IntKind.u32 (0)), D.v (Value.int IntKind.u32 (0)), D.v (Value.int IntKind.u32 (0)), D.v (Value.int IntKind.u32 (0)), D.v (Value.int IntKind.u32 (0)), D.v (Value.int IntKind.u32 (0)), D.v (Value.int IntKind.u32 (0)), D.v (Value.int IntKind.u32 (0)), D.v (Value.int IntKind.u32 (0)), D.v (Value.int IntKind.u32 (0)), D.v (Value.int IntKind.u32 (0)), D.v (Value.int IntKind.u32 (0)), D.v (Value.int IntKind.u32 (0)), D.v (Value.int IntKind.u32 (0))] := by kernel_rfl
@[go_sem] theorem zeroD_193 : Xs Z0 193 = some [D.v (Value.int IntKind.u32 (0)), D.v (Value.int IntKind.u32 (0)), D.v (Value.int IntKind.u32 (0)), D.v (Value.int IntKind.u32 (0)), D.v (Value.int IntKind.u32 (0)), D.v (Value.int IntKind.u32 (0)), D.v (Value.int IntKind.u32 (0)), D.v (Value.int IntKind.u32 (0))] := by kernel_rfl
@[go_sem] theorem zeroD_196 : Xs Z0 196 = some [D.v (Value.int IntKind.u32 (0)), D.v (Value.int IntKind.u32 (0)), D.v (Value.int IntKind.u32 (0)), D.v (Value.int IntKind.u32 (0)), D.v (Value.int IntKind.u32 (0)), D.v (Value.int IntKind.u32 (0)), D.v (Value.int IntKind.u32 (0)), D.v (Value.int IntKind.u32 (0)), D.v (Value.slice none 0 0), D.v (Value.int IntKind.i64 (0))] := by kernel_rfl
theorem ent_3 : entB Z0 3 = true := by kernel_rfl
theorem ent_11 : entB Z0 11 = true := by kernel_rfl
theorem ent_12 : entB Z0 12 = true := by kernel_rfl
theorem ent_14 : entB Z0 14 = true := by kernel_rfl
theorem ent_15 : entB Z0 15 = true := by kernel_rfl
theorem ent_17 : entB Z0 17 = true := by kernel_rfl
theorem ent_18 : entB Z0 18 = true := by kernel_rfl
theorem ent_21 : entB Z0 21 = true := by kernel_rfl
theorem ent_24 : entB Z0 24 = true := by kernel_rfl
theorem ent_25 : entB Z0 25 = true := by kernel_rfl
theorem ent_27 : entB Z0 27 = true := by kernel_rfl
theorem ent_28 : entB Z0 28 = true := by kernel_rfl
theorem ent_29 : entB Z0 29 = true := by kernel_rfl
theorem ent_30 : entB Z0 30 = true := by kernel_rfl
theorem ent_31 : entB Z0 31 = true := by kernel_rfl
theorem ent_32 : entB Z0 32 = true := by kernel_rfl
theorem ent_36 : entB Z0 36 = true := by kernel_rfl
theorem Zh1 : entB Z0 40 = true := by kernel_rfl
theorem Uu : entB Z0 41 = true := by kernel_rfl
theorem ent_42 : entB Z0 42 = true := by kernel_rfl
theorem ent_44 : entB Z0 44 = true := by kernel_rfl
theorem ent_45 : entB Z0 45 = true := by kernel_rfl
theorem ent_46 : entB Z0 46 = true := by kernel_rfl
theorem ent_47 : entB Z0 47 = true := by kernel_rfl
theorem ent_48 : entB Z0 48 = true := by kernel_rfl
theorem ent_49 : entB Z0 49 = true := by kernel_rfl
theorem ent_50 : entB Z0 50 = true := by kernel_rfl
theorem ent_51 : entB Z0 51 = true := by kernel_rfl
theorem ent_52 : entB Z0 52 = true := by kernel_rfl
theorem ent_55 : entB Z0 55 = true := by kernel_rfl
theorem ent_56 : entB Z0 56 = true := by kernel_rfl
theorem ent_59 : entB Z0 59 = true := by kernel_rfl
theorem ent_60 : entB Z0 60 = true := by kernel_rfl
theorem ent_61 : entB Z0 61 = true := by kernel_rfl
theorem Zw9 : entB Z0 62 = true := by kernel_rfl
theorem Zh0 : entB Z0 63 = true := by kernel_rfl
theorem ent_64 : entB Z0 64 = true := by kernel_rfl
theorem Zw8 : entB Z0 65 = true := by kernel_rfl
theorem ent_67 : entB Z0 67 = true := by kernel_rfl
theorem ent_68 : entB Z0 68 = true := by kernel_rfl
theorem ent_69 : entB Z0 69 = true := by kernel_rfl
theorem ent_70 : entB Z0 70 = true := by kernel_rfl
theorem ent_71 : entB Z0 71 = true := by kernel_rfl
theorem ent_72 : entB Z0 72 = true := by kernel_rfl
theorem ent_73 : entB Z0 73 = true := by kernel_rfl
theorem ent_74 : entB Z0 74 = true := by kernel_rfl
theorem ent_75 : entB Z0 75 = true := by kernel_rfl
theorem ent_78 : entB Z0 78 = true := by kernel_rfl
theorem Zl3 : entB Z0 79 = true := by kernel_rfl
theorem ent_80 : entB Z0 80 = true := by kernel_rfl
theorem ent_81 : entB Z0 81 = true := by kernel_rfl
theorem Zc7 : entB Z0 82 = true := by kernel_rfl
theorem Zs3 : entB Z0 83 = true := by kernel_rfl
theorem ent_84 : entB Z0 84 = true := by kernel_rfl
theorem ent_85 : entB Z0 85 = true := by kernel_rfl
theorem ent_86 : entB Z0 86 = true := by kernel_rfl
theorem ent_91 : entB Z0 91 = true := by kernel_rfl
theorem ent_92 : entB Z0 92 = true := by kernel_rfl
theorem ent_93 : entB Z0 93 = true := by kernel_rfl
theorem ent_94 : entB Z0 94 = true := by kernel_rfl
theorem ent_95 : entB Z0 95 = true := by kernel_rfl
theorem ent_96 : entB Z0 96 = true := by kernel_rfl
theorem ent_99 : entB Z0 99 = true := by kernel_rfl
theorem ent_100 : entB Z0 100 = true := by kernel_rfl
theorem ent_101 : entB Z0 101 = true := by kernel_rfl
theorem ent_102 : entB Z0 102 = true := by kernel_rfl
theorem ent_108 : entB Z0 108 = true := by kernel_rfl
theorem Zs5 : entB Z0 115 = true := by kernel_rfl
theorem Yb9 : entB Z0 116 = true := by kernel_rfl
theorem ent_122 : entB Z0 122 = true := by kernel_rfl
theorem ent_123 : entB Z0 123 = true := by kernel_rfl
theorem Yb8 : entB Z0 130 = true := by kernel_rfl
theorem ent_131 : entB Z0 131 = true := by kernel_rfl
theorem Yb7 : entB Z0 132 = true := by kernel_rfl
theorem ent_141 : entB Z0 141 = true := by kernel_rfl
theorem ent_148 : entB Z0 148 = true := by kernel_rfl
theorem ent_149 : entB Z0 149 = true := by kernel_rfl
theorem Zj9 : entB Z0 151 = true := by kernel_rfl
theorem Zs4 : entB Z0 152 = true := by kernel_rfl
theorem ent_161 : entB Z0 161 = true := by kernel_rfl
theorem ent_162 : entB Z0 162 = true := by kernel_rfl
theorem ent_163 : entB Z0 163 = true := by kernel_rfl
theorem Uo : entB Z0 174 = true := by kernel_rfl
theorem ent_175 : entB Z0 175 = true := by kernel_rfl
theorem ent_181 : entB Z0 181 = true := by kernel_rfl
theorem ent_182 : entB Z0 182 = true := by kernel_rfl
theorem Un : entB Z0 190 = true := by kernel_rfl
theorem mixd : Z0.follows .mixedOrders = true := by kernel_rfl
end
section
variable {P : Program} {G : Nat → D} {n : Nat} {e : Nat → D} {h : List Ob}
theorem Zg6 {j : Nat} : Zd9 (fun i => i == j) h = h.set j .dead := by
 apply List.ext_getElem?
 intro i
 unfold Zd9
 rw [List.getElem?_mapIdx, List.getElem?_set]
 by_cases hij : j = i
 · subst hij
   cases hj : h[j]? with
   | none => rw [if_pos rfl, if_neg (by simpa using hj)]; rfl
   | some ob => rw [if_pos rfl, if_pos (Z5.1 hj).1]; simp
 · rw [if_neg hij]
   cases hi : h[i]? with
   | none => rfl
   | some ob => simp [Ne.symm hij]
theorem Sit_give {B : Base} {a : Act} {w : World} (j t : Nat) (r : Sit G B ⟨n, e, h⟩ a w) : Sit G B ⟨n, upd e t (cvD (fun i => i == j) h (e t)), h.set j .dead⟩ a w := by
 obtain ⟨hd, p, r⟩ := r
 obtain ⟨p', o, ev, q⟩ := Ok.give r.ok (fun i => i == j)
 rw [Zg6] at o ev q
 refine ⟨hd, p', o, r.evo.trans ev, fun t' => ?_, r.size, r.defers⟩
 show rd _ _ _ (upd e t _ t') _
 unfold upd
 by_cases ht : t' = t
 · rw [if_pos ht, ht]; exact q _ _ (r.tmp t)
 · rw [if_neg ht]; exact ev.rd r.ok (r.tmp t')
theorem ao_give {ops : Array Oper} {l : List Oper} {Q : S → Prop} (j t : Nat) (k : ao P G ops l Q ⟨n, upd e t (cvD (fun i => i == j) h (e t)), h.set j .dead⟩) : ao P G ops l Q ⟨n, e, h⟩ := fun B a w r R hR => k B a w (Sit_give j t r) R hR
theorem aw_give {c : Code} {Q : Exit → S → Prop} (j t : Nat) (k : aw P G c Q ⟨n, upd e t (cvD (fun i => i == j) h (e t)), h.set j .dead⟩) : aw P G c Q ⟨n, e, h⟩ := fun B a w r => k B a w (Sit_give j t r)
@[go_sem] theorem buildD_all {parts : List (Nat × D)} {t : TypeId} (q : Uq P t = true) : Zb0 P t parts = (Xs P t).bind fun z => Zu5 (plT P t) z parts := by unfold Zb0; rw [if_pos q]
@[go_sem] theorem fillD_nil {pl : Nat → Option (Nat × Nat)} {cs : List D} : Zu5 pl cs [] = some cs := rfl
@[go_sem] theorem fillD_cons {pl : Nat → Option (Nat × Nat)} {cs : List D} {i : Nat} {d : D} {rest : List (Nat × D)} : Zu5 pl cs ((i, d) :: rest) = match pl i, d.cells with
 | some (off, sz), some es => if es.length = sz ∧ off + sz ≤ cs.length then Zu5 pl (putL cs off es) rest else none
 | _, _ => none := rfl
@[go_sem] theorem putL_cons {α : Type} {a b : α} {l m : List α} : putL (a :: l) 0 (b :: m) = b :: putL l 0 m := by simp [putL]
@[go_sem] theorem putL_nil {α : Type} {l : List α} {o : Nat} : putL l o [] = l := by simp [putL]
@[go_sem] theorem putL_suc {α : Type} {a : α} {l m : List α} {o : Nat} : putL (a :: l) (o + 1) m = a :: putL l o m := by simp [putL, Nat.add_right_comm]
attribute [go_sem] litD Um Option.map_some Z4 List.length_nil and_self Option.bind_some
end
section
section
variable {P : Program} {G : Nat → D} {n : Nat} {e : Nat → D} {h : List Ob} {ops : Array Oper} {rest : List Oper} {Q : S → Prop} {t : Nat} {ty : TypeId} {pos : String} {aft : Array Edge} {gd : Option (Nat × Bool)} {x y : Operand} {u u' i j m m' e' k' e2 k2 by' : Nat} {xs ys : List (List D)}
theorem ao_app (hw : Yc ops gd e = some true) (ht : decide (t < n) = true) (hx : ev G e x = .buf i m) (hi : h[i]? = some (.buf e' k' xs)) (hm : xs.length = m) (ha : apT P u = some (e', k', by')) (hs : srcD P h u u' (ev G e y) = some ys) (hk : X9 k' ys) (hb : (m + ys.length) * (by' + 1) ≤ 140737488355328)
 (k : ao P G ops rest Q ⟨n, upd e t (.buf i (m + ys.length)), h.set i (.buf e' k' (xs ++ ys))⟩) : ao P G ops (⟨some t, .call ⟨.builtin .append, #[x, y], #[u, u']⟩, ty, pos, aft, gd⟩ :: rest) Q ⟨n, e, h⟩ := by
 refine ao1 hw ht fun K HK => ?_
 rw [aOp_bi]
 show biA P h .append [u, u'] [ev G e x, ev G e y] K
 rw [hx, biA_append]
 exact ⟨e', k', by', ys, ha, hs, hk, xs, hi, hm, hb, HK _ _ k⟩
theorem Wf (hw : Yc ops gd e = some true) (ht : decide (t < n) = true) (hx : ev G e x = .buf i m) (hy : ev G e y = .buf j m') (hi : h[i]? = some (.buf e' k' xs)) (hm : xs.length = m) (ha : apT P u = some (e', k', by')) (hj : h[j]? = some (.buf e2 k2 ys)) (hm' : ys.length = m') (hk : X9 k' ys) (hb : (m + ys.length) * (by' + 1) ≤ 140737488355328)
 (k : ao P G ops rest Q ⟨n, upd e t (.buf i (m + ys.length)), h.set i (.buf e' k' (xs ++ ys))⟩) : ao P G ops (⟨some t, .call ⟨.builtin .append, #[x, y], #[u, u]⟩, ty, pos, aft, gd⟩ :: rest) Q ⟨n, e, h⟩ := ao_app hw ht hx hi hm ha (src_buf hy hj hm') hk hb k
theorem Js (hw : Yc ops gd e = some true) (ht : decide (t < n) = true) (hx : ev G e x = .buf i m) (hi : h[i]? = some (.buf e' k' xs)) (hm : xs.length = m) (ha : apT P u = some (e', k', by')) (hs : srcD P [] u u' (ev G e y) = some ys) (hk : X9 k' ys) (hb : (m + ys.length) * (by' + 1) ≤ 140737488355328)
 (k : ao P G ops rest Q ⟨n, upd e t (.buf i (m + ys.length)), h.set i (.buf e' k' (xs ++ ys))⟩) : ao P G ops (⟨some t, .call ⟨.builtin .append, #[x, y], #[u, u']⟩, ty, pos, aft, gd⟩ :: rest) Q ⟨n, e, h⟩ := ao_app hw ht hx hi hm ha (src_any hs) hk hb k
end
end
section
theorem Yb (m : Nat) (l : List UInt8) : low m (.sl 1 (byD l)) := by
 rw [low, Ji]
 intro row hr
 obtain ⟨b, _, rfl⟩ := List.mem_map.1 hr
 simp [lowL, low]
theorem lowH_set {m : Nat} {h : List Ob} {i : Nat} {ob : Ob} (q : lowH m h) (r : Zl8 m ob) : lowH m (h.set i ob) := fun x hx => by
 rcases List.mem_or_eq_of_mem_set hx with h | rfl
 · exact q x h
 · exact r
theorem J9 {h : List Ob} {i : Nat} {ob : Ob} (hi : h[i]? = some ob) : h.set i ob = h := by
 apply List.ext_getElem?
 intro j
 by_cases hij : i = j
 · subst hij; rw [List.getElem?_set_self (Z5.1 hi).1, hi]
 · rw [List.getElem?_set_ne hij]
theorem byD_app (a b : List UInt8) : byD a ++ byD b = byD (a ++ b) := by simp [byD]
section
variable {P : Program} {G : Nat → D} {n : Nat} {e : Nat → D} {h : List Ob}
theorem Sit.via {B : Base} {a : Act} {w : World} {hd hd' : List Value} {p p' : Nat → Bool} {h' : List Ob} (r : Sat G B ⟨n, e, h⟩ a w hd p) (o : Ok G w hd' h' p') (ev : Evo w hd h p w hd' h' p') : Sit G B ⟨n, e, h'⟩ a w :=
 ⟨hd', p', o, r.evo.trans ev, fun t => ev.rd r.ok (r.tmp t), r.size, r.defers⟩
theorem rd_nilbuf {hd : List Value} {W : World} {j E k : Nat} {u : Value} (hj : h[j]? = some (.buf E k [])) (hu : hd[j]? = some (.slice none 0 0)) (q : rd hd h W (.v (.slice none 0 0)) u) : rd hd h W (.buf j 0) u := by
 rw [rd] at q
 subst q
 rw [rd]
 exact ⟨⟨_, _, rfl⟩, .of hj rfl, fun e k xs hx => by rw [hj] at hx; cases hx; exact ⟨Z6 _, fun _ => hu⟩⟩
theorem Zt8 {B : Base} {a : Act} {w : World} (E k : Nat) {i : Nat} {xs bs : List D} (hi : h[i]? = some (.cells (xs ++ .v (.slice none 0 0) :: bs))) (r : Sit G B ⟨n, e, h⟩ a w) : Sit G B ⟨n, e, (h.set i (.cells (xs ++ .buf h.length 0 :: bs))) ++ [.buf E k []]⟩ a w := by
 have hil := (Z5.1 hi).1
 obtain ⟨hd, p, r⟩ := r
 obtain ⟨o, ev⟩ := Ok.grow (ob := .buf E k []) (u := .slice none 0 0) (w' := w) r.ok rfl rfl rfl (Z6 _) (fun _ _ => rfl) (fun b hb => by cases hb) (fun c s => ⟨[], World.ownsRow_nil _ _ _ _, by simp [rdL], fun row h => by simp at h, fun g h => by cases h⟩)
 have r1 : Sat G B ⟨n, e, h ++ [.buf E k []]⟩ a w (hd ++ [.slice none 0 0]) _ := ⟨o, r.evo.trans ev, fun t => ev.rd r.ok (r.tmp t), r.size, r.defers⟩
 have hl : i < hd.length := by rw [r.ok.len]; exact hil
 obtain ⟨u, hu⟩ : ∃ u, hd[i]? = some u := ⟨_, List.getElem?_eq_getElem hl⟩
 have hi2 : (h ++ [Ob.buf E k []])[i]? = some (.cells (xs ++ .v (.slice none 0 0) :: bs)) := by rw [Z8 hil, hi]
 have hu2 : (hd ++ [Value.slice none 0 0])[i]? = some u := by rw [Z8 hl, hu]
 obtain ⟨BB, cs, t, e1, e2, e3, e4⟩ := o.ob i _ u hi2 hu2
 have e5 : rdL (hd ++ [Value.slice none 0 0]) (h ++ [.buf E k []]) (only (fun b => p b && b != w.heap.size) w) (xs ++ .buf h.length 0 :: bs) cs.toList := by
  rw [Yk] at e3 ⊢
  refine ⟨by simpa using e3.1, fun j d hj => ?_⟩
  by_cases hjl : j = xs.length
  · subst hjl
    simp at hj; subst hj
    obtain ⟨u', h1, h2⟩ := e3.2 xs.length (.v (.slice none 0 0)) (by simp)
    exact ⟨u', h1, rd_nilbuf (k := k) (E := E) (by simp) (by rw [← r.ok.len]; simp) h2⟩
  · refine e3.2 j d ?_
    rw [List.getElem?_append] at hj ⊢
    split at hj
    · rename_i hlt; rw [if_pos hlt]; exact hj
    · rename_i hge
      rw [if_neg hge]
      obtain ⟨m, hm⟩ : ∃ m, j - xs.length = m + 1 := ⟨j - xs.length - 1, by omega⟩
      rw [hm] at hj ⊢
      simpa using hj
 obtain ⟨o2, ev2⟩ := Ok.repl (ob' := .cells (xs ++ .buf h.length 0 :: bs)) (u' := u) (w' := w) o hi2 hu2 rfl rfl rfl rfl (Z6 _) (fun _ _ _ => rfl) (fun b hb => .inl hb) (fun _ _ => rfl) (fun _ _ _ h => by cases h) (fun c s => by
  refine ⟨BB, cs, t, e1, e2, Yw c s _ _ e5, by simp [e4]⟩)
 have := Sit.via r1 o2 ev2
 rwa [List.set_append_left _ _ hil] at this
theorem aw_nilcell {c : Code} {Q : Exit → S → Prop} (E k i : Nat) (xs bs : List D) (hi : h[i]? = some (.cells (xs ++ .v (.slice none 0 0) :: bs))) (q : aw P G c Q ⟨n, e, (h.set i (.cells (xs ++ .buf h.length 0 :: bs))) ++ [.buf E k []]⟩) : aw P G c Q ⟨n, e, h⟩ := fun B a w r => q B a w (Zt8 E k hi r)
theorem Zc2 {ops : Array Oper} {l : List Oper} {Q : S → Prop} (E k i : Nat) (xs bs : List D) (hi : h[i]? = some (.cells (xs ++ .v (.slice none 0 0) :: bs))) (q : ao P G ops l Q ⟨n, e, (h.set i (.cells (xs ++ .buf h.length 0 :: bs))) ++ [.buf E k []]⟩) : ao P G ops l Q ⟨n, e, h⟩ := fun B a w r R hR => q B a w (Zt8 E k hi r) R hR
end
end
end Go.Proofs.YtgkjcmglcnhpaaaGreatDoor
