/-
  What the statements of the chapter share, part 03: WSpec, VWr, VLat.
-/
import Derived.Test.YtmdjnaobllajmaaGreatDoorE01
import Derived.Test.YtmdjnaobllajmaaGreatDoorE02
import GoSem.Claims
set_option linter.unusedVariables false
set_option linter.unusedSimpArgs false
set_option maxRecDepth 100000
set_option maxHeartbeats 8000000
namespace Go.Proofs.YtmdjnaobllajmaaGreatDoor
open Go.RowKit
def uintE (n : Nat) : List UInt8 := if n < 128 then [UInt8.ofNat n] else UInt8.ofNat (n % 128 + 128) :: uintE (n / 128)
 termination_by n
 decreasing_by omega
theorem uintE_lt {n : Nat} (h : n < 128) : uintE n = [UInt8.ofNat n] := by rw [uintE, if_pos h]
theorem uintE_ge {n : Nat} (h : 128 ≤ n) : uintE n = UInt8.ofNat (n % 128 + 128) :: uintE (n / 128) := by rw [uintE, if_neg (by omega)]
theorem uintE_len (k : Nat) : ∀ n, n < 128 ^ k → 1 ≤ k → (uintE n).length ≤ k ∧ 1 ≤ (uintE n).length := by
 induction k with
 | zero => intro n _ h; omega
 | succ k ih =>
   intro n hn _
   by_cases h : n < 128
   · rw [uintE_lt h]; simp
   · rw [uintE_ge (by omega)]
     have hk : 1 ≤ k := by
      rcases Nat.eq_zero_or_pos k with h0 | h0
      · subst h0; simp at hn; omega
      · exact h0
     have hd : n / 128 < 128 ^ k := by
      rw [Nat.pow_succ] at hn
      exact Nat.div_lt_of_lt_mul (by rw [Nat.mul_comm]; exact hn)
     have := ih (n / 128) hd hk
     simp only [List.length_cons]
     omega
theorem uintE_len10 (n : Nat) (h : n < 18446744073709551616) : (uintE n).length ≤ 10 ∧ 1 ≤ (uintE n).length := uintE_len 10 n (by omega) (by omega)
def zz (n : Int) : Nat := if 0 ≤ n then 2 * n.toNat else 2 * (-(n + 1)).toNat + 1
def unzz (n : Nat) : Int := if n % 2 = 0 then (n / 2 : Nat) else -((n / 2 : Nat) : Int) - 1
theorem unzz_zz (n : Int) : unzz (zz n) = n := by
 unfold unzz zz
 by_cases h : 0 ≤ n
 · rw [if_pos h, if_pos (by omega)]; omega
 · rw [if_neg h, if_neg (by omega)]; omega
theorem zz_unzz (n : Nat) : zz (unzz n) = n := by
 unfold unzz zz
 by_cases h : n % 2 = 0
 · rw [if_pos h, if_pos (by omega)]; omega
 · rw [if_neg h, if_neg (by omega)]; omega
theorem zz_lt (n : Int) (h1 : -9223372036854775808 ≤ n) (h2 : n ≤ 9223372036854775807) : zz n < 18446744073709551616 := by
 unfold zz
 split <;> omega
theorem unzz_bd (n : Nat) (h : n < 18446744073709551616) : -9223372036854775808 ≤ unzz n ∧ unzz n ≤ 9223372036854775807 := by
 unfold unzz
 split <;> omega
def intE (n : Int) : List UInt8 := uintE (zz n)
def bytesE (b : List UInt8) : List UInt8 := uintE b.length ++ b
def textE (s : ByteArray) : List UInt8 := uintE s.size ++ s.data.toList
def boolE (b : Bool) : List UInt8 := [if b then 1 else 0]
def numF : Nat → List UInt8 → Option (Nat × Nat)
 | _, [] => none
 | i, b :: t => if 10 ≤ i then none else if i = 9 ∧ 1 < b.toNat then none
   else if b.toNat < 128 then (if b.toNat = 0 ∧ i ≠ 0 then none else some (b.toNat, 1))
   else match numF (i + 1) t with
    | none => none
    | some (n, c) => some (b.toNat % 128 + 128 * n, c + 1)
theorem numF_nil (i : Nat) : numF i [] = none := by unfold numF; rfl
theorem numF_ge {i : Nat} (l : List UInt8) (h : 10 ≤ i) : numF i l = none := by
 cases l with
 | nil => exact numF_nil i
 | cons b t => rw [numF, if_pos h]
theorem numF_big {i : Nat} {b : UInt8} (t : List UInt8) (h : i = 9 ∧ 1 < b.toNat) : numF i (b :: t) = none := by
 rw [numF, if_neg (by omega), if_pos h]
theorem numF_last {i : Nat} {b : UInt8} (t : List UInt8) (hi : i < 10) (h9 : ¬ (i = 9 ∧ 1 < b.toNat)) (h : b.toNat < 128) : numF i (b :: t) = if b.toNat = 0 ∧ i ≠ 0 then none else some (b.toNat, 1) := by
 rw [numF, if_neg (by omega), if_neg h9, if_pos h]
theorem numF_more {i : Nat} {b : UInt8} (t : List UInt8) (hi : i < 10) (h9 : ¬ (i = 9 ∧ 1 < b.toNat)) (h : ¬ b.toNat < 128) : numF i (b :: t) = match numF (i + 1) t with
 | none => none
 | some (n, c) => some (b.toNat % 128 + 128 * n, c + 1) := by
 rw [numF, if_neg (by omega), if_neg h9, if_neg h]
theorem numF_sound : ∀ (l : List UInt8) (i : Nat) (n c : Nat), numF i l = some (n, c) → c ≤ l.length ∧ 1 ≤ c ∧ i + c ≤ 10 ∧ (i = 0 ∨ n ≠ 0) ∧ n < 2 ^ (64 - 7 * i) ∧ l.take c = uintE n
 | [], i, n, c, h => by rw [numF_nil] at h; cases h
 | b :: t, i, n, c, h => by
   by_cases hi : 10 ≤ i
   · rw [numF_ge _ hi] at h; cases h
   by_cases h9 : i = 9 ∧ 1 < b.toNat
   · rw [numF_big t h9] at h; cases h
   have hb : b.toNat < 256 := b.toNat_lt
   by_cases hl : b.toNat < 128
   · rw [numF_last t (by omega) h9 hl] at h
     by_cases hz : b.toNat = 0 ∧ i ≠ 0
     · rw [if_pos hz] at h; cases h
     · rw [if_neg hz] at h
       simp only [Option.some.injEq, Prod.mk.injEq] at h
       obtain ⟨rfl, rfl⟩ := h
       refine ⟨by simp, Nat.le_refl _, by omega, by omega, ?_, ?_⟩
       · rcases Nat.lt_or_ge i 9 with hi9 | hi9
         · have : 2 ^ 7 ≤ 2 ^ (64 - 7 * i) := Nat.pow_le_pow_right (by omega) (by omega)
           omega
         · have : i = 9 := by omega
           subst this
           have : b.toNat ≤ 1 := by omega
           show b.toNat < 2 ^ 1
           omega
       · rw [uintE_lt hl]
         simp
   · rw [numF_more t (by omega) h9 hl] at h
     have hi9 : i < 9 := by omega
     cases hr : numF (i + 1) t with
     | none => rw [hr] at h; cases h
     | some p =>
       obtain ⟨m, d⟩ := p
       rw [hr] at h
       simp only [Option.some.injEq, Prod.mk.injEq] at h
       obtain ⟨rfl, rfl⟩ := h
       obtain ⟨h1, h2, h3, h4, h5, h6⟩ := numF_sound t (i + 1) m d hr
       have hm : m ≠ 0 := by omega
       refine ⟨by simp only [List.length_cons]; omega, by omega, by omega, .inr (by omega), ?_, ?_⟩
       · have e : 2 ^ (64 - 7 * i) = 128 * 2 ^ (64 - 7 * (i + 1)) := by
          rw [show 64 - 7 * i = 7 + (64 - 7 * (i + 1)) by omega, Nat.pow_add]
         rw [e]
         omega
       · rw [uintE_ge (by omega), List.take_succ_cons, h6]
         have e1 : (b.toNat % 128 + 128 * m) / 128 = m := by omega
         have e2 : (b.toNat % 128 + 128 * m) % 128 + 128 = b.toNat := by omega
         rw [e1, e2]
         simp
theorem numF_uintE : ∀ (k n i : Nat) (r : List UInt8), n < 2 ^ k → n < 2 ^ (64 - 7 * i) → i < 10 → (i = 0 ∨ n ≠ 0) → numF i (uintE n ++ r) = some (n, (uintE n).length)
 | k, n, i, r, hk, hn, hi, hz => by
   by_cases h : n < 128
   · rw [uintE_lt h]
     have hb : (UInt8.ofNat n).toNat = n := by simp; omega
     rw [List.singleton_append, numF_last r hi (by
      rw [hb]
      rintro ⟨rfl, h1⟩
      have : n < 2 ^ 1 := hn
      omega) (by rw [hb]; exact h), hb, if_neg (by omega)]
     rfl
   · rw [uintE_ge (by omega)]
     have hb : (UInt8.ofNat (n % 128 + 128)).toNat = n % 128 + 128 := by simp; omega
     have hi9 : i < 9 := by
      rcases Nat.lt_or_ge i 9 with h' | h'
      · exact h'
      · have : i = 9 := by omega
        subst this
        have : n < 2 ^ 1 := hn
        omega
     have hk' : k ≠ 0 := by rintro rfl; simp at hk; omega
     have e : 2 ^ (64 - 7 * i) = 128 * 2 ^ (64 - 7 * (i + 1)) := by
      rw [show 64 - 7 * i = 7 + (64 - 7 * (i + 1)) by omega, Nat.pow_add]
     have ih := numF_uintE (k - 1) (n / 128) (i + 1) r (by
      have : 2 ^ k = 2 * 2 ^ (k - 1) := by rw [← Nat.pow_succ', show (k - 1).succ = k by omega]
      omega) (by rw [e] at hn; omega) (by omega) (.inr (by omega))
     rw [List.cons_append, numF_more _ hi (by omega) (by rw [hb]; omega), ih]
     simp only [hb, List.length_cons, Option.some.injEq, Prod.mk.injEq, and_true]
     omega
 termination_by k => k
 decreasing_by omega
def u8v (c : UInt8) : Value := .int .u8 c.toNat
structure WrAt (w : World) (B : Nat) (v : Value) (bs : List UInt8) : Prop where
 blk : w.heap[B]? = some (.cells #[v] 69 (0, 0))
 own : w.ownsRow (B + 1) 5 1 v bs.length (bs.map u8v)
structure Wf (B : Nat) (v v' : Value) (w w' : World) : Prop where
 os : w'.os = w.os
 tape : w'.tape = w.tape
 output : w'.output = w.output
 size : w.heap.size ≤ w'.heap.size
 block : ∀ k, k < w.heap.size → k ≠ B → v.ownBlock ≠ some k → w'.heap[k]? = w.heap[k]?
 own : ∀ k, v'.ownBlock = some k → v.ownBlock = some k ∨ w.heap.size ≤ k
theorem Wf.refl (B : Nat) (v : Value) (w : World) : Wf B v v w w := ⟨rfl, rfl, rfl, Nat.le_refl _, fun _ _ _ _ => rfl, fun _ h => .inl h⟩
theorem Wf.trans {B : Nat} {v v' v'' : Value} {a b c : World} (h : Wf B v v' a b) (k : Wf B v' v'' b c) : Wf B v v'' a c :=
 ⟨k.os.trans h.os, k.tape.trans h.tape, k.output.trans h.output, Nat.le_trans h.size k.size,
  fun i hi hn ho => (k.block i (Nat.lt_of_lt_of_le hi h.size) hn (fun e => by rcases h.own i e with e' | e'; exact ho e'; omega)).trans (h.block i hi hn ho),
  fun i e => by
    rcases k.own i e with e' | e'
    · exact h.own i e'
    · exact .inr (Nat.le_trans h.size e')⟩
theorem Wf.below {B : Nat} {v v' : Value} {w w' : World} (h : Wf B v v' w w') (hv : ∀ k, v.ownBlock = some k → B ≤ k) (hB : B ≤ w.heap.size) : Below B w w' :=
 ⟨h.os, h.tape, h.output, h.size, fun k hk => h.block k (by omega) (by omega) (fun e => by have := hv k e; omega)⟩
theorem WrAt.lt {w : World} {B : Nat} {v : Value} {bs : List UInt8} (h : WrAt w B v bs) : B < w.heap.size := (Array.getElem?_eq_some_iff.1 h.blk).1
theorem WrAt.base {w : World} {B : Nat} {v : Value} {bs : List UInt8} (h : WrAt w B v bs) : ∀ k, v.ownBlock = some k → B + 1 ≤ k ∧ k < w.heap.size := fun k e => h.own.lt k e
theorem WrAt.cell {w : World} {B : Nat} {v : Value} {bs : List UInt8} (h : WrAt w B v bs) : w.cell? ⟨B, 0, none⟩ = some v := by rw [cell_of_row w B 0 _ _ _ h.blk]; rfl
theorem WrAt.free {w : World} {B : Nat} {v : Value} {bs : List UInt8} (h : WrAt w B v bs) : w.frozen? ⟨B, 0, none⟩ = false := by simp [World.frozen?, h.blk]
def WrPost (B : Nat) (v : Value) (w : World) (bs' : List UInt8) (w' : World) : Prop := ∃ v', WrAt w' B v' bs' ∧ Wf B v v' w w'
theorem wr_store {w w1 w2 : World} {B : Nat} {v v' : Value} {bs bs' : List UInt8} {N : Nat} {L : List Value} (h : WrAt w B v bs) (h1 : Wf B v v w w1) (hb : w1.heap[B]? = w.heap[B]?) (ho : ∀ k, v.ownBlock = some k → w1.heap[k]? = w.heap[k]?)
 (hA : Appd w1 w2 (B + 1) 5 1 v v' N L) (hN : N = bs'.length) (hL : L = bs'.map u8v) : WrPost B v w bs' (w2.setCell ⟨B, 0, none⟩ v') := by
 subst hN
 subst hL
 have hlt := h.lt
 have hne : ∀ k, v.ownBlock = some k → k ≠ B := fun k e => by have := (h.base k e).1; omega
 have hB2 : w2.heap[B]? = some (.cells #[v] 69 (0, 0)) := (hA.grown.block B (Nat.lt_of_lt_of_le hlt h1.size) (fun e => hne B e.symm rfl)).trans (hb.trans h.blk)
 have hv' : ∀ k, v'.ownBlock = some k → B + 1 ≤ k := fun k e => (hA.own.lt k e).1
 refine ⟨v', ⟨?_, ?_⟩, ?_⟩
 · have e : (w2.setCell ⟨B, 0, none⟩ v').heap[B]? = some (.cells (#[v].setIfInBounds 0 v') 69 (0, 0)) := by simp [World.setCell, Array.getElem?_modify, hB2]
   rw [e]; rfl
 · exact owns_of_block hA.own fun g hg => Below.heap_setCell _ _ _ _ (by have := hv' g hg; show g ≠ B; omega)
 · refine ⟨hA.grown.os.trans h1.os, hA.grown.tape.trans h1.tape, hA.grown.output.trans h1.output, by have := h1.size; have := hA.grown.size; simp [World.setCell]; omega, fun k hk hn hvk => ?_, fun k e => ?_⟩
   · rw [Below.heap_setCell _ _ _ _ hn, hA.grown.block k (Nat.lt_of_lt_of_le hk h1.size) (fun e => hvk e.symm)]
     exact h1.block k hk hn hvk
   · rcases hA.at_ with e' | e'
     · rw [e'] at e; exact .inl e
     · rw [e'] at e; injection e with e; have := h1.size; exact .inr (by omega)
theorem wr_after {w w1 w2 : World} {B : Nat} {v v' : Value} {bs : List UInt8} {N : Nat} {L : List Value} (h : WrAt w B v bs) (hs : w.heap.size ≤ w1.heap.size) (hb : w1.heap[B]? = w.heap[B]?) (hA : Appd w1 w2 (B + 1) 5 1 v v' N L) : w2.cell? ⟨B, 0, none⟩ = some v ∧ w2.frozen? ⟨B, 0, none⟩ = false := by
 have hB2 : w2.heap[B]? = some (.cells #[v] 69 (0, 0)) := (hA.grown.block B (Nat.lt_of_lt_of_le h.lt hs) (fun e => by have := (h.base B e.symm).1; omega)).trans (hb.trans h.blk)
 exact ⟨by rw [cell_of_row w2 B 0 _ _ _ hB2]; rfl, by simp [World.frozen?, hB2]⟩
theorem wf_alloc (B : Nat) (v : Value) (w : World) (O : Obj) : Wf B v v w (w.alloc O) := ⟨rfl, rfl, rfl, by simp, fun _ hk _ _ => Below.heap_alloc _ _ _ hk, fun _ h => .inl h⟩
theorem WrPost.after {B : Nat} {v v1 : Value} {w w1 w' : World} {bs : List UInt8} (h : Wf B v v1 w w1) (k : WrPost B v1 w1 bs w') : WrPost B v w bs w' := by
 obtain ⟨v', h1, h2⟩ := k
 exact ⟨v', h1, h.trans h2⟩
theorem or_byte : ∀ m : Fin 256, bits .or .u8 (m.val : Int) 128 = ((m.val % 128 + 128 : Nat) : Int) := by decide +kernel
theorem or_byte' (k : Nat) : bits .or .u8 ((k : Int) % 256) 128 = ((UInt8.ofNat (k % 128 + 128)).toNat : Int) := by
 have h := or_byte ⟨k % 256, by omega⟩
 have e : ((k : Int) % 256) = ((k % 256 : Nat) : Int) := by omega
 rw [e]
 rw [h]
 have e2 : (UInt8.ofNat (k % 128 + 128)).toNat = k % 128 + 128 := by simp; omega
 rw [e2]
 show ((k % 256 % 128 + 128 : Nat) : Int) = _
 omega
theorem one_byte (k : Nat) (h : k < 256) : (k : Int) = ((UInt8.ofNat k).toNat : Int) := by
 have : (UInt8.ofNat k).toNat = k := by simp; omega
 rw [this]
theorem infoByte : (Tryz.prog.info? 5).map (fun i => (i.zero, i.size, i.bytes)) = some (some (.int .u8 0), 1, 1) := by kernel_rfl
theorem wUint_any (B : Nat) (v : Value) (bs : List UInt8) (n : Nat) (w : World) (h : WrAt w B v bs) (hn : n < 18446744073709551616) (hl : bs.length ≤ 100000000) :
 Calls Tryz.prog 82 #[.pointer (some ⟨B, 0, none⟩), .int .u64 n] w fun e w' => e = .returned (.tuple #[]) ∧ WrPost B v w (bs ++ uintE n) w' := by
 obtain ⟨i0, hi0, hz0, hz1, hz2⟩ := info_parts infoByte
 have HW := hid h
 have HN := hid hn
 have HL := hid hl
 clear h hn hl
 go_enter Tryz.func82, Tryz.ntmps82
 go_wp2_with fail
 go_loopw [1] (fun i wr => ∃ (k : Nat) (cur : List UInt8) (v' : Value), i = .int .u64 k ∧ WrAt wr B v' cur ∧ Hid (Wf B v v' w wr) ∧ Hid (cur ++ uintE k = bs ++ uintE n) ∧ Hid (k < 18446744073709551616)) (fun i _ => (intOf i).toNat)
 case atStart => exact ⟨n, bs, v, rfl, HW.out, hid (Wf.refl _ _ _), hid rfl, HN⟩
 case round =>
  obtain ⟨k, cur, v', rfl, hw, HF, HE, HK⟩ := hrel
  have hcell := hw.cell
  have hfree := hw.free
  obtain ⟨av, cv, rfl⟩ := owns_shape hw.own
  have HW1 := hid hw
  clear hw
  have HOW := hid HW1.out.own
  have HLEN : Hid (cur.length + 1 ≤ maxLen ∧ (cur.length + 1) * 1 ≤ 140737488355328 ∧ B + 1 ≤ wr.heap.size) := hid (by
   have h1 := congrArg List.length HE.out
   rw [List.length_append, List.length_append] at h1
   have := (uintE_len10 n HN.out).1
   have := (uintE_len10 k HK.out).2
   have := HL.out
   have := HW1.out.lt
   unfold maxLen
   omega)
  by_cases hlt : k < 128
  · go_wp2_with (at_builtin; refine wpList_append rfl (.tmp 24) (.tmp 27) 46 rfl (B + 1) 5 1 1 Tryz.underlying46 hi0 hz0 hz1 hz2 rfl (by decide) (.slice av cur.length cv) cur.length (cur.map u8v) rfl (HOW.out.alloc _) _ 1 [.int .u8 k] rfl (Src.of_block (cs := #[.int .u8 k]) (heap_alloc_new _ _) 1 1 1 rfl (by simp [Value.oneCell'])) _ rfl _ rfl HLEN.out.1 HLEN.out.2.1 (by have := HLEN.out.2.2; simp; omega) ?_; intro na nc w2 had; obtain ⟨hc2, hf2⟩ := wr_after HW1.out (by simp) (Below.heap_alloc _ _ _ HW1.out.lt) had; have HAD := hid had; clear had)
    go_end0
    refine ⟨rfl, WrPost.after HF.out ?_⟩
    rw [← HE.out, uintE_lt hlt]
    refine wr_store HW1.out (wf_alloc _ _ _ _) (Below.heap_alloc _ _ _ HW1.out.lt) (fun g hg => Below.heap_alloc _ _ _ (HW1.out.base g hg).2) HAD.out (by rw [List.length_append]; rfl) ?_
    rw [List.map_append, one_byte k (by omega)]
    rfl
  · have hge : (128 : Int) ≤ (k : Int) := by omega
    go_wp2_with (at_builtin; refine wpList_append rfl (.tmp 12) (.tmp 16) 46 rfl (B + 1) 5 1 1 Tryz.underlying46 hi0 hz0 hz1 hz2 rfl (by decide) (.slice av cur.length cv) cur.length (cur.map u8v) rfl (HOW.out.alloc _) _ 1 [_] rfl (Src.of_block (cs := #[_]) (heap_alloc_new _ _) 1 1 1 rfl (by simp [Value.oneCell'])) _ rfl _ rfl HLEN.out.1 HLEN.out.2.1 (by have := HLEN.out.2.2; simp; omega) ?_; intro na nc w2 had; obtain ⟨hc2, hf2⟩ := wr_after HW1.out (by simp) (Below.heap_alloc _ _ _ HW1.out.lt) had; have HAD := hid had; clear had)
    have HP : Hid (∀ u, u = Value.slice na (cur.length + 1) nc → WrPost B (Value.slice av cur.length cv) wr (cur ++ [UInt8.ofNat (k % 128 + 128)]) (w2.setCell ⟨B, 0, none⟩ u)) := hid fun u hu => by
      subst hu
      refine wr_store HW1.out (wf_alloc _ _ _ _) (Below.heap_alloc _ _ _ HW1.out.lt) (fun g hg => Below.heap_alloc _ _ _ (HW1.out.base g hg).2) HAD.out (by rw [List.length_append]; rfl) ?_
      rw [List.map_append, or_byte']
      rfl
    obtain ⟨v2, hw2, hf⟩ := HP.out _ rfl
    refine ⟨⟨k / 128, cur ++ [UInt8.ofNat (k % 128 + 128)], v2, by go_num, hw2, hid (HF.out.trans hf), hid (by rw [← HE.out, uintE_ge (n := k) (by omega), List.append_assoc]; rfl), hid (by have := HK.out; omega)⟩, by simp [intOf]; omega⟩
theorem wBool_any (B : Nat) (v : Value) (bs : List UInt8) (b : Bool) (w : World) (h : WrAt w B v bs) (hl : bs.length ≤ 100000000) :
 Calls Tryz.prog 80 #[.pointer (some ⟨B, 0, none⟩), .bool b] w fun e w' => e = .returned (.tuple #[]) ∧ WrPost B v w (bs ++ boolE b) w' := by
 obtain ⟨i0, hi0, hz0, hz1, hz2⟩ := info_parts infoByte
 have hcell := h.cell
 have hfree := h.free
 obtain ⟨av, cv, rfl⟩ := owns_shape h.own
 have HW1 := hid h
 have HOW := hid h.own
 have HLEN : Hid (bs.length + 1 ≤ maxLen ∧ (bs.length + 1) * 1 ≤ 140737488355328 ∧ B + 1 ≤ w.heap.size) := hid (by have := h.lt; unfold maxLen; omega)
 clear h hl
 cases b
 · go_enter Tryz.func80, Tryz.ntmps80
   go_wp2_with (at_builtin; refine wpList_append rfl (.tmp 18) (.tmp 19) 46 rfl (B + 1) 5 1 1 Tryz.underlying46 hi0 hz0 hz1 hz2 rfl (by decide) (.slice av bs.length cv) bs.length (bs.map u8v) rfl (HOW.out.alloc _) _ 1 [.int .u8 0] rfl (Src.of_block (cs := #[.int .u8 0]) (heap_alloc_new _ _) 1 1 1 rfl (by simp [Value.oneCell'])) _ rfl _ rfl HLEN.out.1 HLEN.out.2.1 (by have := HLEN.out.2.2; simp; omega) ?_; intro na nc w2 had; obtain ⟨hc2, hf2⟩ := wr_after HW1.out (by simp) (Below.heap_alloc _ _ _ HW1.out.lt) had; have HAD := hid had; clear had)
   (try simp only [Exit.inBlock, Exit.then])
   first
    | go_end0
    | refine bodyPost_ret (results_none rfl _ _ _) rfl ?_
   refine ⟨rfl, wr_store HW1.out (wf_alloc _ _ _ _) (Below.heap_alloc _ _ _ HW1.out.lt) (fun g hg => Below.heap_alloc _ _ _ (HW1.out.base g hg).2) HAD.out (by rw [List.length_append]; rfl) (by rw [List.map_append]; rfl)⟩
 · go_enter Tryz.func80, Tryz.ntmps80
   go_wp2_with (at_builtin; refine wpList_append rfl (.tmp 9) (.tmp 10) 46 rfl (B + 1) 5 1 1 Tryz.underlying46 hi0 hz0 hz1 hz2 rfl (by decide) (.slice av bs.length cv) bs.length (bs.map u8v) rfl (HOW.out.alloc _) _ 1 [.int .u8 1] rfl (Src.of_block (cs := #[.int .u8 1]) (heap_alloc_new _ _) 1 1 1 rfl (by simp [Value.oneCell'])) _ rfl _ rfl HLEN.out.1 HLEN.out.2.1 (by have := HLEN.out.2.2; simp; omega) ?_; intro na nc w2 had; obtain ⟨hc2, hf2⟩ := wr_after HW1.out (by simp) (Below.heap_alloc _ _ _ HW1.out.lt) had; have HAD := hid had; clear had)
   (try simp only [Exit.inBlock, Exit.then])
   first
    | go_end0
    | refine bodyPost_ret (results_none rfl _ _ _) rfl ?_
   refine ⟨rfl, wr_store HW1.out (wf_alloc _ _ _ _) (Below.heap_alloc _ _ _ HW1.out.lt) (fun g hg => Below.heap_alloc _ _ _ (HW1.out.base g hg).2) HAD.out (by rw [List.length_append]; rfl) (by rw [List.map_append]; rfl)⟩
theorem strCells_u8v (s : ByteArray) : Lib.strCells s = s.data.toList.map u8v := rfl
theorem wText_any (B : Nat) (v : Value) (bs : List UInt8) (s : ByteArray) (w : World) (h : WrAt w B v bs) (hl : bs.length ≤ 90000000) (hs : s.size ≤ 1000000) :
 Calls Tryz.prog 83 #[.pointer (some ⟨B, 0, none⟩), .string s] w fun e w' => e = .returned (.tuple #[]) ∧ WrPost B v w (bs ++ textE s) w' := by
 obtain ⟨i0, hi0, hz0, hz1, hz2⟩ := info_parts infoByte
 have HU := hid (wUint_any B v bs s.size w h (by omega) (by omega))
 have HUL := hid (uintE_len10 s.size (by omega)).1
 have HL := hid hl
 have HS := hid hs
 have hs1 : (s.size : Int) ≤ 1000000 := by omega
 clear h hl hs
 go_enter Tryz.func83, Tryz.ntmps83
 go_wp2_with fail
 refine HU.out.mono ?_
 rintro e w1 ⟨rfl, v1, hw1, hf1⟩
 have HF1 := hid hf1
 clear hf1
 have hcell := hw1.cell
 have hfree := hw1.free
 generalize hcur : bs ++ uintE s.size = cur at hw1 hcell
 have HC := hid hcur
 obtain ⟨av, cv, rfl⟩ := owns_shape hw1.own
 have HW1 := hid hw1
 have HOW := hid hw1.own
 have HLEN : Hid (cur.length + s.size ≤ maxLen ∧ cur.length + s.size ≤ 140737488355328 ∧ B + 1 ≤ w1.heap.size) := hid (by
  have := hw1.lt
  have := HUL.out
  have := HL.out
  have := HS.out
  rw [← hcur, List.length_append]
  unfold maxLen
  omega)
 clear hw1 hcur
 go_wp2_with (at_builtin; refine wpList_appendS rfl (.tmp 13) (.tmp 14) 46 9 rfl (B + 1) 5 Tryz.underlying46 Tryz.underlying9 hi0 hz0 hz1 hz2 (.slice av cur.length cv) cur.length (cur.map u8v) rfl HOW.out s rfl _ rfl _ rfl HLEN.out.1 HLEN.out.2.1 HLEN.out.2.2 ?_; intro na nc w2 had; obtain ⟨hc2, hf2⟩ := wr_after HW1.out (Nat.le_refl _) rfl had; have HAD := hid had; clear had)
 go_end0
 refine ⟨rfl, WrPost.after HF1.out (wr_store HW1.out (Wf.refl _ _ _) rfl (fun _ _ => rfl) HAD.out ?_ ?_)⟩
 · rw [← HC.out]; unfold textE; simp only [List.length_append]; have : s.data.toList.length = s.size := rfl; omega
 · rw [← HC.out]; unfold textE; rw [strCells_u8v, ← List.map_append, List.append_assoc]
theorem all_attach {α : Type} (l : List α) (f : α → Bool) : (l.attach.all fun p => f p.1) = l.all f := by
  rw [Bool.eq_iff_iff]
  simp [List.all_eq_true]
def chainB : Lat → Bool
 | .mk k _ _ _ ps _ => decide (k = 1 ∨ k = 2 ∨ k = 3) || (decide (k = 7) && decide (ps.length = 2) && ps.attach.all fun p => chainB p.1)
 termination_by l => SizeOf.sizeOf l
 decreasing_by
  have := List.sizeOf_lt_of_mem p.2
  simp only [Lat.mk.sizeOf_spec]
  omega
theorem chainB_eq (l : Lat) : chainB l = (decide (l.kind = 1 ∨ l.kind = 2 ∨ l.kind = 3) || (decide (l.kind = 7) && decide (l.parts.length = 2) && l.parts.all chainB)) := by
 cases l with
 | mk k lo hi ns ps rs => rw [chainB, all_attach]; rfl
theorem cell_alloc {w : World} {p : Addr} {u : Value} (h : w.cell? p = some u) (o : Obj) : (w.alloc o).cell? p = some u :=
 (World.cell?_alloc_lt _ _ _ (World.block_lt_of_cell? w _ h)).trans h
theorem CellsAt.six {w : World} {b o : Nat} {c0 c1 c2 c3 c4 c5 : Value} (h : CellsAt w b o [c0, c1, c2, c3, c4, c5]) :
 w.cell? ⟨b, o, none⟩ = some c0 ∧ w.cell? ⟨b, o + 1, none⟩ = some c1 ∧ w.cell? ⟨b, o + 2, none⟩ = some c2 ∧ w.cell? ⟨b, o + 3, none⟩ = some c3 ∧ w.cell? ⟨b, o + 4, none⟩ = some c4 ∧ w.cell? ⟨b, o + 5, none⟩ = some c5 :=
 ⟨h 0 (by simp), h 1 (by simp), h 2 (by simp), h 3 (by simp), h 4 (by simp), h 5 (by simp)⟩
theorem CellsAt.six_alloc {w : World} {b o : Nat} {c0 c1 c2 c3 c4 c5 : Value} (h : CellsAt w b o [c0, c1, c2, c3, c4, c5]) :
 (∀ O, (w.alloc O).cell? ⟨b, o, none⟩ = some c0) ∧ (∀ O, (w.alloc O).cell? ⟨b, o + 1, none⟩ = some c1) ∧ (∀ O, (w.alloc O).cell? ⟨b, o + 2, none⟩ = some c2) ∧ (∀ O, (w.alloc O).cell? ⟨b, o + 3, none⟩ = some c3) ∧ (∀ O, (w.alloc O).cell? ⟨b, o + 4, none⟩ = some c4) ∧ (∀ O, (w.alloc O).cell? ⟨b, o + 5, none⟩ = some c5) := by
 obtain ⟨h0, h1, h2, h3, h4, h5⟩ := h.six
 exact ⟨cell_alloc h0, cell_alloc h1, cell_alloc h2, cell_alloc h3, cell_alloc h4, cell_alloc h5⟩
theorem sizeOf_part {l p : Lat} (h : p ∈ l.parts) : SizeOf.sizeOf p < SizeOf.sizeOf l := by
 cases l with
 | mk k lo hi ns ps rs =>
   have := List.sizeOf_lt_of_mem h
   simp only [Lat.parts] at this
   simp only [Lat.mk.sizeOf_spec]
   omega
theorem chain_any (n : Nat) : ∀ (l : Lat) (cs : List Value) (w : World), SizeOf.sizeOf l ≤ n → latRd w l cs →
 Calls Tryz.prog 151 #[.agg cs.toArray] w fun e w' => e = .returned (.bool (chainB l)) ∧ Below w.heap.size w w' := by
 induction n with
 | zero => intro l cs w hn; cases l; simp at hn
 | succ n ih =>
   intro l cs w hn hl
   obtain ⟨vn, vp, vr, rfl, hi, hns, hps, hrs⟩ := (latRd_iff _ _ _).1 hl
   obtain ⟨k, lo, hi', ns, ps, rs⟩ := l
   simp only [Lat.kind, Lat.lo, Lat.hi, Lat.names, Lat.parts, Lat.rules] at hi hns hps hrs ⊢
   obtain ⟨ap, cp, rfl, hcp, hmp⟩ := hps.shape
   have hb : Below w.heap.size w (w.alloc (.cells #[.int .i64 k, .int .i64 lo, .int .i64 hi', vn, .slice ap ps.length cp, vr] 26)) := (Below.refl _ _).alloc (Nat.le_refl _) _
   by_cases h1 : k = 1 ∨ k = 2 ∨ k = 3
   · have HC : Hid (chainB (.mk k lo hi' ns ps rs) = true) := hid (by rw [chainB_eq]; simp only [Lat.kind, h1, decide_true, Bool.true_or])
     rcases h1 with rfl | rfl | rfl
     all_goals
      go_enter Tryz.func151, Tryz.ntmps151
      go_wp2
      go_ret
      exact ⟨ret_bool HC.out.symm, hb⟩
   · by_cases h7 : k = 7
     · subst h7
       by_cases h2 : ps.length = 2
       · obtain ⟨p, q, rfl⟩ : ∃ p q, ps = [p, q] := by
          match ps, h2 with
          | [p, q], _ => exact ⟨p, q, rfl⟩
         obtain ⟨a', cp', heq, _, _, hcell⟩ := hps
         cases heq
         obtain ⟨b, o, cs0, hab, hl0, hc0, hr0⟩ := hcell 0 (by simp)
         obtain ⟨b', o', cs1, hab', hl1, hc1, hr1⟩ := hcell 1 (by simp)
         subst hab
         cases hab'
         simp only [List.getElem_cons_zero, List.getElem_cons_succ] at hr0 hr1
         obtain ⟨n0, p0, r0, rfl, _⟩ := (latRd_iff _ _ _).1 hr0
         obtain ⟨n1, p1, r1, rfl, _⟩ := (latRd_iff _ _ _).1 hr1
         simp only [Nat.zero_mul, Nat.add_zero, Nat.one_mul] at hc0 hc1
         obtain ⟨f0, f1, f2, f3, f4, f5⟩ := hc0.six_alloc
         skip
         have HC : Hid (chainB (.mk 7 lo hi' ns [p, q] rs) = (chainB p && chainB q)) := hid (by rw [chainB_eq]; simp [Lat.kind, Lat.parts])
         have hsp : SizeOf.sizeOf p ≤ n := by have := sizeOf_part (l := .mk 7 lo hi' ns [p, q] rs) (p := p) (by simp [Lat.parts]); omega
         have hsq : SizeOf.sizeOf q ≤ n := by have := sizeOf_part (l := .mk 7 lo hi' ns [p, q] rs) (p := q) (by simp [Lat.parts]); omega
         have hb0 : ∀ {O}, Below w.heap.size w (w.alloc O) := fun {O} => (Below.refl _ _).alloc (Nat.le_refl _) O
         clear hb hl h1 h2
         go_enter Tryz.func151, Tryz.ntmps151
         go_wp2_with fail
         refine (ih p [.int .i64 p.kind, .int .i64 p.lo, .int .i64 p.hi, n0, p0, r0] _ hsp (latRd.below ((Below.refl _ _).alloc (Nat.le_refl _) _) _ _ hr0)).mono ?_
         rintro e w1 ⟨rfl, hb1⟩
         cases hcp' : chainB p
         · have HC2 : Hid (chainB (.mk 7 lo hi' ns [p, q] rs) = false) := hid (by rw [HC.out, hcp']; rfl)
           have HB1 := hid (hb0.trans (hb1.mono (by simp)))
           clear hb1
           go_wp2_with fail
           go_ret
           exact ⟨ret_bool HC2.out.symm, HB1.out⟩
         · have HC2 : Hid (chainB (.mk 7 lo hi' ns [p, q] rs) = chainB q) := hid (by rw [HC.out, hcp']; rfl)
           have HB1 := hid (hb0.trans (hb1.mono (by simp)))
           obtain ⟨g0, g1, g2, g3, g4, g5⟩ := (hc1.below HB1.out).six
           have hbox : w1.cell? ⟨w.heap.size, 4, none⟩ = some (.slice (some ⟨b, o, none⟩) 2 cp) := (hb1.cell (by simp)).trans (by rw [World.cell?_alloc_at _ _ _ _ rfl]; rfl)
           clear hb1
           go_wp2_with fail
           refine (ih q [.int .i64 q.kind, .int .i64 q.lo, .int .i64 q.hi, n1, p1, r1] _ hsq (latRd.below HB1.out _ _ hr1)).mono ?_
           rintro e w2 ⟨rfl, hb2⟩
           have HB2 := hid (HB1.out.trans (hb2.mono HB1.out.size))
           clear hb2
           go_wp2_with fail
           go_ret
           exact ⟨ret_bool HC2.out.symm, HB2.out⟩
       · have HC : Hid (chainB (.mk 7 lo hi' ns ps rs) = false) := hid (by rw [chainB_eq]; simp [Lat.kind, Lat.parts, h2])
         have e2 : ((ps.length : Int) == 2) = false := by simp; omega
         clear h2
         go_enter Tryz.func151, Tryz.ntmps151
         go_wp2
         go_ret
         exact ⟨ret_bool HC.out.symm, hb⟩
     · have HC : Hid (chainB (.mk k lo hi' ns ps rs) = false) := hid (by rw [chainB_eq]; simp only [Lat.kind, h1, h7, decide_false, Bool.false_or, Bool.false_and])
       have e1 : (k == 1) = false := by simp; omega
       have e2 : (k == 2) = false := by simp; omega
       have e3 : (k == 3) = false := by simp; omega
       have e7 : (k == 7) = false := by simp; omega
       clear h1 h7
       go_enter Tryz.func151, Tryz.ntmps151
       go_wp2
       go_ret
       exact ⟨ret_bool HC.out.symm, hb⟩
end Go.Proofs.YtmdjnaobllajmaaGreatDoor
