/-
  What the statements of the chapter share, part 11: PTln, VWr.
-/
import Derived.Test.YtmdjnaobllajmaaGreatDoorX05
import Derived.Test.YtmdjnaobllajmaaGreatDoorX07
import Derived.Test.YtmdjnaobllajmaaGreatDoorX09
import Derived.Test.YtmdjnaobllajmaaGreatDoorX10
import Derived.Lib.ItoaLen
set_option linter.unusedVariables false
set_option linter.unusedSimpArgs false
set_option maxRecDepth 100000
set_option maxHeartbeats 8000000
namespace Go.Proofs.YtmdjnaobllajmaaGreatDoor
open Go.RowKit
def totL (n : Nat) (xs : List (List UInt8)) : Nat := (xs.map fun x => x.length + n).sum
theorem totL_cons (n : Nat) (x : List UInt8) (t : List (List UInt8)) : totL n (x :: t) = x.length + n + totL n t := by unfold totL; rw [List.map_cons, List.sum_cons]
theorem joinTail_tot (sep : List UInt8) : ∀ xs : List (List UInt8), (Lib.joinTail sep xs).length = totL sep.length xs
 | [] => rfl
 | x :: t => by rw [joinTail_cons, List.length_append, List.length_append, joinTail_tot sep t, totL_cons]; omega
theorem join_tot (sep : List UInt8) (xs : List (List UInt8)) : (Lib.join xs sep).length ≤ totL sep.length xs := by
 cases xs with
 | nil => exact Nat.zero_le _
 | cons x t => rw [Lib.join_cons, List.length_append, joinTail_tot, totL_cons]; omega
theorem totL_le (n c : Nat) : ∀ xs : List (List UInt8), (∀ x ∈ xs, x.length + n ≤ c) → totL n xs ≤ c * xs.length
 | [], _ => Nat.zero_le _
 | x :: t, h => by
  have h1 := h x (by simp)
  have h2 := totL_le n c t fun y hy => h y (by simp [hy])
  rw [totL_cons, List.length_cons, Nat.mul_add]
  omega
theorem bsOf_le {s : ByteArray} (h : nameB s = true) : (bsOf s).length ≤ 16 := by
 have h1 := name_le h
 have h2 : (bsOf s).length = s.size := rfl
 omega
theorem tickT_le {t : Tk} (h : (0 ≤ t.process ∧ t.process ≤ 63) ∧ (0 ≤ t.n ∧ t.n ≤ 1000000000000000)) : (tickT t).length ≤ 43 := by
 have h1 := Lib.itoa_length_le t.process (by omega) (by omega)
 have h2 := Lib.itoa_length_le t.n (by omega) (by omega)
 unfold tickT
 rw [List.length_append, List.length_cons]
 omega
theorem entryT_le {e : En} (h : clockB e.clock = true) (hn : nameB e.name = true) : (entryT e).length ≤ 17 + 44 * e.clock.length := by
 have h1 := bsOf_le hn
 have h2 := join_tot [46] (e.clock.map tickT)
 have h3 := totL_le 1 44 (e.clock.map tickT) fun x hx => by
  obtain ⟨t, ht, rfl⟩ := List.mem_map.1 hx
  have := tickT_le (clockFrom_mem (-1) e.clock (by omega) h t ht)
  omega
 rw [List.length_map] at h3
 have h4 : ([46] : List UInt8).length = 1 := rfl
 rw [h4] at h2
 unfold entryT
 rw [List.length_append, List.length_cons]
 omega
theorem entsT_le : ∀ l : List En, (∀ e ∈ l, clockB e.clock = true ∧ nameB e.name = true) → totL 3 (l.map entryT) ≤ 20 * l.length + 44 * (l.map fun e => e.clock.length).sum
 | [], _ => Nat.zero_le _
 | e :: t, h => by
  have h1 := entryT_le (h e (by simp)).1 (h e (by simp)).2
  have h2 := entsT_le t fun x hx => h x (by simp [hx])
  rw [List.map_cons, totL_cons, List.length_cons, List.map_cons, List.sum_cons]
  omega
theorem item_le {nm : ByteArray} {t : List UInt8} {n : Nat} (h1 : nameB nm = true) (h2 : t.length + 100 ≤ 200 * n) : (bsOf nm ++ 58 :: 32 :: t).length + 2 ≤ 200 * n := by
 have := bsOf_le h1
 rw [List.length_append, List.length_cons, List.length_cons]
 omega
theorem zipT_le (p : Lat) : ∀ (ns : List ByteArray) (vs : List Val), (∀ s ∈ ns, nameB s = true) → (∀ v ∈ vs, (textV p v).length + 100 ≤ 200 * nodesN v) → totL 2 ((ns.zip vs).map fun x => bsOf x.1 ++ 58 :: 32 :: textV p x.2) ≤ 200 * nodesNs vs
 | [], _, _, _ => Nat.zero_le _
 | _ :: _, [], _, _ => Nat.zero_le _
 | n :: ns, v :: vs, h1, h2 => by
  have a := item_le (h1 n (by simp)) (h2 v (by simp))
  have c := zipT_le p ns vs (fun s hs => h1 s (by simp [hs])) fun x hx => h2 x (by simp [hx])
  rw [List.zip_cons_cons, List.map_cons, totL_cons, nodesNs]
  simp only at a ⊢
  omega
theorem prodT_le : ∀ (ns : List ByteArray) (ps : List Lat) (vs : List Val), (∀ s ∈ ns, nameB s = true) → elemsB ps vs = true → (∀ p ∈ ps, ∀ v, elemB p v = true → (textV p v).length + 100 ≤ 200 * nodesN v) → totL 2 (textProd ns ps vs) ≤ 200 * nodesNs vs
 | [], _, _, _, _, _ => by rw [textProd]; exact Nat.zero_le _
 | _ :: _, [], _, _, _, _ => by rw [textProd]; exact Nat.zero_le _
 | _ :: _, _ :: _, [], _, _, _ => by rw [textProd]; exact Nat.zero_le _
 | n :: ns, p :: ps, v :: vs, h1, he, H => by
  rw [elemsB, Bool.and_eq_true] at he
  have a := item_le (h1 n (by simp)) (H p (by simp) v he.1)
  have b := prodT_le ns ps vs (fun s hs => h1 s (by simp [hs])) he.2 fun q hq x hx => H q (by simp [hq]) x hx
  rw [textProd, totL_cons, nodesNs]
  omega
theorem partsT_le : ∀ (ps : List Lat) (vs : List Val), elemsB ps vs = true → (∀ p ∈ ps, ∀ v, elemB p v = true → (textV p v).length + 100 ≤ 200 * nodesN v) → totL 2 (textParts ps vs) ≤ 200 * nodesNs vs
 | [], _, _, _ => by rw [textParts]; exact Nat.zero_le _
 | _ :: _, [], _, _ => by rw [textParts]; exact Nat.zero_le _
 | p :: ps, v :: vs, he, H => by
  rw [elemsB, Bool.and_eq_true] at he
  have a := H p (by simp) v he.1
  have b := partsT_le ps vs he.2 fun q hq x hx => H q (by simp [hq]) x hx
  rw [textParts, totL_cons, nodesNs]
  omega
theorem nmGo_names (p : Bool) (full : List ByteArray) : ∀ (k : Nat) (l : List ByteArray), nmGo p full k l = true → ∀ s ∈ l, nameB s = true
 | _, [], _, s, hs => by simp at hs
 | k, x :: t, h, s, hs => by
  rw [nmGo, Bool.and_eq_true, Bool.and_eq_true] at h
  rcases List.mem_cons.1 hs with rfl | hs
  · exact h.1.1
  · exact nmGo_names p full (k + 1) t h.2 s hs
theorem prod_names {l : Lat} (h : WfL l) : ∀ s ∈ l.names, nameB s = true := by
 have h1 := h.spell
 unfold spellB at h1
 rw [Bool.not_eq_false', Bool.and_eq_true, Bool.and_eq_true] at h1
 exact nmGo_names _ _ _ _ h1.1.1
theorem text_len (f : Nat) : ∀ (l : Lat) (v : Val), SizeOf.sizeOf l ≤ f → WfL l → elemB l v = true → (textV l v).length + 100 ≤ 200 * nodesN v := by
 induction f with
 | zero => intro l v hn; cases l; simp at hn
 | succ f ih =>
  intro l v hn hwf hel
  have hk := hwf.kinds
  have hrg : ¬ _ := of_decide_eq_false hwf.ranges
  have hnm := prod_names hwf
  have hp : ∀ p ∈ l.parts, ∀ v, elemB p v = true → (textV p v).length + 100 ≤ 200 * nodesN v := fun p hp v => ih p v (by have := sizeOf_lpart hp; omega) (hwf.part hp)
  have hN := nodesN_eq v
  obtain ⟨k, lo, hi, ns, ps, rs⟩ := l
  simp only [Lat.kind, Lat.lo, Lat.hi, Lat.names, Lat.parts, Lat.rules] at hk hp hrg hnm
  have hkk : k = 1 ∨ (k = 2 ∨ k = 3) ∨ (k = 4 ∨ k = 10) ∨ k = 5 ∨ k = 6 ∨ k = 7 ∨ k = 8 ∨ k = 9 := by omega
  rcases hkk with rfl | e | e | rfl | rfl | rfl | rfl | rfl
  · rw [show textV (.mk 1 lo hi ns ps rs) v = flagT (decide (v.n = 1)) by rw [textV]; rfl]
    have : (flagT (decide (v.n = 1))).length ≤ 5 := by cases decide (v.n = 1) <;> decide
    omega
  · have hu := (isE_23 e).1 hel
    rw [show textV (.mk k lo hi ns ps rs) v = Lib.itoa v.n by rcases e with rfl | rfl <;> (rw [textV]; rfl)]
    have := Lib.itoa_length_le v.n (by omega) (by omega)
    omega
  · have hu := isE_410 e hel
    rw [show textV (.mk k lo hi ns ps rs) v = 123 :: (Lib.join (v.names.map bsOf) [44] ++ [125]) by rcases e with rfl | rfl <;> (rw [textV]; rfl)]
    have a := join_tot [44] (v.names.map bsOf)
    have b := totL_le 1 17 (v.names.map bsOf) fun x hx => by
     obtain ⟨s, hs, rfl⟩ := List.mem_map.1 hx
     have := bsOf_le (allowed_names hu.2 s hs)
     omega
    rw [List.length_map] at b
    have c : ([44] : List UInt8).length = 1 := rfl
    rw [c] at a
    rw [List.length_cons, List.length_append]
    simp only [List.length_singleton]
    omega
  · obtain ⟨_, hlen, hal, hm⟩ := isE_5.1 hel
    obtain ⟨p, rfl⟩ := List.length_eq_one_iff.1 (hk.2.1 rfl)
    rw [mapB_one] at hm
    rw [show textV (.mk 5 lo hi ns [p] rs) v = 123 :: (Lib.join ((v.names.zip v.parts).map fun x => bsOf x.1 ++ 58 :: 32 :: textV p x.2) [44, 32] ++ [125]) by rw [textV]; rfl]
    have a := join_tot [44, 32] ((v.names.zip v.parts).map fun x => bsOf x.1 ++ 58 :: 32 :: textV p x.2)
    have b := zipT_le p v.names v.parts (fun s hs => allowed_names hal s hs) fun x hx => hp p (by simp) x (hm x hx).1
    have c : ([44, 32] : List UInt8).length = 2 := rfl
    rw [c] at a
    rw [List.length_cons, List.length_append]
    simp only [List.length_singleton]
    omega
  · obtain ⟨_, hlen, hm⟩ := (isE_67 (.inl rfl)).1 hel
    rw [show textV (.mk 6 lo hi ns ps rs) v = 40 :: (Lib.join (textProd ns ps v.parts) [44, 32] ++ [41]) by rw [textV]; rfl]
    have a := join_tot [44, 32] (textProd ns ps v.parts)
    have b := prodT_le ns ps v.parts hnm hm hp
    have c : ([44, 32] : List UInt8).length = 2 := rfl
    rw [c] at a
    rw [List.length_cons, List.length_append]
    simp only [List.length_singleton]
    omega
  · obtain ⟨_, hlen, hm⟩ := (isE_67 (.inr rfl)).1 hel
    rw [show textV (.mk 7 lo hi ns ps rs) v = 60 :: (Lib.join (textParts ps v.parts) [44, 32] ++ [62]) by rw [textV]; rfl]
    have a := join_tot [44, 32] (textParts ps v.parts)
    have b := partsT_le ps v.parts hm hp
    have c : ([44, 32] : List UInt8).length = 2 := rfl
    rw [c] at a
    rw [List.length_cons, List.length_append]
    simp only [List.length_singleton]
    omega
  · obtain ⟨_, _, hu⟩ := isE_8.1 hel
    rw [show textV (.mk 8 lo hi ns ps rs) v = (if v.n = 0 then [63] else if v.n = 1 then bsOf (v.names.headD ByteArray.empty) else [33]) by rw [textV]; rfl]
    rcases hu with ⟨h1, _⟩ | ⟨h1, _⟩ | ⟨h1, hlen, hal⟩
    · rw [if_pos h1]; simp only [List.length_singleton]; omega
    · rw [if_neg (by omega), if_neg (by omega)]; simp only [List.length_singleton]; omega
    · rw [if_neg (by omega), if_pos h1]
      obtain ⟨q, hq⟩ := List.length_eq_one_iff.1 hlen
      have := bsOf_le (allowed_names hal q (by rw [hq]; simp))
      rw [hq]
      show (bsOf q).length + 100 ≤ _
      omega
  · obtain ⟨_, hreg⟩ := isE_9.1 hel
    rw [show textV (.mk 9 lo hi ns ps rs) v = 91 :: (Lib.join (v.entries.map entryT) [32, 124, 32] ++ [93]) by rw [textV]; rfl]
    have a := join_tot [32, 124, 32] (v.entries.map entryT)
    have b := entsT_le v.entries fun x hx => regGo_mem v.entries 0 v.entries hreg x hx
    have c : ([32, 124, 32] : List UInt8).length = 3 := rfl
    rw [c] at a
    rw [List.length_cons, List.length_append]
    simp only [List.length_singleton]
    omega
theorem text_small {l : Lat} {v : Val} (hs : nodesN v ≤ 60) (h1 : chkE l = 0) (h2 : elemB l v = true) : (textV l v).length ≤ 12000 := by
 have := text_len _ l v (Nat.le_refl _) (chkE_wf h1) h2
 omega
def u8v (c : UInt8) : Value := .int .u8 c.toNat
structure WrAt (w : World) (B : Nat) (v : Value) (bs : List UInt8) : Prop where
 blk : w.heap[B]? = some (.cells #[v] 69 (0, 0))
 own : w.ownsRow (B + 1) 5 1 v bs.length (bs.map u8v)
structure Wf (B : Nat) (v v' : Value) (w w' : World) : Prop where
 os : w'.os = w.os
 tape : w'.tape = w.tape
 output : w'.output = w.output
 size : w.heap.size ≤ w'.heap.size
 block : ∀ k, k < w.heap.size → k ≠ B → v.ownBlock ≠ some k → w'.heap[k]? = w.heap[k]?
 own : ∀ k, v'.ownBlock = some k → v.ownBlock = some k ∨ w.heap.size ≤ k
theorem Wf.refl (B : Nat) (v : Value) (w : World) : Wf B v v w w := ⟨rfl, rfl, rfl, Nat.le_refl _, fun _ _ _ _ => rfl, fun _ h => .inl h⟩
theorem Wf.trans {B : Nat} {v v' v'' : Value} {a b c : World} (h : Wf B v v' a b) (k : Wf B v' v'' b c) : Wf B v v'' a c :=
 ⟨k.os.trans h.os, k.tape.trans h.tape, k.output.trans h.output, Nat.le_trans h.size k.size,
  fun i hi hn ho => (k.block i (Nat.lt_of_lt_of_le hi h.size) hn (fun e => by rcases h.own i e with e' | e'; exact ho e'; omega)).trans (h.block i hi hn ho),
  fun i e => by
    rcases k.own i e with e' | e'
    · exact h.own i e'
    · exact .inr (Nat.le_trans h.size e')⟩
theorem Wf.below {B : Nat} {v v' : Value} {w w' : World} (h : Wf B v v' w w') (hv : ∀ k, v.ownBlock = some k → B ≤ k) (hB : B ≤ w.heap.size) : Below B w w' :=
 ⟨h.os, h.tape, h.output, h.size, fun k hk => h.block k (by omega) (by omega) (fun e => by have := hv k e; omega)⟩
theorem WrAt.lt {w : World} {B : Nat} {v : Value} {bs : List UInt8} (h : WrAt w B v bs) : B < w.heap.size := (Array.getElem?_eq_some_iff.1 h.blk).1
theorem WrAt.base {w : World} {B : Nat} {v : Value} {bs : List UInt8} (h : WrAt w B v bs) : ∀ k, v.ownBlock = some k → B + 1 ≤ k ∧ k < w.heap.size := fun k e => h.own.lt k e
theorem WrAt.cell {w : World} {B : Nat} {v : Value} {bs : List UInt8} (h : WrAt w B v bs) : w.cell? ⟨B, 0, none⟩ = some v := by rw [cell_of_row w B 0 _ _ _ h.blk]; rfl
theorem WrAt.free {w : World} {B : Nat} {v : Value} {bs : List UInt8} (h : WrAt w B v bs) : w.frozen? ⟨B, 0, none⟩ = false := by simp [World.frozen?, h.blk]
def WrPost (B : Nat) (v : Value) (w : World) (bs' : List UInt8) (w' : World) : Prop := ∃ v', WrAt w' B v' bs' ∧ Wf B v v' w w'
theorem wr_store {w w1 w2 : World} {B : Nat} {v v' : Value} {bs bs' : List UInt8} {N : Nat} {L : List Value} (h : WrAt w B v bs) (h1 : Wf B v v w w1) (hb : w1.heap[B]? = w.heap[B]?) (ho : ∀ k, v.ownBlock = some k → w1.heap[k]? = w.heap[k]?)
 (hA : Appd w1 w2 (B + 1) 5 1 v v' N L) (hN : N = bs'.length) (hL : L = bs'.map u8v) : WrPost B v w bs' (w2.setCell ⟨B, 0, none⟩ v') := by
 subst hN
 subst hL
 have hlt := h.lt
 have hne : ∀ k, v.ownBlock = some k → k ≠ B := fun k e => by have := (h.base k e).1; omega
 have hB2 : w2.heap[B]? = some (.cells #[v] 69 (0, 0)) := (hA.grown.block B (Nat.lt_of_lt_of_le hlt h1.size) (fun e => hne B e.symm rfl)).trans (hb.trans h.blk)
 have hv' : ∀ k, v'.ownBlock = some k → B + 1 ≤ k := fun k e => (hA.own.lt k e).1
 refine ⟨v', ⟨?_, ?_⟩, ?_⟩
 · have e : (w2.setCell ⟨B, 0, none⟩ v').heap[B]? = some (.cells (#[v].setIfInBounds 0 v') 69 (0, 0)) := by simp [World.setCell, Array.getElem?_modify, hB2]
   rw [e]; rfl
 · exact owns_of_block hA.own fun g hg => Below.heap_setCell _ _ _ _ (by have := hv' g hg; show g ≠ B; omega)
 · refine ⟨hA.grown.os.trans h1.os, hA.grown.tape.trans h1.tape, hA.grown.output.trans h1.output, by have := h1.size; have := hA.grown.size; simp [World.setCell]; omega, fun k hk hn hvk => ?_, fun k e => ?_⟩
   · rw [Below.heap_setCell _ _ _ _ hn, hA.grown.block k (Nat.lt_of_lt_of_le hk h1.size) (fun e => hvk e.symm)]
     exact h1.block k hk hn hvk
   · rcases hA.at_ with e' | e'
     · rw [e'] at e; exact .inl e
     · rw [e'] at e; injection e with e; have := h1.size; exact .inr (by omega)
theorem wr_after {w w1 w2 : World} {B : Nat} {v v' : Value} {bs : List UInt8} {N : Nat} {L : List Value} (h : WrAt w B v bs) (hs : w.heap.size ≤ w1.heap.size) (hb : w1.heap[B]? = w.heap[B]?) (hA : Appd w1 w2 (B + 1) 5 1 v v' N L) : w2.cell? ⟨B, 0, none⟩ = some v ∧ w2.frozen? ⟨B, 0, none⟩ = false := by
 have hB2 : w2.heap[B]? = some (.cells #[v] 69 (0, 0)) := (hA.grown.block B (Nat.lt_of_lt_of_le h.lt hs) (fun e => by have := (h.base B e.symm).1; omega)).trans (hb.trans h.blk)
 exact ⟨by rw [cell_of_row w2 B 0 _ _ _ hB2]; rfl, by simp [World.frozen?, hB2]⟩
theorem wf_alloc (B : Nat) (v : Value) (w : World) (O : Obj) : Wf B v v w (w.alloc O) := ⟨rfl, rfl, rfl, by simp, fun _ hk _ _ => Below.heap_alloc _ _ _ hk, fun _ h => .inl h⟩
theorem WrPost.after {B : Nat} {v v1 : Value} {w w1 w' : World} {bs : List UInt8} (h : Wf B v v1 w w1) (k : WrPost B v1 w1 bs w') : WrPost B v w bs w' := by
 obtain ⟨v', h1, h2⟩ := k
 exact ⟨v', h1, h.trans h2⟩
theorem or_byte : ∀ m : Fin 256, bits .or .u8 (m.val : Int) 128 = ((m.val % 128 + 128 : Nat) : Int) := by decide +kernel
theorem or_byte' (k : Nat) : bits .or .u8 ((k : Int) % 256) 128 = ((UInt8.ofNat (k % 128 + 128)).toNat : Int) := by
 have h := or_byte ⟨k % 256, by omega⟩
 have e : ((k : Int) % 256) = ((k % 256 : Nat) : Int) := by omega
 rw [e]
 rw [h]
 have e2 : (UInt8.ofNat (k % 128 + 128)).toNat = k % 128 + 128 := by simp; omega
 rw [e2]
 show ((k % 256 % 128 + 128 : Nat) : Int) = _
 omega
theorem one_byte (k : Nat) (h : k < 256) : (k : Int) = ((UInt8.ofNat k).toNat : Int) := by
 have : (UInt8.ofNat k).toNat = k := by simp; omega
 rw [this]
theorem infoByte : (Tryz.prog.info? 5).map (fun i => (i.zero, i.size, i.bytes)) = some (some (.int .u8 0), 1, 1) := by kernel_rfl
theorem wUint_any (B : Nat) (v : Value) (bs : List UInt8) (n : Nat) (w : World) (h : WrAt w B v bs) (hn : n < 18446744073709551616) (hl : bs.length ≤ 100000000) :
 Calls Tryz.prog 82 #[.pointer (some ⟨B, 0, none⟩), .int .u64 n] w fun e w' => e = .returned (.tuple #[]) ∧ WrPost B v w (bs ++ uintE n) w' := by
 obtain ⟨i0, hi0, hz0, hz1, hz2⟩ := info_parts infoByte
 have HW := hid h
 have HN := hid hn
 have HL := hid hl
 clear h hn hl
 go_enter Tryz.func82, Tryz.ntmps82
 go_wp2_with fail
 go_loopw [1] (fun i wr => ∃ (k : Nat) (cur : List UInt8) (v' : Value), i = .int .u64 k ∧ WrAt wr B v' cur ∧ Hid (Wf B v v' w wr) ∧ Hid (cur ++ uintE k = bs ++ uintE n) ∧ Hid (k < 18446744073709551616)) (fun i _ => (intOf i).toNat)
 case atStart => exact ⟨n, bs, v, rfl, HW.out, hid (Wf.refl _ _ _), hid rfl, HN⟩
 case round =>
  obtain ⟨k, cur, v', rfl, hw, HF, HE, HK⟩ := hrel
  have hcell := hw.cell
  have hfree := hw.free
  obtain ⟨av, cv, rfl⟩ := owns_shape hw.own
  have HW1 := hid hw
  clear hw
  have HOW := hid HW1.out.own
  have HLEN : Hid (cur.length + 1 ≤ maxLen ∧ (cur.length + 1) * 1 ≤ 140737488355328 ∧ B + 1 ≤ wr.heap.size) := hid (by
   have h1 := congrArg List.length HE.out
   rw [List.length_append, List.length_append] at h1
   have := (uintE_len10 n HN.out).1
   have := (uintE_len10 k HK.out).2
   have := HL.out
   have := HW1.out.lt
   unfold maxLen
   omega)
  by_cases hlt : k < 128
  · go_wp2_with (at_builtin; refine wpList_append rfl (.tmp 24) (.tmp 27) 46 rfl (B + 1) 5 1 1 Tryz.underlying46 hi0 hz0 hz1 hz2 rfl (by decide) (.slice av cur.length cv) cur.length (cur.map u8v) rfl (HOW.out.alloc _) _ 1 [.int .u8 k] rfl (Src.of_block (cs := #[.int .u8 k]) (heap_alloc_new _ _) 1 1 1 rfl (by simp [Value.oneCell'])) _ rfl _ rfl HLEN.out.1 HLEN.out.2.1 (by have := HLEN.out.2.2; simp; omega) ?_; intro na nc w2 had; obtain ⟨hc2, hf2⟩ := wr_after HW1.out (by simp) (Below.heap_alloc _ _ _ HW1.out.lt) had; have HAD := hid had; clear had)
    go_end0
    refine ⟨rfl, WrPost.after HF.out ?_⟩
    rw [← HE.out, uintE_lt hlt]
    refine wr_store HW1.out (wf_alloc _ _ _ _) (Below.heap_alloc _ _ _ HW1.out.lt) (fun g hg => Below.heap_alloc _ _ _ (HW1.out.base g hg).2) HAD.out (by rw [List.length_append]; rfl) ?_
    rw [List.map_append, one_byte k (by omega)]
    rfl
  · have hge : (128 : Int) ≤ (k : Int) := by omega
    go_wp2_with (at_builtin; refine wpList_append rfl (.tmp 12) (.tmp 16) 46 rfl (B + 1) 5 1 1 Tryz.underlying46 hi0 hz0 hz1 hz2 rfl (by decide) (.slice av cur.length cv) cur.length (cur.map u8v) rfl (HOW.out.alloc _) _ 1 [_] rfl (Src.of_block (cs := #[_]) (heap_alloc_new _ _) 1 1 1 rfl (by simp [Value.oneCell'])) _ rfl _ rfl HLEN.out.1 HLEN.out.2.1 (by have := HLEN.out.2.2; simp; omega) ?_; intro na nc w2 had; obtain ⟨hc2, hf2⟩ := wr_after HW1.out (by simp) (Below.heap_alloc _ _ _ HW1.out.lt) had; have HAD := hid had; clear had)
    have HP : Hid (∀ u, u = Value.slice na (cur.length + 1) nc → WrPost B (Value.slice av cur.length cv) wr (cur ++ [UInt8.ofNat (k % 128 + 128)]) (w2.setCell ⟨B, 0, none⟩ u)) := hid fun u hu => by
      subst hu
      refine wr_store HW1.out (wf_alloc _ _ _ _) (Below.heap_alloc _ _ _ HW1.out.lt) (fun g hg => Below.heap_alloc _ _ _ (HW1.out.base g hg).2) HAD.out (by rw [List.length_append]; rfl) ?_
      rw [List.map_append, or_byte']
      rfl
    obtain ⟨v2, hw2, hf⟩ := HP.out _ rfl
    refine ⟨⟨k / 128, cur ++ [UInt8.ofNat (k % 128 + 128)], v2, by go_num, hw2, hid (HF.out.trans hf), hid (by rw [← HE.out, uintE_ge (n := k) (by omega), List.append_assoc]; rfl), hid (by have := HK.out; omega)⟩, by simp [intOf]; omega⟩
theorem wBool_any (B : Nat) (v : Value) (bs : List UInt8) (b : Bool) (w : World) (h : WrAt w B v bs) (hl : bs.length ≤ 100000000) :
 Calls Tryz.prog 80 #[.pointer (some ⟨B, 0, none⟩), .bool b] w fun e w' => e = .returned (.tuple #[]) ∧ WrPost B v w (bs ++ boolE b) w' := by
 obtain ⟨i0, hi0, hz0, hz1, hz2⟩ := info_parts infoByte
 have hcell := h.cell
 have hfree := h.free
 obtain ⟨av, cv, rfl⟩ := owns_shape h.own
 have HW1 := hid h
 have HOW := hid h.own
 have HLEN : Hid (bs.length + 1 ≤ maxLen ∧ (bs.length + 1) * 1 ≤ 140737488355328 ∧ B + 1 ≤ w.heap.size) := hid (by have := h.lt; unfold maxLen; omega)
 clear h hl
 cases b
 · go_enter Tryz.func80, Tryz.ntmps80
   go_wp2_with (at_builtin; refine wpList_append rfl (.tmp 18) (.tmp 19) 46 rfl (B + 1) 5 1 1 Tryz.underlying46 hi0 hz0 hz1 hz2 rfl (by decide) (.slice av bs.length cv) bs.length (bs.map u8v) rfl (HOW.out.alloc _) _ 1 [.int .u8 0] rfl (Src.of_block (cs := #[.int .u8 0]) (heap_alloc_new _ _) 1 1 1 rfl (by simp [Value.oneCell'])) _ rfl _ rfl HLEN.out.1 HLEN.out.2.1 (by have := HLEN.out.2.2; simp; omega) ?_; intro na nc w2 had; obtain ⟨hc2, hf2⟩ := wr_after HW1.out (by simp) (Below.heap_alloc _ _ _ HW1.out.lt) had; have HAD := hid had; clear had)
   (try simp only [Exit.inBlock, Exit.then])
   first
    | go_end0
    | refine bodyPost_ret (results_none rfl _ _ _) rfl ?_
   refine ⟨rfl, wr_store HW1.out (wf_alloc _ _ _ _) (Below.heap_alloc _ _ _ HW1.out.lt) (fun g hg => Below.heap_alloc _ _ _ (HW1.out.base g hg).2) HAD.out (by rw [List.length_append]; rfl) (by rw [List.map_append]; rfl)⟩
 · go_enter Tryz.func80, Tryz.ntmps80
   go_wp2_with (at_builtin; refine wpList_append rfl (.tmp 9) (.tmp 10) 46 rfl (B + 1) 5 1 1 Tryz.underlying46 hi0 hz0 hz1 hz2 rfl (by decide) (.slice av bs.length cv) bs.length (bs.map u8v) rfl (HOW.out.alloc _) _ 1 [.int .u8 1] rfl (Src.of_block (cs := #[.int .u8 1]) (heap_alloc_new _ _) 1 1 1 rfl (by simp [Value.oneCell'])) _ rfl _ rfl HLEN.out.1 HLEN.out.2.1 (by have := HLEN.out.2.2; simp; omega) ?_; intro na nc w2 had; obtain ⟨hc2, hf2⟩ := wr_after HW1.out (by simp) (Below.heap_alloc _ _ _ HW1.out.lt) had; have HAD := hid had; clear had)
   (try simp only [Exit.inBlock, Exit.then])
   first
    | go_end0
    | refine bodyPost_ret (results_none rfl _ _ _) rfl ?_
   refine ⟨rfl, wr_store HW1.out (wf_alloc _ _ _ _) (Below.heap_alloc _ _ _ HW1.out.lt) (fun g hg => Below.heap_alloc _ _ _ (HW1.out.base g hg).2) HAD.out (by rw [List.length_append]; rfl) (by rw [List.map_append]; rfl)⟩
theorem strCells_u8v (s : ByteArray) : Lib.strCells s = s.data.toList.map u8v := rfl
theorem wText_any (B : Nat) (v : Value) (bs : List UInt8) (s : ByteArray) (w : World) (h : WrAt w B v bs) (hl : bs.length ≤ 90000000) (hs : s.size ≤ 1000000) :
 Calls Tryz.prog 83 #[.pointer (some ⟨B, 0, none⟩), .string s] w fun e w' => e = .returned (.tuple #[]) ∧ WrPost B v w (bs ++ textE s) w' := by
 obtain ⟨i0, hi0, hz0, hz1, hz2⟩ := info_parts infoByte
 have HU := hid (wUint_any B v bs s.size w h (by omega) (by omega))
 have HUL := hid (uintE_len10 s.size (by omega)).1
 have HL := hid hl
 have HS := hid hs
 have hs1 : (s.size : Int) ≤ 1000000 := by omega
 clear h hl hs
 go_enter Tryz.func83, Tryz.ntmps83
 go_wp2_with fail
 refine HU.out.mono ?_
 rintro e w1 ⟨rfl, v1, hw1, hf1⟩
 have HF1 := hid hf1
 clear hf1
 have hcell := hw1.cell
 have hfree := hw1.free
 generalize hcur : bs ++ uintE s.size = cur at hw1 hcell
 have HC := hid hcur
 obtain ⟨av, cv, rfl⟩ := owns_shape hw1.own
 have HW1 := hid hw1
 have HOW := hid hw1.own
 have HLEN : Hid (cur.length + s.size ≤ maxLen ∧ cur.length + s.size ≤ 140737488355328 ∧ B + 1 ≤ w1.heap.size) := hid (by
  have := hw1.lt
  have := HUL.out
  have := HL.out
  have := HS.out
  rw [← hcur, List.length_append]
  unfold maxLen
  omega)
 clear hw1 hcur
 go_wp2_with (at_builtin; refine wpList_appendS rfl (.tmp 13) (.tmp 14) 46 9 rfl (B + 1) 5 Tryz.underlying46 Tryz.underlying9 hi0 hz0 hz1 hz2 (.slice av cur.length cv) cur.length (cur.map u8v) rfl HOW.out s rfl _ rfl _ rfl HLEN.out.1 HLEN.out.2.1 HLEN.out.2.2 ?_; intro na nc w2 had; obtain ⟨hc2, hf2⟩ := wr_after HW1.out (Nat.le_refl _) rfl had; have HAD := hid had; clear had)
 go_end0
 refine ⟨rfl, WrPost.after HF1.out (wr_store HW1.out (Wf.refl _ _ _) rfl (fun _ _ => rfl) HAD.out ?_ ?_)⟩
 · rw [← HC.out]; unfold textE; simp only [List.length_append]; have : s.data.toList.length = s.size := rfl; omega
 · rw [← HC.out]; unfold textE; rw [strCells_u8v, ← List.map_append, List.append_assoc]
end Go.Proofs.YtmdjnaobllajmaaGreatDoor
