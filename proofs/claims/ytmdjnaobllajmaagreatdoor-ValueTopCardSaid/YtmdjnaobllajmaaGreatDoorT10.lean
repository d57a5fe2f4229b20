/-
  What the statements of the chapter share, part 10: VWr2, VRd, VRd2.
-/
import Derived.Test.YtmdjnaobllajmaaGreatDoorT01
import Derived.Test.YtmdjnaobllajmaaGreatDoorT03
import Derived.Test.YtmdjnaobllajmaaGreatDoorT05
import Derived.Test.YtmdjnaobllajmaaGreatDoorT09
import Derived.BigGuardPart
import Derived.Laws.BitsAllLaws
import Derived.Lib.Zigzag
set_option linter.unusedVariables false
set_option linter.unusedSimpArgs false
set_option maxRecDepth 100000
set_option maxHeartbeats 8000000
namespace Go.Proofs.YtmdjnaobllajmaaGreatDoor
open Go.RowKit
theorem zz_pos (n : Int) (h0 : 0 ≤ n) (h2 : n ≤ 9223372036854775807) : bits .xor .u64 (n * 2) (n / 9223372036854775808) = ((zz n : Nat) : Int) := by
 have e : n / 9223372036854775808 = 0 := by omega
 rw [e, u64_xor (n * 2) 0 (by omega) (by omega) (by omega) (by omega)]
 unfold zz
 rw [if_pos h0]
 simp
 omega
theorem xor_ones (b : Nat) (hb : b < 2 ^ 64) : b ^^^ (2 ^ 64 - 1) = 2 ^ 64 - 1 - b := by rw [Nat.xor_comm]; exact Lib.xor_ones64 b hb
theorem zz_neg (n : Int) (h1 : -9223372036854775808 ≤ n) (h0 : ¬ 0 ≤ n) : bits .xor .u64 (IntKind.u64.wrap (IntKind.u64.wrap n * 2)) (IntKind.u64.wrap (n / 9223372036854775808)) = ((zz n : Nat) : Int) := by
 have e0 : IntKind.u64.wrap n = n + 18446744073709551616 := by rw [IntKind.wrap_u64]; omega
 have e1 : IntKind.u64.wrap (IntKind.u64.wrap n * 2) = 2 * n + 18446744073709551616 := by rw [e0, IntKind.wrap_u64]; omega
 have e2 : IntKind.u64.wrap (n / 9223372036854775808) = 18446744073709551615 := by
  have : n / 9223372036854775808 = -1 := by omega
  rw [this, IntKind.wrap_u64]; rfl
 rw [e1, e2, u64_xor _ _ (by omega) (by omega) (by omega) (by omega)]
 have e3 : (18446744073709551615 : Int).toNat = 2 ^ 64 - 1 := rfl
 rw [e3, xor_ones _ (by omega)]
 unfold zz
 rw [if_neg h0]
 omega
theorem wInt_any (B : Nat) (v : Value) (bs : List UInt8) (n : Int) (w : World) (h : WrAt w B v bs) (hn : I64 n) (hl : bs.length ≤ 100000000) :
 Calls Tryz.prog 81 #[.pointer (some ⟨B, 0, none⟩), .int .i64 n] w fun e w' => e = .returned (.tuple #[]) ∧ WrPost B v w (bs ++ intE n) w' := by
 obtain ⟨h1, h2⟩ := hn
 have HU := hid (wUint_any B v bs (zz n) w h (zz_lt n h1 h2) hl)
 clear h hl
 by_cases h0 : 0 ≤ n
 · have HZ := hid (zz_pos n h0 h2)
   go_enter Tryz.func81, Tryz.ntmps81
   go_wp2_with fail
   rw [HZ.out]
   refine HU.out.mono ?_
   rintro e w1 ⟨rfl, hp⟩
   have HP := hid hp
   clear hp
   go_wp2_with fail
   go_end0
   exact ⟨rfl, HP.out⟩
 · have HZ := hid (zz_neg n h1 h0)
   go_enter Tryz.func81, Tryz.ntmps81
   go_wp2_with fail
   rw [HZ.out]
   refine HU.out.mono ?_
   rintro e w1 ⟨rfl, hp⟩
   have HP := hid hp
   clear hp
   go_wp2_with fail
   go_end0
   exact ⟨rfl, HP.out⟩
theorem Src.of_own {w : World} {base E sz : Nat} {v : Value} {n : Nat} {xs : List Value} (h : w.ownsRow base E sz v n xs) (h1 : ∀ q ∈ xs, q.oneCell' = true) : Src w sz v n xs := by
 rcases h.2 with ⟨rfl, hn⟩ | ⟨g, cap, cur, rfl, hb, hg, hn, hcap, hsz, htake⟩
 · subst hn
   exact ⟨none, 0, rfl, h.1, fun _ => ⟨rfl, rfl⟩, by simp, h1⟩
 · exact ⟨_, cap, rfl, h.1, by simp, fun ad had j q hq => by cases had; exact h.cells (g := g) rfl j q hq, h1⟩
theorem u8v_one (l : List UInt8) : ∀ q ∈ l.map u8v, q.oneCell' = true := by
 intro q hq
 obtain ⟨c, _, rfl⟩ := List.mem_map.1 hq
 rfl
theorem wData_any (B : Nat) (v : Value) (bs : List UInt8) (w : World) (h : WrAt w B v bs) (hl : bs.length ≤ 200000000) :
 Calls Tryz.prog 51 #[.pointer (some ⟨B, 0, none⟩)] w fun e w' => ∃ r, e = .returned r ∧ w'.ownsRow w.heap.size 5 1 r bs.length (bs.map u8v) ∧ Below w.heap.size w w' := by
 obtain ⟨i0, hi0, hz0, hz1, hz2⟩ := info_parts infoByte
 have hcell := h.cell
 have hca := fun O => cell_alloc hcell O
 obtain ⟨av, cv, rfl⟩ := owns_shape h.own
 have HSRC : Hid (∀ O, Src (w.alloc O) 1 (.slice av bs.length cv) bs.length (bs.map u8v)) := hid fun O => Src.of_own (h.own.alloc O) (u8v_one bs)
 have HL := hid hl
 clear h hl
 show Calls _ _ _ _ fun e w' => Hid (∃ r, e = .returned r ∧ w'.ownsRow w.heap.size 5 1 r bs.length (bs.map u8v) ∧ Below w.heap.size w w')
 go_enter Tryz.func51, Tryz.ntmps51
 go_wp2_with (at_builtin; refine wpList_append rfl (.tmp 3) (.tmp 7) 46 rfl w.heap.size 5 1 1 Tryz.underlying46 hi0 hz0 hz1 hz2 rfl (by decide) (.slice (some ⟨w.heap.size, 0, none⟩) 0 0) 0 [] rfl (owns_made #[] 0 (heap_alloc_new w _) (Nat.le_refl _) rfl (by decide)) (.slice av bs.length cv) bs.length (bs.map u8v) rfl (HSRC.out _) bs.length (Nat.zero_add _) (bs.map u8v) rfl (by have := HL.out; unfold maxLen; omega) (by have := HL.out; omega) (by simp) ?_; intro na nc w2 had; have HAD := hid had; clear had)
 go_ret
 exact hid ⟨_, rfl, HAD.out.own, ((Below.refl _ _).alloc (Nat.le_refl _) _).grown HAD.out.grown (by simp) (fun g hg => by simp [Value.ownBlock] at hg; omega)⟩
def byteRd (c : UInt8) (cs : List Value) : Prop := cs = [u8v c]
def notB (B : Nat) : Nat → Bool := fun b => decide (b ≠ B)
structure RdAt (w : World) (B : Nat) (v : Value) (s : RS) : Prop where
 blk : w.heap[B]? = some (.cells #[v, .int .i64 s.pos, .int .i64 s.item, .int .i64 s.err] 112 (0, 0))
 rd : SlRd (only (notB B) w) 1 byteRd v s.data
 ok : s.Ok
theorem RdAt.lt {w : World} {B : Nat} {v : Value} {s : RS} (h : RdAt w B v s) : B < w.heap.size := (Array.getElem?_eq_some_iff.1 h.blk).1
theorem RdAt.cell {w : World} {B : Nat} {v : Value} {s : RS} (h : RdAt w B v s) (i : Nat) : w.cell? ⟨B, i, none⟩ = #[v, .int .i64 s.pos, .int .i64 s.item, .int .i64 s.err][i]? := cell_of_row w B i _ _ _ h.blk
theorem RdAt.free {w : World} {B : Nat} {v : Value} {s : RS} (h : RdAt w B v s) (i : Nat) : w.frozen? ⟨B, i, none⟩ = false := by simp [World.frozen?, h.blk]
theorem RdAt.below {w w' : World} {B : Nat} {v : Value} {s : RS} (h : RdAt w B v s) (hb : Below w.heap.size w w') : RdAt w' B v s :=
 ⟨(hb.block B h.lt).trans h.blk, SlRd.mono h.rd (only_keep fun b hb' hl => ⟨hb', hb.block b hl⟩) fun _ _ _ h => h, h.ok⟩
theorem RdAt.set {w : World} {B : Nat} {v : Value} {s s' : RS} (h : RdAt w B v s) (hd : s'.data = s.data) (ho : s'.Ok) {w' : World} (hw : But B w w')
 (hb : w'.heap[B]? = some (.cells #[v, .int .i64 s'.pos, .int .i64 s'.item, .int .i64 s'.err] 112 (0, 0))) : RdAt w' B v s' :=
 ⟨hb, by rw [hd]; exact SlRd.mono h.rd (only_keep fun b hb' hl => ⟨hb', hw.block b hl (of_decide_eq_true hb')⟩) fun _ _ _ h => h, ho⟩
theorem RdAt.byte {w : World} {B : Nat} {a : Option Addr} {n cap : Nat} {s : RS} (h : RdAt w B (.slice a n cap) s) (i : Nat) (hi : i < s.data.length) : ∃ b o, a = some ⟨b, o, none⟩ ∧ w.cell? ⟨b, o + i, none⟩ = some (.int .u8 s.data[i].toNat) := by
 obtain ⟨b, o, cs, ha, _, hcs, rfl⟩ := h.rd.at i hi
 have := only_sub _ _ _ _ (hcs 0 (by simp))
 exact ⟨b, o, ha, by simpa [u8v] using this⟩
theorem RdAt.shape {w : World} {B : Nat} {v : Value} {s : RS} (h : RdAt w B v s) : ∃ a cap, v = .slice a s.data.length cap ∧ s.data.length ≤ 9223372036854775807 := by
 obtain ⟨a, cap, hv, _, hm⟩ := h.rd.shape
 exact ⟨a, cap, hv, hm⟩
def NumPost (s : RS) (w : World) (e : Ending) (w' : World) : Prop := ∃ N X : Int, e = .returned (.tuple #[.int .u64 N, .int .i64 X, .bool s.num.isSome]) ∧ (∀ n c, s.num = some (n, c) → N = n ∧ X = s.pos + c) ∧ ∃ q, w' = w.drewN q
def upF (acc i : Nat) (o : Option (Nat × Nat)) : Option (Nat × Nat) := match o with
 | none => none
 | some (m, c) => some (acc + 2 ^ (7 * i) * m, i + c)
theorem and_byte : ∀ m : Fin 256, bits .and .u8 (m.val : Int) 127 = ((m.val % 128 : Nat) : Int) := by decide +kernel
theorem or_val (A bv k : Nat) (hk : k ≤ 9) (hA : A < 2 ^ (7 * k)) (hb : bv < 256) (h9 : k = 9 → bv ≤ 1) :
 bits .or .u64 (A : Int) (IntKind.u64.wrap (IntKind.u64.wrap (bits .and .u8 (bv : Int) 127) * 2 ^ (7 * k))) = ((A + 2 ^ (7 * k) * (bv % 128) : Nat) : Int) := by
 have e1 : bits .and .u8 (bv : Int) 127 = ((bv % 128 : Nat) : Int) := and_byte ⟨bv, hb⟩
 have e2 : IntKind.u64.wrap ((bv % 128 : Nat) : Int) = ((bv % 128 : Nat) : Int) := by rw [IntKind.wrap_u64]; omega
 have hp : 2 ^ (7 * k) * (bv % 128) < 18446744073709551616 := by
  rcases Nat.lt_or_ge k 9 with h | h
  · have h1 : 2 ^ (7 * k) ≤ 2 ^ 56 := Nat.pow_le_pow_right (by omega) (by omega)
    have h2 : 2 ^ (7 * k) * (bv % 128) ≤ 2 ^ 56 * 128 := Nat.mul_le_mul h1 (by omega)
    omega
  · have : k = 9 := by omega
    subst this
    have := h9 rfl
    have h2 : 2 ^ (7 * 9) * (bv % 128) ≤ 2 ^ 63 * 1 := Nat.mul_le_mul (Nat.le_refl _) (by omega)
    omega
 have hA2 : A < 18446744073709551616 := by
  have h1 : 2 ^ (7 * k) ≤ 2 ^ 63 := Nat.pow_le_pow_right (by omega) (by omega)
  omega
 have e3 : ((bv % 128 : Nat) : Int) * 2 ^ (7 * k) = ((2 ^ (7 * k) * (bv % 128) : Nat) : Int) := by
  rw [Int.natCast_mul, Int.natCast_pow, Int.mul_comm]; rfl
 have e4 : IntKind.u64.wrap ((2 ^ (7 * k) * (bv % 128) : Nat) : Int) = ((2 ^ (7 * k) * (bv % 128) : Nat) : Int) := by rw [IntKind.wrap_u64]; omega
 rw [e1, e2, e3, e4, u64_or_nat _ _ hA2 hp, Nat.or_comm, ← Nat.two_pow_add_eq_or_of_lt hA, Nat.add_comm]
theorem or_val9 (A bv : Nat) (hA : A < 2 ^ 63) (hb : bv ≤ 1) :
 bits .or .u64 (A : Int) (IntKind.u64.wrap (IntKind.u64.wrap (bits .and .u8 (bv : Int) 127) * 9223372036854775808)) = ((A + 2 ^ (7 * 9) * (bv % 128) : Nat) : Int) :=
 or_val A bv 9 (by omega) hA (by omega) (fun _ => hb)
theorem up_more (A k m : Nat) (o : Option (Nat × Nat)) : upF A k (match o with
 | none => none
 | some (n, c) => some (m + 128 * n, c + 1)) = upF (A + 2 ^ (7 * k) * m) (k + 1) o := by
 cases o with
 | none => rfl
 | some p =>
   obtain ⟨n, c⟩ := p
   unfold upF
   simp only [Option.some.injEq, Prod.mk.injEq]
   refine ⟨?_, by omega⟩
   rw [show 7 * (k + 1) = 7 * k + 7 by omega, Nat.pow_add, Nat.mul_add, ← Nat.mul_assoc, Nat.add_assoc]
theorem num_bad {s : RS} (h : s.num = none) (w : World) (N X : Int) (q : Nat) {e : Ending} (he : e = .returned (.tuple #[.int .u64 N, .int .i64 X, .bool false])) : NumPost s w e (w.drewN q) :=
 ⟨N, X, by rw [h]; exact he, fun n c hn => by rw [h] at hn; (cases hn), q, rfl⟩
theorem num_good {s : RS} {n c : Nat} (h : s.num = some (n, c)) (w : World) (N X : Int) (q : Nat) {e : Ending} (he : e = .returned (.tuple #[.int .u64 N, .int .i64 X, .bool true])) (hN : N = n) (hX : X = s.pos + c) : NumPost s w e (w.drewN q) :=
 ⟨N, X, by rw [h]; exact he, fun n' c' hn => by rw [h] at hn; cases hn; exact ⟨hN, hX⟩, q, rfl⟩
theorem number_any (B : Nat) (v : Value) (s : RS) (w : World) (h : RdAt w B v s) (hl : s.data.length ≤ 1000000000) :
 Calls Tryz.prog 132 #[.pointer (some ⟨B, 0, none⟩)] w (NumPost s w) := by
 obtain ⟨a, cap, rfl, _⟩ := h.shape
 have HW := hid h
 have HL := hid hl
 have HP := hid h.ok.pos
 have c0 := h.cell 0
 have c1 := h.cell 1
 simp only [List.getElem?_toArray, List.getElem?_cons_zero, List.getElem?_cons_succ] at c0 c1
 have hn : s.data.length ≤ 1000000000 := hl
 have hp : s.pos ≤ 1000000000 := Nat.le_trans h.ok.pos hl
 clear h hl
 have hN : s.num = upF 0 0 (numF 0 (s.data.drop (s.pos + 0))) := by
  unfold upF RS.num
  rw [Nat.add_zero]
  cases numF 0 (s.data.drop s.pos) with
  | none => rfl
  | some p => obtain ⟨m, c⟩ := p; simp
 have HN := hid hN
 clear hN
 go_enter Tryz.func132, Tryz.ntmps132
 go_wp2_with fail
 go_loopw [2, 5, 6, 7] (fun acc _ _ i wr => ∃ (k A : Nat), k ≤ 10 ∧ A < 2 ^ (7 * k) ∧ i = .int .i64 k ∧ acc = .int .u64 A ∧ Hid (∃ q, wr = w.drewN q) ∧ Hid (s.num = upF A k (numF k (s.data.drop (s.pos + k))))) (fun _ _ _ i _ => 10 - (intOf i).toNat)
 case atStart => exact ⟨0, 0, by omega, by decide, rfl, rfl, hid ⟨0, rfl⟩, HN⟩
 case round =>
  obtain ⟨k, A, hk, hA, rfl, rfl, HQ, He⟩ := hrel
  have c0r : wr.cell? ⟨B, 0, none⟩ = some (.slice a s.data.length cap) := by obtain ⟨q, rfl⟩ := HQ.out; exact c0
  have c1r : wr.cell? ⟨B, 1, none⟩ = some (.int .i64 s.pos) := by obtain ⟨q, rfl⟩ := HQ.out; exact c1
  by_cases hk10 : k < 10
  · have w1 : IntKind.i64.wrap ((s.pos : Int) + (k : Int)) = (s.pos : Int) + (k : Int) := IntWalk.i64_in _ (by omega)
    by_cases hlt : s.pos + k < s.data.length
    · obtain ⟨b, o, rfl, hcell⟩ := HW.out.byte (s.pos + k) hlt
      have hcr : wr.cell? ⟨b, o + (s.pos + k), none⟩ = some (.int .u8 s.data[s.pos + k].toNat) := by obtain ⟨q, rfl⟩ := HQ.out; exact hcell
      have hge : decide ((s.data.length : Int) ≤ (s.pos : Int) + (k : Int)) = false := decide_eq_false (by omega)
      have hi1 : (0 : Int) ≤ (s.pos : Int) + (k : Int) := by omega
      have hi2 : (s.pos : Int) + (k : Int) < (s.data.length : Int) := by omega
      have hi3 : ((s.pos : Int) + (k : Int)).toNat = s.pos + k := by omega
      have hbl : s.data[s.pos + k].toNat < 256 := s.data[s.pos + k].toNat_lt
      have HDR : Hid (s.data.drop (s.pos + k) = s.data[s.pos + k] :: s.data.drop (s.pos + (k + 1))) := hid (drop_consS s.data (s.pos + k) hlt)
      generalize hbv : s.data[s.pos + k] = byte at HDR hcr hbl
      clear hbv
      generalize hbv : byte.toNat = bv at hcr hbl
      have HBV := hid hbv
      clear hbv
      by_cases h9 : k = 9 ∧ 1 < bv
      · have HF : Hid (s.num = none) := hid (by rw [He.out, HDR.out, numF_big _ ⟨h9.1, by rw [HBV.out]; exact h9.2⟩]; rfl)
        obtain ⟨rfl, h9b⟩ := h9
        go_wp2_with fail
        go_quiet (fail)
        go_wp2_with fail
        go_quiet (fail)
        go_wp2_with fail
        go_ret3
        obtain ⟨q, rfl⟩ := HQ.out
        simp only [World.drewN_drewN]
        exact num_bad HF.out _ _ _ _ rfl
      · have HN9 : Hid (¬ (k = 9 ∧ 1 < byte.toNat)) := hid (by rw [HBV.out]; exact h9)
        have H9 := hid h9
        have hkb : k = 9 → bv ≤ 1 := by omega
        have HKB := hid hkb
        clear hkb
        clear h9
        by_cases h128 : bv < 128
        · have HF : Hid (s.num = upF A k (if bv = 0 ∧ k ≠ 0 then none else some (bv, 1))) := hid (by rw [He.out, HDR.out, numF_last _ hk10 HN9.out (by rw [HBV.out]; exact h128), HBV.out])
          have hx : (((bv : Int) != 0) = true ∧ bv ≠ 0) ∨ (((bv : Int) != 0) = false ∧ ((k : Int) == 0) = true ∧ bv = 0 ∧ k = 0) ∨ (((bv : Int) != 0) = false ∧ ((k : Int) == 0) = false ∧ bv = 0 ∧ k ≠ 0) := by
           by_cases h0 : bv = 0
           · by_cases h1 : k = 0
             · right; left; exact ⟨by simp [h0], by simp [h1], h0, h1⟩
             · right; right; exact ⟨by simp [h0], by simp; omega, h0, h1⟩
           · left; exact ⟨by simp; omega, h0⟩
          have w2 : IntKind.i64.wrap ((s.pos : Int) + (k : Int) + 1) = (s.pos : Int) + (k : Int) + 1 := IntWalk.i64_in _ (by omega)
          rcases hx with ⟨hb1, hb2⟩ | ⟨hb1, hk1, hb2, hk2⟩ | ⟨hb1, hk1, hb2, hk2⟩
          · have HF2 : Hid (s.num = some (A + 2 ^ (7 * k) * bv, k + 1)) := hid (by rw [HF.out, if_neg (fun h => hb2 h.1)]; rfl)
            rcases Nat.lt_or_ge k 9 with hk9 | hk9
            · have hk9' : (k : Int) < 9 := by omega
              go_wp2_with fail
              go_quiet (fail)
              go_wp2_with fail
              go_quiet (fail)
              go_wp2_with fail
              go_quiet (fail)
              go_wp2_with fail
              go_ret3
              obtain ⟨q, rfl⟩ := HQ.out
              simp only [World.drewN_drewN]
              refine num_good HF2.out _ _ _ _ rfl ?_ ?_
              rotate_left
              · omega
              have hm : bv % 128 = bv := Nat.mod_eq_of_lt h128
              rw [or_val _ _ _ (by omega) hA hbl (by omega), hm]
            · obtain rfl : k = 9 := by omega
              have hbs : (bv : Int) ≤ 1 := by have := HKB.out rfl; omega
              go_wp2_with fail
              go_quiet (fail)
              go_wp2_with fail
              go_quiet (fail)
              go_wp2_with fail
              go_quiet (fail)
              go_wp2_with fail
              go_ret3
              obtain ⟨q, rfl⟩ := HQ.out
              simp only [World.drewN_drewN]
              refine num_good HF2.out _ _ _ _ rfl ?_ ?_
              rotate_left
              · omega
              have hm : bv % 128 = bv := Nat.mod_eq_of_lt h128
              rw [or_val9 _ _ hA (by omega), hm]
          · have HF2 : Hid (s.num = some (A + 2 ^ (7 * k) * bv, k + 1)) := hid (by rw [HF.out, if_neg (fun h => h.2 hk2)]; rfl)
            subst hk2
            subst hb2
            have hcr0 : wr.cell? ⟨b, o + s.pos, none⟩ = some (.int .u8 (0 : Nat)) := hcr
            have hi4 : (s.pos : Int) < (s.data.length : Int) := by omega
            have hge4 : decide ((s.data.length : Int) ≤ (s.pos : Int)) = false := decide_eq_false (by omega)
            have w4 : IntKind.i64.wrap ((s.pos : Int) + 1) = (s.pos : Int) + 1 := IntWalk.i64_in _ (by omega)
            clear w1 w2 hge hi1 hi2 hi3
            skip
            go_wp2_with fail
            go_quiet (fail)
            go_wp2_with fail
            go_quiet (fail)
            go_wp2_with fail
            go_quiet (fail)
            go_wp2_with fail
            go_ret3
            obtain ⟨q, rfl⟩ := HQ.out
            simp only [World.drewN_drewN]
            refine num_good HF2.out _ _ _ _ rfl ?_ ?_
            rotate_left
            · omega
            obtain rfl : A = 0 := by simpa using hA
            decide +kernel
          · have HF2 : Hid (s.num = none) := hid (by rw [HF.out, if_pos ⟨hb2, hk2⟩]; rfl)
            subst hb2
            rcases Nat.lt_or_ge k 9 with hk9 | hk9
            · have hk9' : (k : Int) < 9 := by omega
              go_wp2_with fail
              go_quiet (fail)
              go_wp2_with fail
              go_quiet (fail)
              go_wp2_with fail
              go_quiet (fail)
              go_wp2_with fail
              go_ret3
              obtain ⟨q, rfl⟩ := HQ.out
              simp only [World.drewN_drewN]
              exact num_bad HF2.out _ _ _ _ rfl
            · obtain rfl : k = 9 := by omega
              go_wp2_with fail
              go_quiet (fail)
              go_wp2_with fail
              go_quiet (fail)
              go_wp2_with fail
              go_quiet (fail)
              go_wp2_with fail
              go_ret3
              obtain ⟨q, rfl⟩ := HQ.out
              simp only [World.drewN_drewN]
              exact num_bad HF2.out _ _ _ _ rfl
        · have HF : Hid (s.num = upF (A + 2 ^ (7 * k) * (bv % 128)) (k + 1) (numF (k + 1) (s.data.drop (s.pos + (k + 1))))) := hid (by rw [He.out, HDR.out, numF_more _ hk10 HN9.out (by rw [HBV.out]; exact h128), HBV.out]; exact up_more _ _ _ _)
          have hk9' : (k : Int) < 9 := by have := HKB.out; have := h128; omega
          go_wp2_with fail
          go_quiet (fail)
          go_wp2_with fail
          go_quiet (fail)
          go_wp2_with fail
          refine ⟨⟨k + 1, A + 2 ^ (7 * k) * (bv % 128), by omega, ?_, by go_num, by rw [or_val _ _ _ (by omega) hA hbl (by omega)], hid (by obtain ⟨q, rfl⟩ := HQ.out; exact ⟨_, World.drewN_drewN _ _ _⟩), HF⟩, by simp [intOf]; omega⟩
          rw [show 7 * (k + 1) = 7 * k + 7 by omega, Nat.pow_add]
          have : bv % 128 ≤ 127 := by omega
          have h2 : 2 ^ (7 * k) * (bv % 128) ≤ 2 ^ (7 * k) * 127 := Nat.mul_le_mul (Nat.le_refl _) this
          omega
    · have hge : decide ((s.data.length : Int) ≤ (s.pos : Int) + (k : Int)) = true := decide_eq_true (by omega)
      have HF : Hid (s.num = none) := hid (by rw [He.out, List.drop_eq_nil_of_le (by omega), numF_nil]; rfl)
      go_wp2_with fail
      go_quiet (fail)
      go_wp2_with fail
      go_ret3
      obtain ⟨q, rfl⟩ := HQ.out
      simp only [World.drewN_drewN]
      exact num_bad HF.out _ _ _ _ rfl
  · have HF : Hid (s.num = none) := hid (by rw [He.out, numF_ge _ (by omega)]; rfl)
    go_wp2_with fail
    go_ret3
    obtain ⟨q, rfl⟩ := HQ.out
    exact num_bad HF.out _ _ _ _ rfl
def RdPost (B : Nat) (v : Value) (s' : RS) (w w' : World) : Prop := RdAt w' B v s' ∧ But B w w'
theorem RdPost.trans {B : Nat} {v : Value} {s' : RS} {w w1 w' : World} (h : But B w w1) (k : RdPost B v s' w1 w') : RdPost B v s' w w' := ⟨k.1, h.trans k.2⟩
theorem but_drewN (B : Nat) (w : World) (q : Nat) : But B w (w.drewN q) := But.of_below (below_drewN' (Below.refl _ _) q)
theorem rd_drewN {w : World} {B : Nat} {v : Value} {s : RS} (h : RdAt w B v s) (q : Nat) : RdAt (w.drewN q) B v s := h.below (below_drewN' (Below.refl _ _) q)
theorem rd_set {w : World} {B : Nat} {v : Value} {s s' : RS} (h : RdAt w B v s) (hd : s'.data = s.data) (ho : s'.Ok) (i : Nat) (u : Value)
 (hc : (#[v, .int .i64 s.pos, .int .i64 s.item, .int .i64 s.err]).setIfInBounds i u = #[v, .int .i64 s'.pos, .int .i64 s'.item, .int .i64 s'.err]) : RdPost B v s' w (w.setCell ⟨B, i, none⟩ u) := by
 have hb : (w.setCell ⟨B, i, none⟩ u).heap[B]? = some (.cells ((#[v, .int .i64 s.pos, .int .i64 s.item, .int .i64 s.err]).setIfInBounds i u) 112 (0, 0)) := by simp [World.setCell, Array.getElem?_modify, h.blk]
 rw [hc] at hb
 exact ⟨h.set hd ho (But.set _ _ _) hb, But.set _ _ _⟩
theorem begin_no (B : Nat) (v : Value) (s : RS) (w : World) (h : RdAt w B v s) (he : s.err ≠ 0) :
 Calls Tryz.prog 130 #[.pointer (some ⟨B, 0, none⟩)] w fun e w' => e = .returned (.bool false) ∧ w' = w := by
 have c3 := h.cell 3
 simp only [List.getElem?_toArray, List.getElem?_cons_zero, List.getElem?_cons_succ] at c3
 have hb : (s.err != 0) = true := by simpa using he
 clear h he
 go_enter Tryz.func130, Tryz.ntmps130
 go_wp2_with fail
 go_ret
 exact ⟨rfl, rfl⟩
theorem begin_ok (B : Nat) (v : Value) (s : RS) (w : World) (h : RdAt w B v s) (he : s.err = 0) :
 Calls Tryz.prog 130 #[.pointer (some ⟨B, 0, none⟩)] w fun e w' => e = .returned (.bool true) ∧ RdPost B v s.begun w w' := by
 have c1 := h.cell 1
 have c2 := h.cell 2
 have c3 := h.cell 3
 have z2 := h.free 2
 simp only [List.getElem?_toArray, List.getElem?_cons_zero, List.getElem?_cons_succ] at c1 c2 c3
 have hb : (s.err != 0) = false := by rw [he]; rfl
 have HP : Hid (RdPost B v s.begun w (w.setCell ⟨B, 2, none⟩ (.int .i64 s.pos))) := hid (rd_set (s' := s.begun) h rfl ⟨h.ok.pos, Nat.le_refl _, h.ok.err⟩ 2 _ rfl)
 clear h he
 go_enter Tryz.func130, Tryz.ntmps130
 go_wp2_with fail
 go_ret
 exact ⟨rfl, HP.out⟩
theorem number_none (B : Nat) (v : Value) (s : RS) (w : World) (h : RdAt w B v s) (hl : s.data.length ≤ 1000000000) (hn : s.num = none) :
 Calls Tryz.prog 132 #[.pointer (some ⟨B, 0, none⟩)] w fun e w' => ∃ N X : Int, e = .returned (.tuple #[.int .u64 N, .int .i64 X, .bool false]) ∧ ∃ q, w' = w.drewN q :=
 (number_any B v s w h hl).mono fun e w' ⟨N, X, he, _, hq⟩ => ⟨N, X, by rw [hn] at he; exact he, hq⟩
theorem number_some (B : Nat) (v : Value) (s : RS) (w : World) (h : RdAt w B v s) (hl : s.data.length ≤ 1000000000) {n c : Nat} (hn : s.num = some (n, c)) :
 Calls Tryz.prog 132 #[.pointer (some ⟨B, 0, none⟩)] w fun e w' => e = .returned (.tuple #[.int .u64 n, .int .i64 ((s.pos : Int) + (c : Int)), .bool true]) ∧ ∃ q, w' = w.drewN q :=
 (number_any B v s w h hl).mono fun e w' ⟨N, X, he, hs, hq⟩ => by
   obtain ⟨rfl, rfl⟩ := hs n c hn
   exact ⟨by rw [hn] at he; exact he, hq⟩
theorem bad_set {w : World} {B : Nat} {v : Value} {s : RS} (h : RdAt w B v s.begun) : RdPost B v s.bad w (w.setCell ⟨B, 3, none⟩ (.int .i64 2)) := rd_set (s' := s.bad) h rfl ⟨h.ok.pos, Nat.le_refl _, .inr rfl⟩ 3 _ rfl
theorem go_set {w : World} {B : Nat} {v : Value} {s : RS} (h : RdAt w B v s.begun) (c : Nat) (hc : s.pos + c ≤ s.data.length) : RdPost B v (s.go c) w (w.setCell ⟨B, 1, none⟩ (.int .i64 ((s.pos : Int) + (c : Int)))) :=
 rd_set (s' := s.go c) h rfl ⟨hc, Nat.le_add_right _ _, h.ok.err⟩ 1 _ (by show #[v, Value.int .i64 ((s.pos : Int) + (c : Int)), _, _] = #[v, Value.int .i64 ((s.pos + c : Nat) : Int), _, _]; rw [Int.natCast_add]; rfl)
theorem rUint_any (B : Nat) (v : Value) (s : RS) (w : World) (h : RdAt w B v s) (hl : s.data.length ≤ 1000000000) :
 Calls Tryz.prog 131 #[.pointer (some ⟨B, 0, none⟩)] w fun e w' => e = .returned (.int .u64 (rdUint s).1) ∧ RdPost B v (rdUint s).2 w w' := by
 by_cases he : s.err = 0
 rotate_left
 · have HR : Hid (rdUint s = (0, s)) := hid (by unfold rdUint; rw [if_pos he])
   have HBG := hid (begin_no B _ s w h he)
   have HW := hid h
   clear h he hl
   go_enter Tryz.func131, Tryz.ntmps131
   go_wp2_with fail
   refine HBG.out.mono ?_
   rintro e w1 ⟨rfl, rfl⟩
   go_wp2_with fail
   go_ret
   exact ⟨by rw [HR.out]; rfl, by rw [HR.out]; exact ⟨HW.out, But.refl _ _⟩⟩
 cases hn : s.num with
 | none =>
   have HR : Hid (rdUint s = (0, s.bad)) := hid (by unfold rdUint; rw [if_neg (fun h => h he), hn])
   have HBG := hid (begin_ok B _ s w h he)
   have HNM := hid (fun W (hW : RdAt W B v s.begun) => number_none B v s.begun W hW hl hn)
   clear h he hl hn
   go_enter Tryz.func131, Tryz.ntmps131
   go_wp2_with fail
   refine HBG.out.mono ?_
   rintro e w1 ⟨rfl, hw1, hb1⟩
   have HW1 := hid hw1
   have HB1 := hid hb1
   clear hw1 hb1
   go_wp2_with fail
   refine (HNM.out _ HW1.out).mono ?_
   rintro e w2 ⟨N, X, rfl, q, rfl⟩
   have HW2 := hid (rd_drewN HW1.out q)
   have HB2 := hid (HB1.out.trans (but_drewN B w1 q))
   have c3 := HW2.out.cell 3
   have z3 := HW2.out.free 3
   simp only [List.getElem?_toArray, List.getElem?_cons_zero, List.getElem?_cons_succ] at c3
   have HP := hid (bad_set HW2.out)
   go_wp2_with fail
   go_ret
   exact ⟨by rw [HR.out]; rfl, by rw [HR.out]; exact RdPost.trans HB2.out HP.out⟩
 | some p =>
   obtain ⟨n, c⟩ := p
   have HR : Hid (rdUint s = (n, s.go c)) := hid (by unfold rdUint; rw [if_neg (fun h => h he), hn])
   have hc := (RS.num_some hn h.ok.pos).1
   have HBG := hid (begin_ok B _ s w h he)
   have HNM := hid (fun W (hW : RdAt W B v s.begun) => number_some B v s.begun W hW hl hn)
   have HC := hid hc
   clear h he hl hn hc
   go_enter Tryz.func131, Tryz.ntmps131
   go_wp2_with fail
   refine HBG.out.mono ?_
   rintro e w1 ⟨rfl, hw1, hb1⟩
   have HW1 := hid hw1
   have HB1 := hid hb1
   clear hw1 hb1
   go_wp2_with fail
   refine (HNM.out _ HW1.out).mono ?_
   rintro e w2 ⟨rfl, q, rfl⟩
   have HW2 := hid (rd_drewN HW1.out q)
   have HB2 := hid (HB1.out.trans (but_drewN B w1 q))
   have c1 := HW2.out.cell 1
   have z1 := HW2.out.free 1
   simp only [List.getElem?_toArray, List.getElem?_cons_zero, List.getElem?_cons_succ] at c1
   have HP := hid (go_set HW2.out c HC.out)
   go_wp2_with fail
   go_ret
   exact ⟨by rw [HR.out]; rfl, by rw [HR.out]; exact RdPost.trans HB2.out HP.out⟩
theorem rErr_any (B : Nat) (v : Value) (s : RS) (w : World) (h : RdAt w B v s) :
 Calls Tryz.prog 91 #[.pointer (some ⟨B, 0, none⟩)] w fun e w' => e = .returned (.int .i64 s.err) ∧ w' = w := by
 have c3 := h.cell 3
 simp only [List.getElem?_toArray, List.getElem?_cons_zero, List.getElem?_cons_succ] at c3
 clear h
 go_enter Tryz.func91, Tryz.ntmps91
 go_wp2_with fail
 go_ret
 exact ⟨rfl, rfl⟩
theorem rFail_any (B : Nat) (v : Value) (s : RS) (w : World) (h : RdAt w B v s) :
 Calls Tryz.prog 134 #[.pointer (some ⟨B, 0, none⟩)] w fun e w' => e = .returned (.tuple #[]) ∧ RdPost B v s.fail w w' := by
 have c1 := h.cell 1
 have c2 := h.cell 2
 have c3 := h.cell 3
 have z1 := h.free 1
 have z3 := h.free 3
 simp only [List.getElem?_toArray, List.getElem?_cons_zero, List.getElem?_cons_succ] at c1 c2 c3
 by_cases he : s.err = 0
 · have HR : Hid (s.fail = ⟨s.data, s.item, s.item, 2⟩) := hid (by unfold RS.fail; rw [if_pos he])
   have HP : Hid (RdPost B v s.fail w ((w.setCell ⟨B, 3, none⟩ (.int .i64 2)).setCell ⟨B, 1, none⟩ (.int .i64 s.item))) := hid (by
    rw [HR.out]
    have h1 : RdPost B v ⟨s.data, s.pos, s.item, 2⟩ w (w.setCell ⟨B, 3, none⟩ (.int .i64 2)) := rd_set (s' := ⟨s.data, s.pos, s.item, 2⟩) h rfl ⟨h.ok.pos, h.ok.item, .inr rfl⟩ 3 _ rfl
    exact RdPost.trans h1.2 (rd_set (s' := ⟨s.data, s.item, s.item, 2⟩) h1.1 rfl ⟨Nat.le_trans h.ok.item h.ok.pos, Nat.le_refl _, .inr rfl⟩ 1 _ rfl))
   have hb : (s.err == 0) = true := by rw [he]; rfl
   clear h he
   go_enter Tryz.func134, Tryz.ntmps134
   go_wp2_with fail
   go_end0
   exact ⟨rfl, HP.out⟩
 · have HR : Hid (s.fail = s) := hid (by unfold RS.fail; rw [if_neg he])
   have hb : (s.err == 0) = false := by simpa using he
   have HW := hid h
   clear h he
   go_enter Tryz.func134, Tryz.ntmps134
   go_wp2_with fail
   go_end0
   exact ⟨rfl, by rw [HR.out]; exact ⟨HW.out, But.refl _ _⟩⟩
theorem rLeft_any (B : Nat) (v : Value) (s : RS) (w : World) (h : RdAt w B v s) (hl : s.data.length ≤ 1000000000) :
 Calls Tryz.prog 94 #[.pointer (some ⟨B, 0, none⟩)] w fun e w' => e = .returned (.int .i64 ((s.data.length : Int) - (s.pos : Int))) ∧ ∃ q, w' = w.drewN q := by
 obtain ⟨a, cap, rfl, _⟩ := h.shape
 have c0 := h.cell 0
 have c1 := h.cell 1
 simp only [List.getElem?_toArray, List.getElem?_cons_zero, List.getElem?_cons_succ] at c0 c1
 have hp := h.ok.pos
 have hw : IntKind.i64.wrap ((s.data.length : Int) - (s.pos : Int)) = (s.data.length : Int) - (s.pos : Int) := IntWalk.i64_in _ (by omega)
 clear h
 go_enter Tryz.func94, Tryz.ntmps94
 go_wp2_with fail
 go_quiet (fail)
 go_wp2_with fail
 go_ret
 exact ⟨rfl, _, rfl⟩
theorem rEnd_any (B : Nat) (v : Value) (s : RS) (w : World) (h : RdAt w B v s) (hl : s.data.length ≤ 1000000000) :
 Calls Tryz.prog 55 #[.pointer (some ⟨B, 0, none⟩)] w fun e w' => e = .returned (.int .i64 s.ends) ∧ ∃ q, w' = w.drewN q := by
 have c3 := h.cell 3
 simp only [List.getElem?_toArray, List.getElem?_cons_zero, List.getElem?_cons_succ] at c3
 have HLF := hid (rLeft_any B v s w h hl)
 have hp := h.ok.pos
 by_cases he : s.err = 0
 · have hb : (s.err == 0) = true := by rw [he]; rfl
   by_cases hlt : s.pos < s.data.length
   · have HR : Hid (s.ends = 2) := hid (by unfold RS.ends; rw [if_pos ⟨he, hlt⟩])
     have hd : decide ((0 : Int) < (s.data.length : Int) - (s.pos : Int)) = true := decide_eq_true (by omega)
     clear h he
     go_enter Tryz.func55, Tryz.ntmps55
     go_wp2_with fail
     refine HLF.out.mono ?_
     rintro e w1 ⟨rfl, q, rfl⟩
     go_wp2_with fail
     go_ret
     exact ⟨ret_int HR.out.symm, _, rfl⟩
   · have HR : Hid (s.ends = s.err) := hid (by unfold RS.ends; rw [if_neg (fun h => hlt h.2)])
     have hd : decide ((0 : Int) < (s.data.length : Int) - (s.pos : Int)) = false := decide_eq_false (by omega)
     clear h he
     go_enter Tryz.func55, Tryz.ntmps55
     go_wp2_with fail
     refine HLF.out.mono ?_
     rintro e w1 ⟨rfl, q, rfl⟩
     go_wp2_with fail
     go_ret
     exact ⟨ret_int HR.out.symm, _, rfl⟩
 · have hb : (s.err == 0) = false := by simpa using he
   have HR : Hid (s.ends = s.err) := hid (by unfold RS.ends; rw [if_neg (fun h => he h.1)])
   clear h he
   go_enter Tryz.func55, Tryz.ntmps55
   go_wp2_with fail
   go_ret
   exact ⟨ret_int HR.out.symm, 0, rfl⟩
end Go.Proofs.YtmdjnaobllajmaaGreatDoor
