/-
  The walks of the reference's Part and Is, Survives.
-/
import Derived.Test.YtaifmlbhglfbeaaWalkR
import Derived.Test.YtaifmlbhglfbeaaWalkC
namespace Go.Proofs.Ytaifmlbhglfbeaa
open Go.RowKit

theorem Try.infoInt : (Try.prog.info? 3).map (fun i => (i.zero, i.size, i.bytes)) = some (some (.int .i64 0), 1, 8) := by kernel_rfl

def partL : List Int → List Int → Bool → List Int
  | [], _, _ => []
  | r :: t, x, b => if (hasB x r == b) = true then r :: partL t x b else partL t x b
theorem partL_le (ms x : List Int) (b : Bool) : (partL ms x b).length ≤ ms.length := by
  induction ms with
  | nil => simp [partL]
  | cons r t ih => simp only [partL]; split <;> simp <;> omega
theorem partL_append (l1 l2 x : List Int) (b : Bool) : partL (l1 ++ l2) x b = partL l1 x b ++ partL l2 x b := by
  induction l1 with
  | nil => rfl
  | cons r t ih => simp only [List.cons_append, partL]; split <;> simp [ih]
theorem partL_yes (ms x : List Int) (b : Bool) (k : Nat) (h : k < ms.length) (hy : (hasB x ms[k] == b) = true) : partL (ms.take (k + 1)) x b = partL (ms.take k) x b ++ [ms[k]] := by
  rw [List.take_succ_eq_append_getElem h, partL_append]
  congr 1
  rw [partL, if_pos hy]; rfl
theorem partL_no (ms x : List Int) (b : Bool) (k : Nat) (h : k < ms.length) (hy : (hasB x ms[k] == b) = false) : partL (ms.take (k + 1)) x b = partL (ms.take k) x b := by
  rw [List.take_succ_eq_append_getElem h, partL_append]
  rw [partL.eq_2, if_neg (by simp [hy]), partL, List.append_nil]

set_option maxHeartbeats 1000000 in
theorem part_any (v u : Value) (ms x : List Int) (bb : Bool) (w : World) (hv : Ints w v ms) (hu : Ints w u x) (hlen : ms.length ≤ 1000000) :
    Calls Try.prog 33 #[v, u, .bool bb] w fun e w' => ∃ ar cr, e = .returned (.slice ar (partL ms x bb).length cr) ∧ w'.ownsRow w.heap.size 3 1 (.slice ar (partL ms x bb).length cr) (partL ms x bb).length ((partL ms x bb).map (Value.int .i64)) ∧ Below w.heap.size w w' := by
  have hU := hu
  obtain ⟨a, cap, rfl, _hnn, hmax, hc⟩ := hv
  obtain ⟨a2, cap2, rfl, _hnn2, hmax2, hc2⟩ := hu
  clear hc2
  obtain ⟨i0, hi, hz0, hz1, hz2⟩ := info_parts Try.infoInt
  go_enter Try.func33, Try.ntmps33
  go_wp2
  go_loopw [7, 8] (fun r i wr => ∃ (k : Nat), k ≤ ms.length ∧ i = .int .i64 k ∧ wr.ownsRow w.heap.size 3 1 r (partL (ms.take k) x bb).length ((partL (ms.take k) x bb).map (Value.int .i64)) ∧ Below w.heap.size w wr) (fun _ i _ => ms.length - (intOf i).toNat)
  case atStart => exact ⟨0, Nat.zero_le _, rfl, World.ownsRow_nil _ _ _ _, Below.refl _ _⟩
  case round =>
    obtain ⟨k, hk, rfl, hown, hnx⟩ := hrel
    have HL := partL_le (ms.take k) x bb
    rw [List.length_take] at HL
    by_cases hlt : k < ms.length
    · obtain ⟨b, off, rfl, hcell0⟩ := hc k hlt
      have hcell : wr.cell? ⟨b, off + k, none⟩ = some (.int .i64 ms[k]) := (hnx.cell (World.block_lt_of_cell? w _ hcell0)).trans hcell0
      clear hc hcell0
      have HH := has_any (.slice a2 x.length cap2) x ms[k] wr (hU.below hnx)
      go_wp2_with (first
        | (go_at_call 42; refine HH.mono ?_; rintro e w' ⟨rfl, rfl⟩)
        | (at_builtin; refine wpList_append_own _ rfl _ _ 25 rfl w.heap.size 3 i0 (.int .i64 0) 1 8 Try.underlying25 hi hz0 hz1 hz2 rfl (by decide) _ _ _ rfl (hown.alloc _) ⟨w'.heap.size, 0, none⟩ 1 1 [.int .i64 ms[k]] rfl rfl ?c1 ?c2 ?c3 ?c4 ?c5 ?_))
      case c1 =>
        intro j q hj
        match j, hj with
        | 0, hj => simp at hj; subst hj; simp [Addr.add]
      case c2 => intro q hq; simp at hq; subst hq; rfl
      case c3 => unfold maxLen; omega
      case c4 => omega
      case c5 => have := hnx.size; simp; omega
      · intro v' w1 hown' hgrow _
        have hy : (hasB x ms[k] == bb) = true := by assumption
        have hyL := partL_yes ms x bb k hlt hy
        have hB1 : Below w.heap.size w w1 := (hnx.alloc (by have := hnx.size; omega) _).grown hgrow (by have := hnx.size; simp; omega) (fun j hj => (hown.lt j hj).1)
        have hO1 : w1.ownsRow w.heap.size 3 1 v' (partL (ms.take (k + 1)) x bb).length ((partL (ms.take (k + 1)) x bb).map (Value.int .i64)) := by rw [hyL]; simpa using hown'
        clear hgrow hown' hown hyL
        go_wp2
        go_roundw
        case rel => exact ⟨k + 1, by omega, by go_num, hO1, hB1⟩
        case measure => simp [intOf]; omega
      · have hy : (hasB x ms[k] == bb) = false := by assumption
        go_roundw
        case rel => exact ⟨k + 1, by omega, by go_num, by rw [partL_no ms x bb k hlt hy]; exact hown, hnx⟩
        case measure => simp [intOf]; omega
    · go_wp2
      have hkl : k = ms.length := by omega
      subst hkl
      rw [List.take_length] at hown
      obtain ⟨ar, cr, hr⟩ := owns_shape hown
      go_ret
      exact ⟨ar, cr, congrArg Ending.returned hr, hr ▸ hown, hnx⟩
theorem part_inside (ms x : List Int) : (partL ms x true).length = insideN ms x := by
  induction ms with
  | nil => rfl
  | cons r t ih => cases h : hasB x r <;> simp [partL, insideN, h, ih]; omega
theorem part_out_len (ms x : List Int) : (partL ms x false).length = ms.length - insideN ms x := by
  induction ms with
  | nil => rfl
  | cons r t ih => have := insideN_le t x; cases h : hasB x r <;> simp [partL, insideN, h, ih] <;> omega

set_option maxHeartbeats 1000000 in
theorem ris_any (m : Int) (v u : Value) (ms x : List Int) (w : World) (hv : Ints w v ms) (hu : Ints w u x) (hlen : ms.length ≤ 1000000) :
    Calls Try.prog 23 #[.int .i64 m, v, u] w fun e w' => e = .returned (.bool (isB m ms x)) ∧ Below w.heap.size w w' := by
  have HP := fun n => part_any v u ms x true (w.drewN n) hv hu hlen
  have HV := rvalid_any m v ms w hv
  obtain ⟨a, cap, rfl, _hnn, hmax, hc⟩ := hv
  clear hc
  have hle := insideN_le ms x
  have hnd := need_bd m ms.length
  cases hs : validB m ms
  all_goals
    have H := hid hs; clear hs
    go_enter Try.func23, Try.ntmps23
    go_wp2_with fail
    refine HV.mono ?_
    rintro e w' ⟨rfl, n, rfl⟩
    rw [H.out]
    go_wp2_with (first | (go_at_call 33; refine (HP n).mono ?_; rintro e w' ⟨ar, cr, rfl, hown, hb⟩) | (go_at_call 16; refine (rneed_any _ _ _).mono ?_; rintro e w' ⟨rfl, rfl⟩))
    all_goals go_ret
    all_goals first | exact ⟨by simp [isB, H.out], below_drewN' (Below.refl _ _) n⟩ | exact ⟨by simp [isB, H.out, part_inside], (below_drewN' (Below.refl _ _) n).trans hb⟩

set_option maxHeartbeats 1000000 in
theorem rsurvives_any (m : Int) (v u : Value) (ms x : List Int) (w : World) (hv : Ints w v ms) (hu : Ints w u x) (hlen : ms.length ≤ 1000000) :
    Calls Try.prog 25 #[.int .i64 m, v, u] w fun e w' => e = .returned (.bool (validB m ms && isB m ms (partL ms x false))) ∧ Below w.heap.size w w' := by
  have HP := fun n => part_any v u ms x false (w.drewN n) hv hu hlen
  have HV := rvalid_any m v ms w hv
  have hV2 := hv
  obtain ⟨a, cap, rfl, _hnn, hmax, hc⟩ := hv
  clear hc
  cases hs : validB m ms
  · have H := hid hs; clear hs
    go_enter Try.func25, Try.ntmps25
    go_wp2_with fail
    refine HV.mono ?_
    rintro e w' ⟨rfl, n, rfl⟩
    rw [H.out]
    go_wp2_with fail
    go_ret
    exact ⟨by simp, below_drewN' (Below.refl _ _) n⟩
  · have H := hid hs; clear hs
    go_enter Try.func25, Try.ntmps25
    go_wp2_with fail
    refine HV.mono ?_
    rintro e w' ⟨rfl, n, rfl⟩
    rw [H.out]
    go_wp2_with fail
    refine (HP n).mono ?_
    rintro e w1 ⟨ar, cr, rfl, hown, hb⟩
    have hb1 : Below w.heap.size w w1 := (below_drewN' (Below.refl _ _) n).trans hb
    go_wp2_with fail
    refine (ris_any m _ _ ms (partL ms x false) w1 (hV2.below hb1) (Ints.of_owns hown) hlen).mono ?_
    rintro e w2 ⟨rfl, hb2⟩
    go_wp2_with fail
    go_ret
    exact ⟨by simp, hb1.trans (hb2.mono hb1.size)⟩

end Go.Proofs.Ytaifmlbhglfbeaa
