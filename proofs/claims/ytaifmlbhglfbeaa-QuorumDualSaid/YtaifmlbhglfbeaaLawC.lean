/-
  The walks of the laws QuorumContains, QuorumTolerates, QuorumDual, QuorumIntersects, QuorumGrows.
-/
import Derived.Test.YtaifmlbhglfbeaaLawB
namespace Go.Proofs.Ytaifmlbhglfbeaa
open Go.RowKit

set_option maxHeartbeats 4000000 in
theorem quorumContains_walk (m : Int) (v : Value) (ms : List Int) (u : Value) (x : List Int) (w : World) (hv : Ints w v ms) (hu : Ints w u x) :
    Calls Try.prog 4 #[.int .i64 m, v, u] w fun e w' => e = .returned (.bool true) ∧ Below w.heap.size w w' := by
  have hl0 := hv.len
  obtain ⟨a0, c0, rfl⟩ := hv.shape
  have hl1 := hu.len
  obtain ⟨a1, c1, rfl⟩ := hu.shape
  by_cases h1 : 100 < ms.length
  · go_enter Try.func4, Try.ntmps4
    go_wp2_with fail
    refine (awake_any w).mono ?_
    rintro e W ⟨rfl, hb⟩
    replace hv := hv.below hb
    replace hu := hu.below hb
    go_wp2_with fail
    refine (long_any _ ms W hv).mono ?_
    rintro e W ⟨rfl, rfl⟩
    go_wp2_with fail
    go_ret
    exact ⟨rfl, hb⟩
  by_cases h2 : 100 < x.length
  · go_enter Try.func4, Try.ntmps4
    go_wp2_with fail
    refine (awake_any w).mono ?_
    rintro e W ⟨rfl, hb⟩
    replace hv := hv.below hb
    replace hu := hu.below hb
    go_wp2_with fail
    refine (long_any _ ms W hv).mono ?_
    rintro e W ⟨rfl, rfl⟩
    go_wp2_with fail
    refine (long_any _ x W hu).mono ?_
    rintro e W ⟨rfl, rfl⟩
    go_wp2_with fail
    go_ret
    exact ⟨rfl, hb⟩
  have hS := survives_eq m ms x
  have HS2 := hid hS.symm
  clear hS
  go_enter Try.func4, Try.ntmps4
  go_wp2_with fail
  refine (awake_any w).mono ?_
  rintro e W ⟨rfl, hb⟩
  replace hv := hv.below hb
  replace hu := hu.below hb
  go_wp2_with fail
  refine (long_any _ ms W hv).mono ?_
  rintro e W ⟨rfl, rfl⟩
  go_wp2_with fail
  refine (long_any _ x W hu).mono ?_
  rintro e W ⟨rfl, rfl⟩
  go_wp2_with fail
  refine (valid_any m _ ms W hv).mono ?_
  rintro e W ⟨rfl, rfl⟩
  go_wp2_with fail
  refine (rvalid_any m _ ms W hv).mono ?_
  rintro e W1 ⟨rfl, n, rfl⟩
  go_wp2_with fail
  refine (is_any m _ _ ms x _ (hv.drewN n) (hu.drewN n)).mono ?_
  rintro e W1 ⟨rfl, rfl⟩
  go_wp2_with fail
  refine (ris_any m _ _ ms x _ (hv.drewN n) (hu.drewN n) (by omega)).mono ?_
  rintro e W2 ⟨rfl, hb2⟩
  replace hb := (below_drewN' hb n).trans (hb2.mono (by have := hb.size; exact this))
  have hv2 := (hv.drewN n).below hb2
  have hu2 := (hu.drewN n).below hb2
  clear hb2
  go_wp2_with fail
  refine (survives_any m _ _ ms x _ hv2 hu2).mono ?_
  rintro e W2 ⟨rfl, rfl⟩
  go_wp2_with fail
  refine (rsurvives_any m _ _ ms x _ hv2 hu2 (by omega)).mono ?_
  rintro e W3 ⟨rfl, hb3⟩
  rw [HS2.out]
  replace hb := hb.trans (hb3.mono hb.size)
  go_wp2_with fail
  go_ret
  exact ⟨rfl, hb⟩

set_option maxHeartbeats 4000000 in
theorem quorumTolerates_walk (m : Int) (v : Value) (ms : List Int) (u : Value) (x : List Int) (w : World) (hv : Ints w v ms) (hu : Ints w u x) :
    Calls Try.prog 8 #[.int .i64 m, v, u] w fun e w' => e = .returned (.bool true) ∧ Below w.heap.size w w' := by
  have hl0 := hv.len
  obtain ⟨a0, c0, rfl⟩ := hv.shape
  have hl1 := hu.len
  obtain ⟨a1, c1, rfl⟩ := hu.shape
  by_cases g0 : 100 < ms.length
  · go_enter Try.func8, Try.ntmps8
    go_wp2_with fail
    refine (awake_any w).mono ?_
    rintro e W ⟨rfl, hb⟩
    replace hv := hv.below hb
    replace hu := hu.below hb
    go_wp2_with fail
    refine (long_any _ ms W hv).mono ?_
    rintro e W ⟨rfl, rfl⟩
    go_wp2_with fail
    go_ret
    exact ⟨rfl, hb⟩
  by_cases g1 : 100 < x.length
  · go_enter Try.func8, Try.ntmps8
    go_wp2_with fail
    refine (awake_any w).mono ?_
    rintro e W ⟨rfl, hb⟩
    replace hv := hv.below hb
    replace hu := hu.below hb
    go_wp2_with fail
    refine (long_any _ ms W hv).mono ?_
    rintro e W ⟨rfl, rfl⟩
    go_wp2_with fail
    refine (long_any _ x W hu).mono ?_
    rintro e W ⟨rfl, rfl⟩
    go_wp2_with fail
    go_ret
    exact ⟨rfl, hb⟩
  cases hs : validB m ms
  · have H := hid hs
    clear hs
    go_enter Try.func8, Try.ntmps8
    go_wp2_with fail
    refine (awake_any w).mono ?_
    rintro e W ⟨rfl, hb⟩
    replace hv := hv.below hb
    replace hu := hu.below hb
    go_wp2_with fail
    refine (long_any _ ms W hv).mono ?_
    rintro e W ⟨rfl, rfl⟩
    go_wp2_with fail
    refine (long_any _ x W hu).mono ?_
    rintro e W ⟨rfl, rfl⟩
    go_wp2_with fail
    refine (valid_any m _ ms W hv).mono ?_
    rintro e W ⟨rfl, rfl⟩
    rw [H.out]
    go_wp2_with fail
    go_ret
    exact ⟨rfl, hb⟩
  · have HT := hid (tolerates_eq m ms x hs)
    have H := hid hs
    clear hs
    go_enter Try.func8, Try.ntmps8
    go_wp2_with fail
    refine (awake_any w).mono ?_
    rintro e W ⟨rfl, hb⟩
    replace hv := hv.below hb
    replace hu := hu.below hb
    go_wp2_with fail
    refine (long_any _ ms W hv).mono ?_
    rintro e W ⟨rfl, rfl⟩
    go_wp2_with fail
    refine (long_any _ x W hu).mono ?_
    rintro e W ⟨rfl, rfl⟩
    go_wp2_with fail
    refine (valid_any m _ ms W hv).mono ?_
    rintro e W ⟨rfl, rfl⟩
    rw [H.out]
    go_wp2_with fail
    refine (survives_any m _ _ ms x W hv hu).mono ?_
    rintro e W ⟨rfl, rfl⟩
    rw [HT.out]
    go_wp2_with fail
    refine (part_any _ _ ms x true W hv hu (by omega)).mono ?_
    rintro e W2 ⟨ar, cr, rfl, hown, hb2⟩
    clear hown
    replace hb := hb.trans (hb2.mono hb.size)
    clear hb2
    go_wp2_with fail
    refine (faults_any _ _ _).mono ?_
    rintro e W ⟨rfl, rfl⟩
    go_wp2_with fail
    go_ret
    exact ⟨rfl, hb⟩

set_option maxHeartbeats 4000000 in
theorem quorumDual_walk (m : Int) (v : Value) (ms : List Int) (u : Value) (x : List Int) (w : World) (hv : Ints w v ms) (hu : Ints w u x) :
    Calls Try.prog 9 #[.int .i64 m, v, u] w fun e w' => e = .returned (.bool true) ∧ Below w.heap.size w w' := by
  have hl0 := hv.len
  obtain ⟨a0, c0, rfl⟩ := hv.shape
  have hl1 := hu.len
  obtain ⟨a1, c1, rfl⟩ := hu.shape
  by_cases g0 : 100 < ms.length
  · go_enter Try.func9, Try.ntmps9
    go_wp2_with fail
    refine (awake_any w).mono ?_
    rintro e W ⟨rfl, hb⟩
    replace hv := hv.below hb
    replace hu := hu.below hb
    go_wp2_with fail
    refine (long_any _ ms W hv).mono ?_
    rintro e W ⟨rfl, rfl⟩
    go_wp2_with fail
    go_ret
    exact ⟨rfl, hb⟩
  by_cases g1 : 100 < x.length
  · go_enter Try.func9, Try.ntmps9
    go_wp2_with fail
    refine (awake_any w).mono ?_
    rintro e W ⟨rfl, hb⟩
    replace hv := hv.below hb
    replace hu := hu.below hb
    go_wp2_with fail
    refine (long_any _ ms W hv).mono ?_
    rintro e W ⟨rfl, rfl⟩
    go_wp2_with fail
    refine (long_any _ x W hu).mono ?_
    rintro e W ⟨rfl, rfl⟩
    go_wp2_with fail
    go_ret
    exact ⟨rfl, hb⟩
  cases hs : validB m ms
  · have H := hid hs
    clear hs
    go_enter Try.func9, Try.ntmps9
    go_wp2_with fail
    refine (awake_any w).mono ?_
    rintro e W ⟨rfl, hb⟩
    replace hv := hv.below hb
    replace hu := hu.below hb
    go_wp2_with fail
    refine (long_any _ ms W hv).mono ?_
    rintro e W ⟨rfl, rfl⟩
    go_wp2_with fail
    refine (long_any _ x W hu).mono ?_
    rintro e W ⟨rfl, rfl⟩
    go_wp2_with fail
    refine (valid_any m _ ms W hv).mono ?_
    rintro e W ⟨rfl, rfl⟩
    rw [H.out]
    go_wp2_with fail
    go_ret
    exact ⟨rfl, hb⟩
  · have HT := hid (dual_eq m ms x hs)
    have H := hid hs
    clear hs
    go_enter Try.func9, Try.ntmps9
    go_wp2_with fail
    refine (awake_any w).mono ?_
    rintro e W ⟨rfl, hb⟩
    replace hv := hv.below hb
    replace hu := hu.below hb
    go_wp2_with fail
    refine (long_any _ ms W hv).mono ?_
    rintro e W ⟨rfl, rfl⟩
    go_wp2_with fail
    refine (long_any _ x W hu).mono ?_
    rintro e W ⟨rfl, rfl⟩
    go_wp2_with fail
    refine (valid_any m _ ms W hv).mono ?_
    rintro e W ⟨rfl, rfl⟩
    rw [H.out]
    go_wp2_with fail
    refine (blocks_any m _ _ ms x W hv hu).mono ?_
    rintro e W ⟨rfl, rfl⟩
    rw [HT.out]
    go_wp2_with fail
    refine (part_any _ _ ms x false W hv hu (by omega)).mono ?_
    rintro e W2 ⟨ar, cr, rfl, hown, hb2⟩
    replace hv := hv.below hb2
    have hp := Ints.of_owns hown
    clear hown
    replace hb := hb.trans (hb2.mono hb.size)
    clear hb2
    go_wp2_with fail
    refine (is_any m _ _ ms (partL ms x false) W2 hv hp).mono ?_
    rintro e W ⟨rfl, rfl⟩
    go_wp2_with fail
    go_ret
    exact ⟨rfl, hb⟩

set_option maxHeartbeats 4000000 in
theorem quorumIntersects_walk (m : Int) (v : Value) (ms : List Int) (u : Value) (x : List Int) (t : Value) (y : List Int) (w : World) (hv : Ints w v ms) (hu : Ints w u x) (ht : Ints w t y) :
    Calls Try.prog 7 #[.int .i64 m, v, u, t] w fun e w' => e = .returned (.bool true) ∧ Below w.heap.size w w' := by
  have hl0 := hv.len
  obtain ⟨a0, c0, rfl⟩ := hv.shape
  have hl1 := hu.len
  obtain ⟨a1, c1, rfl⟩ := hu.shape
  have hl2 := ht.len
  obtain ⟨a2, c2, rfl⟩ := ht.shape
  by_cases g0 : 100 < ms.length
  · go_enter Try.func7, Try.ntmps7
    go_wp2_with fail
    refine (awake_any w).mono ?_
    rintro e W ⟨rfl, hb⟩
    replace hv := hv.below hb
    replace hu := hu.below hb
    replace ht := ht.below hb
    go_wp2_with fail
    refine (long_any _ ms W hv).mono ?_
    rintro e W ⟨rfl, rfl⟩
    go_wp2_with fail
    go_ret
    exact ⟨rfl, hb⟩
  by_cases g1 : 100 < x.length
  · go_enter Try.func7, Try.ntmps7
    go_wp2_with fail
    refine (awake_any w).mono ?_
    rintro e W ⟨rfl, hb⟩
    replace hv := hv.below hb
    replace hu := hu.below hb
    replace ht := ht.below hb
    go_wp2_with fail
    refine (long_any _ ms W hv).mono ?_
    rintro e W ⟨rfl, rfl⟩
    go_wp2_with fail
    refine (long_any _ x W hu).mono ?_
    rintro e W ⟨rfl, rfl⟩
    go_wp2_with fail
    go_ret
    exact ⟨rfl, hb⟩
  by_cases g2 : 100 < y.length
  · go_enter Try.func7, Try.ntmps7
    go_wp2_with fail
    refine (awake_any w).mono ?_
    rintro e W ⟨rfl, hb⟩
    replace hv := hv.below hb
    replace hu := hu.below hb
    replace ht := ht.below hb
    go_wp2_with fail
    refine (long_any _ ms W hv).mono ?_
    rintro e W ⟨rfl, rfl⟩
    go_wp2_with fail
    refine (long_any _ x W hu).mono ?_
    rintro e W ⟨rfl, rfl⟩
    go_wp2_with fail
    refine (long_any _ y W ht).mono ?_
    rintro e W ⟨rfl, rfl⟩
    go_wp2_with fail
    go_ret
    exact ⟨rfl, hb⟩
  cases hs : validB m ms
  · have H := hid hs
    clear hs
    go_enter Try.func7, Try.ntmps7
    go_wp2_with fail
    refine (awake_any w).mono ?_
    rintro e W ⟨rfl, hb⟩
    replace hv := hv.below hb
    replace hu := hu.below hb
    replace ht := ht.below hb
    go_wp2_with fail
    refine (long_any _ ms W hv).mono ?_
    rintro e W ⟨rfl, rfl⟩
    go_wp2_with fail
    refine (long_any _ x W hu).mono ?_
    rintro e W ⟨rfl, rfl⟩
    go_wp2_with fail
    refine (long_any _ y W ht).mono ?_
    rintro e W ⟨rfl, rfl⟩
    go_wp2_with fail
    refine (valid_any m _ ms W hv).mono ?_
    rintro e W ⟨rfl, rfl⟩
    rw [H.out]
    go_wp2_with fail
    go_ret
    exact ⟨rfl, hb⟩
  cases hx : isB m ms x
  · have H := hid hs
    clear hs
    have HX := hid hx
    clear hx
    go_enter Try.func7, Try.ntmps7
    go_wp2_with fail
    refine (awake_any w).mono ?_
    rintro e W ⟨rfl, hb⟩
    replace hv := hv.below hb
    replace hu := hu.below hb
    replace ht := ht.below hb
    go_wp2_with fail
    refine (long_any _ ms W hv).mono ?_
    rintro e W ⟨rfl, rfl⟩
    go_wp2_with fail
    refine (long_any _ x W hu).mono ?_
    rintro e W ⟨rfl, rfl⟩
    go_wp2_with fail
    refine (long_any _ y W ht).mono ?_
    rintro e W ⟨rfl, rfl⟩
    go_wp2_with fail
    refine (valid_any m _ ms W hv).mono ?_
    rintro e W ⟨rfl, rfl⟩
    rw [H.out]
    go_wp2_with fail
    refine (is_any m _ _ ms x W hv hu).mono ?_
    rintro e W ⟨rfl, rfl⟩
    rw [HX.out]
    go_wp2_with fail
    go_ret
    exact ⟨rfl, hb⟩
  cases hy : isB m ms y
  · have H := hid hs
    clear hs
    have HX := hid hx
    clear hx
    have HY := hid hy
    clear hy
    go_enter Try.func7, Try.ntmps7
    go_wp2_with fail
    refine (awake_any w).mono ?_
    rintro e W ⟨rfl, hb⟩
    replace hv := hv.below hb
    replace hu := hu.below hb
    replace ht := ht.below hb
    go_wp2_with fail
    refine (long_any _ ms W hv).mono ?_
    rintro e W ⟨rfl, rfl⟩
    go_wp2_with fail
    refine (long_any _ x W hu).mono ?_
    rintro e W ⟨rfl, rfl⟩
    go_wp2_with fail
    refine (long_any _ y W ht).mono ?_
    rintro e W ⟨rfl, rfl⟩
    go_wp2_with fail
    refine (valid_any m _ ms W hv).mono ?_
    rintro e W ⟨rfl, rfl⟩
    rw [H.out]
    go_wp2_with fail
    refine (is_any m _ _ ms x W hv hu).mono ?_
    rintro e W ⟨rfl, rfl⟩
    rw [HX.out]
    go_wp2_with fail
    refine (is_any m _ _ ms y W hv ht).mono ?_
    rintro e W ⟨rfl, rfl⟩
    rw [HY.out]
    go_wp2_with fail
    go_ret
    exact ⟨rfl, hb⟩
  have f1 := valid_faults hs
  have f2 := (is_true hx).2
  have f3 := (is_true hy).2
  have f4 := inter_len ms x y
  have hm := (valid_len hs).1
  have HD : Hid (decide (((partL (partL ms x true) y true).length : Int) < overlapI m ms.length) = false) := hid (decide_eq_false (by omega))
  have g5 : overlapI m ms.length ≤ ((partL (partL ms x true) y true).length : Int) := by omega
  have g6 : (1 : Int) ≤ ((partL (partL ms x true) y true).length : Int) := by omega
  have g7 : m = 2 → faultsI m ms.length < ((partL (partL ms x true) y true).length : Int) := fun h => by have := f1.2.2.1 h; omega
  have hp1 := partL_le ms x true
  have H := hid hs
  have HX := hid hx
  have HY := hid hy
  clear f1 f2 f3 f4 HD hs hx hy
  rcases hm with rfl | rfl
  · clear g7
    go_enter Try.func7, Try.ntmps7
    go_wp2_with fail
    refine (awake_any w).mono ?_
    rintro e W ⟨rfl, hb⟩
    replace hv := hv.below hb
    replace hu := hu.below hb
    replace ht := ht.below hb
    go_wp2_with fail
    refine (long_any _ ms W hv).mono ?_
    rintro e W ⟨rfl, rfl⟩
    go_wp2_with fail
    refine (long_any _ x W hu).mono ?_
    rintro e W ⟨rfl, rfl⟩
    go_wp2_with fail
    refine (long_any _ y W ht).mono ?_
    rintro e W ⟨rfl, rfl⟩
    go_wp2_with fail
    refine (valid_any 1 _ ms W hv).mono ?_
    rintro e W ⟨rfl, rfl⟩
    rw [H.out]
    go_wp2_with fail
    refine (is_any 1 _ _ ms x W hv hu).mono ?_
    rintro e W ⟨rfl, rfl⟩
    rw [HX.out]
    go_wp2_with fail
    refine (is_any 1 _ _ ms y W hv ht).mono ?_
    rintro e W ⟨rfl, rfl⟩
    rw [HY.out]
    go_wp2_with fail
    refine (part_any _ _ ms x true W hv hu (by omega)).mono ?_
    rintro e W2 ⟨ar, cr, rfl, hown, hb2⟩
    replace ht := ht.below hb2
    have hp := Ints.of_owns hown
    clear hown
    replace hb := hb.trans (hb2.mono hb.size)
    clear hb2
    go_wp2_with fail
    refine (part_any _ _ (partL ms x true) y true W2 hp ht (by omega)).mono ?_
    rintro e W ⟨ar2, cr2, rfl, hown, hb2⟩
    clear hown hp
    replace hb := hb.trans (hb2.mono hb.size)
    clear hb2
    go_wp2_with fail
    refine (overlap_any _ _ _).mono ?_
    rintro e W ⟨rfl, rfl⟩
    go_wp2_with fail
    go_ret
    exact ⟨rfl, hb⟩
  · replace g7 := g7 rfl
    go_enter Try.func7, Try.ntmps7
    go_wp2_with fail
    refine (awake_any w).mono ?_
    rintro e W ⟨rfl, hb⟩
    replace hv := hv.below hb
    replace hu := hu.below hb
    replace ht := ht.below hb
    go_wp2_with fail
    refine (long_any _ ms W hv).mono ?_
    rintro e W ⟨rfl, rfl⟩
    go_wp2_with fail
    refine (long_any _ x W hu).mono ?_
    rintro e W ⟨rfl, rfl⟩
    go_wp2_with fail
    refine (long_any _ y W ht).mono ?_
    rintro e W ⟨rfl, rfl⟩
    go_wp2_with fail
    refine (valid_any 2 _ ms W hv).mono ?_
    rintro e W ⟨rfl, rfl⟩
    rw [H.out]
    go_wp2_with fail
    refine (is_any 2 _ _ ms x W hv hu).mono ?_
    rintro e W ⟨rfl, rfl⟩
    rw [HX.out]
    go_wp2_with fail
    refine (is_any 2 _ _ ms y W hv ht).mono ?_
    rintro e W ⟨rfl, rfl⟩
    rw [HY.out]
    go_wp2_with fail
    refine (part_any _ _ ms x true W hv hu (by omega)).mono ?_
    rintro e W2 ⟨ar, cr, rfl, hown, hb2⟩
    replace ht := ht.below hb2
    have hp := Ints.of_owns hown
    clear hown
    replace hb := hb.trans (hb2.mono hb.size)
    clear hb2
    go_wp2_with fail
    refine (part_any _ _ (partL ms x true) y true W2 hp ht (by omega)).mono ?_
    rintro e W ⟨ar2, cr2, rfl, hown, hb2⟩
    clear hown hp
    replace hb := hb.trans (hb2.mono hb.size)
    clear hb2
    go_wp2_with fail
    refine (overlap_any _ _ _).mono ?_
    rintro e W ⟨rfl, rfl⟩
    go_wp2_with fail
    refine (faults_any _ _ _).mono ?_
    rintro e W ⟨rfl, rfl⟩
    go_wp2_with fail
    go_ret
    exact ⟨rfl, hb⟩

set_option maxHeartbeats 4000000 in
theorem quorumGrows_walk (m : Int) (v : Value) (ms : List Int) (u : Value) (x : List Int) (t : Value) (y : List Int) (w : World) (hv : Ints w v ms) (hu : Ints w u x) (ht : Ints w t y) :
    Calls Try.prog 10 #[.int .i64 m, v, u, t] w fun e w' => e = .returned (.bool true) ∧ Below w.heap.size w w' := by
  have hl0 := hv.len
  obtain ⟨a0, c0, rfl⟩ := hv.shape
  have hl1 := hu.len
  obtain ⟨a1, c1, rfl⟩ := hu.shape
  have hl2 := ht.len
  obtain ⟨a2, c2, rfl⟩ := ht.shape
  by_cases g0 : 100 < ms.length
  · go_enter Try.func10, Try.ntmps10
    go_wp2_with fail
    refine (awake_any w).mono ?_
    rintro e W ⟨rfl, hb⟩
    replace hv := hv.below hb
    replace hu := hu.below hb
    replace ht := ht.below hb
    go_wp2_with fail
    refine (long_any _ ms W hv).mono ?_
    rintro e W ⟨rfl, rfl⟩
    go_wp2_with fail
    go_ret
    exact ⟨rfl, hb⟩
  by_cases g1 : 100 < x.length
  · go_enter Try.func10, Try.ntmps10
    go_wp2_with fail
    refine (awake_any w).mono ?_
    rintro e W ⟨rfl, hb⟩
    replace hv := hv.below hb
    replace hu := hu.below hb
    replace ht := ht.below hb
    go_wp2_with fail
    refine (long_any _ ms W hv).mono ?_
    rintro e W ⟨rfl, rfl⟩
    go_wp2_with fail
    refine (long_any _ x W hu).mono ?_
    rintro e W ⟨rfl, rfl⟩
    go_wp2_with fail
    go_ret
    exact ⟨rfl, hb⟩
  by_cases g2 : 100 < y.length
  · go_enter Try.func10, Try.ntmps10
    go_wp2_with fail
    refine (awake_any w).mono ?_
    rintro e W ⟨rfl, hb⟩
    replace hv := hv.below hb
    replace hu := hu.below hb
    replace ht := ht.below hb
    go_wp2_with fail
    refine (long_any _ ms W hv).mono ?_
    rintro e W ⟨rfl, rfl⟩
    go_wp2_with fail
    refine (long_any _ x W hu).mono ?_
    rintro e W ⟨rfl, rfl⟩
    go_wp2_with fail
    refine (long_any _ y W ht).mono ?_
    rintro e W ⟨rfl, rfl⟩
    go_wp2_with fail
    go_ret
    exact ⟨rfl, hb⟩
  obtain ⟨i0, hi, hz0, hz1, hz2⟩ := info_parts Try.infoInt
  cases hx : isB m ms x
  · cases hk : blocksB m ms x
    · have HX := hid hx
      clear hx
      have HB := hid hk
      clear hk
      go_enter Try.func10, Try.ntmps10
      go_wp2_with fail
      refine (awake_any w).mono ?_
      rintro e W ⟨rfl, hb⟩
      replace hv := hv.below hb
      replace hu := hu.below hb
      replace ht := ht.below hb
      go_wp2_with fail
      refine (long_any _ ms W hv).mono ?_
      rintro e W ⟨rfl, rfl⟩
      go_wp2_with fail
      refine (long_any _ x W hu).mono ?_
      rintro e W ⟨rfl, rfl⟩
      go_wp2_with fail
      refine (long_any _ y W ht).mono ?_
      rintro e W ⟨rfl, rfl⟩
      obtain ⟨ay, cy, hey, hly, hny, hwy, h1y⟩ := ht.src
      cases hey
      obtain ⟨ax, cx, hex, hlx, hnx, hwx, h1x⟩ := hu.src
      cases hex
      go_wp2_with (first | (at_builtin; refine wpList_append_any rfl (.tmp 22) (.tmp 23) 25 rfl W.heap.size 3 i0 (.int .i64 0) 1 8 Try.underlying25 hi hz0 hz1 hz2 rfl (by decide) (.slice (some ⟨_, 0, none⟩) 0 0) 0 [] rfl ?o1 a2 y.length c2 (y.map (Value.int .i64)) rfl hly hny ?o2 h1y y.length (Nat.zero_add _) (y.map (Value.int .i64)) rfl ?o3 ?o4 ?o5 ?_))
      case o1 => exact owns_made #[] 0 (heap_alloc_new W _) (Nat.le_refl _) rfl (by decide)
      case o2 => exact fun ad had jq q hq => (World.cell?_alloc_lt _ _ _ (World.block_lt_of_cell? W _ (hwy ad had jq q hq))).trans (hwy ad had jq q hq)
      case o3 => unfold maxLen; omega
      case o4 => omega
      case o5 => simp
      intro a' cap' w1 hown1 hgrow1
      have hb1 : Below W.heap.size W w1 := ((Below.refl _ _).alloc (Nat.le_refl _) _).grown hgrow1 (by simp) (fun g hg => by simp [Value.ownBlock] at hg; omega)
      have hwx1 : ∀ ad, a1 = some ad → ∀ (j : Nat) (q : Value), (x.map (Value.int .i64))[j]? = some q → w1.cell? (ad.add j) = some q := fun ad had jq q hq => (hb1.cell (World.block_lt_of_cell? W _ (hwx ad had jq q hq))).trans (hwx ad had jq q hq)
      clear hgrow1 hwy hly hny h1y
      have hs1 := hb1.size
      go_wp2_with (first | (at_builtin; refine wpList_append_any rfl (.tmp 24) (.tmp 25) 25 rfl W.heap.size 3 i0 (.int .i64 0) 1 8 Try.underlying25 hi hz0 hz1 hz2 rfl (by decide) (.slice a' y.length cap') y.length (y.map (Value.int .i64)) rfl hown1 a1 x.length c1 (x.map (Value.int .i64)) rfl hlx hnx hwx1 h1x (y.length + x.length) rfl (y.map (Value.int .i64) ++ x.map (Value.int .i64)) rfl ?o1 ?o2 ?o3 ?_))
      case o1 => unfold maxLen; omega
      case o2 => omega
      case o3 => exact hs1
      intro a3 cap3 w2 hown2 hgrow2
      have hb2 : Below W.heap.size w1 w2 := (Below.refl _ _).grown hgrow2 hs1 (fun g hg => (hown1.lt g hg).1)
      have hb12 := hb1.trans hb2
      have hp : Ints w2 (.slice a3 (y.length + x.length) cap3) (y ++ x) := Ints.of_owns (E := 3) (base := W.heap.size) (by simpa using hown2)
      replace hv := hv.below hb12
      replace hu := hu.below hb12
      replace hb := hb.trans (hb12.mono hb.size)
      have hp2 : Ints w2 (.slice a3 (y.length + x.length) cap3) (y ++ x) := hp
      clear hgrow2 hown1 hown2 hb1 hb2 hb12 hwx hwx1 hlx hnx h1x hs1
      generalize w2 = W at hv hu hp hb ⊢ hp2
      clear hp2
      go_wp2_with fail
      refine (is_any m _ _ ms x W hv hu).mono ?_
      rintro e W ⟨rfl, rfl⟩
      rw [HX.out]
      go_wp2_with fail
      refine (blocks_any m _ _ ms x W hv hu).mono ?_
      rintro e W ⟨rfl, rfl⟩
      rw [HB.out]
      go_wp2_with fail
      go_ret
      exact ⟨rfl, hb⟩
    · have HG2 := hid (blocks_grows m ms y x hk)
      have HX := hid hx
      clear hx
      have HB := hid hk
      clear hk
      go_enter Try.func10, Try.ntmps10
      go_wp2_with fail
      refine (awake_any w).mono ?_
      rintro e W ⟨rfl, hb⟩
      replace hv := hv.below hb
      replace hu := hu.below hb
      replace ht := ht.below hb
      go_wp2_with fail
      refine (long_any _ ms W hv).mono ?_
      rintro e W ⟨rfl, rfl⟩
      go_wp2_with fail
      refine (long_any _ x W hu).mono ?_
      rintro e W ⟨rfl, rfl⟩
      go_wp2_with fail
      refine (long_any _ y W ht).mono ?_
      rintro e W ⟨rfl, rfl⟩
      obtain ⟨ay, cy, hey, hly, hny, hwy, h1y⟩ := ht.src
      cases hey
      obtain ⟨ax, cx, hex, hlx, hnx, hwx, h1x⟩ := hu.src
      cases hex
      go_wp2_with (first | (at_builtin; refine wpList_append_any rfl (.tmp 22) (.tmp 23) 25 rfl W.heap.size 3 i0 (.int .i64 0) 1 8 Try.underlying25 hi hz0 hz1 hz2 rfl (by decide) (.slice (some ⟨_, 0, none⟩) 0 0) 0 [] rfl ?o1 a2 y.length c2 (y.map (Value.int .i64)) rfl hly hny ?o2 h1y y.length (Nat.zero_add _) (y.map (Value.int .i64)) rfl ?o3 ?o4 ?o5 ?_))
      case o1 => exact owns_made #[] 0 (heap_alloc_new W _) (Nat.le_refl _) rfl (by decide)
      case o2 => exact fun ad had jq q hq => (World.cell?_alloc_lt _ _ _ (World.block_lt_of_cell? W _ (hwy ad had jq q hq))).trans (hwy ad had jq q hq)
      case o3 => unfold maxLen; omega
      case o4 => omega
      case o5 => simp
      intro a' cap' w1 hown1 hgrow1
      have hb1 : Below W.heap.size W w1 := ((Below.refl _ _).alloc (Nat.le_refl _) _).grown hgrow1 (by simp) (fun g hg => by simp [Value.ownBlock] at hg; omega)
      have hwx1 : ∀ ad, a1 = some ad → ∀ (j : Nat) (q : Value), (x.map (Value.int .i64))[j]? = some q → w1.cell? (ad.add j) = some q := fun ad had jq q hq => (hb1.cell (World.block_lt_of_cell? W _ (hwx ad had jq q hq))).trans (hwx ad had jq q hq)
      clear hgrow1 hwy hly hny h1y
      have hs1 := hb1.size
      go_wp2_with (first | (at_builtin; refine wpList_append_any rfl (.tmp 24) (.tmp 25) 25 rfl W.heap.size 3 i0 (.int .i64 0) 1 8 Try.underlying25 hi hz0 hz1 hz2 rfl (by decide) (.slice a' y.length cap') y.length (y.map (Value.int .i64)) rfl hown1 a1 x.length c1 (x.map (Value.int .i64)) rfl hlx hnx hwx1 h1x (y.length + x.length) rfl (y.map (Value.int .i64) ++ x.map (Value.int .i64)) rfl ?o1 ?o2 ?o3 ?_))
      case o1 => unfold maxLen; omega
      case o2 => omega
      case o3 => exact hs1
      intro a3 cap3 w2 hown2 hgrow2
      have hb2 : Below W.heap.size w1 w2 := (Below.refl _ _).grown hgrow2 hs1 (fun g hg => (hown1.lt g hg).1)
      have hb12 := hb1.trans hb2
      have hp : Ints w2 (.slice a3 (y.length + x.length) cap3) (y ++ x) := Ints.of_owns (E := 3) (base := W.heap.size) (by simpa using hown2)
      replace hv := hv.below hb12
      replace hu := hu.below hb12
      replace hb := hb.trans (hb12.mono hb.size)
      have hp2 : Ints w2 (.slice a3 (y.length + x.length) cap3) (y ++ x) := hp
      clear hgrow2 hown1 hown2 hb1 hb2 hb12 hwx hwx1 hlx hnx h1x hs1
      generalize w2 = W at hv hu hp hb ⊢ hp2
      clear hp2
      go_wp2_with fail
      refine (is_any m _ _ ms x W hv hu).mono ?_
      rintro e W ⟨rfl, rfl⟩
      rw [HX.out]
      go_wp2_with fail
      refine (blocks_any m _ _ ms x W hv hu).mono ?_
      rintro e W ⟨rfl, rfl⟩
      rw [HB.out]
      go_wp2_with fail
      refine (blocks_any m _ _ ms (y ++ x) W hv hp).mono ?_
      rintro e W ⟨rfl, rfl⟩
      rw [HG2.out]
      go_wp2_with fail
      go_ret
      exact ⟨rfl, hb⟩
  · cases hk : blocksB m ms x
    · have HG1 := hid (is_grows m ms y x hx)
      have HX := hid hx
      clear hx
      have HB := hid hk
      clear hk
      go_enter Try.func10, Try.ntmps10
      go_wp2_with fail
      refine (awake_any w).mono ?_
      rintro e W ⟨rfl, hb⟩
      replace hv := hv.below hb
      replace hu := hu.below hb
      replace ht := ht.below hb
      go_wp2_with fail
      refine (long_any _ ms W hv).mono ?_
      rintro e W ⟨rfl, rfl⟩
      go_wp2_with fail
      refine (long_any _ x W hu).mono ?_
      rintro e W ⟨rfl, rfl⟩
      go_wp2_with fail
      refine (long_any _ y W ht).mono ?_
      rintro e W ⟨rfl, rfl⟩
      obtain ⟨ay, cy, hey, hly, hny, hwy, h1y⟩ := ht.src
      cases hey
      obtain ⟨ax, cx, hex, hlx, hnx, hwx, h1x⟩ := hu.src
      cases hex
      go_wp2_with (first | (at_builtin; refine wpList_append_any rfl (.tmp 22) (.tmp 23) 25 rfl W.heap.size 3 i0 (.int .i64 0) 1 8 Try.underlying25 hi hz0 hz1 hz2 rfl (by decide) (.slice (some ⟨_, 0, none⟩) 0 0) 0 [] rfl ?o1 a2 y.length c2 (y.map (Value.int .i64)) rfl hly hny ?o2 h1y y.length (Nat.zero_add _) (y.map (Value.int .i64)) rfl ?o3 ?o4 ?o5 ?_))
      case o1 => exact owns_made #[] 0 (heap_alloc_new W _) (Nat.le_refl _) rfl (by decide)
      case o2 => exact fun ad had jq q hq => (World.cell?_alloc_lt _ _ _ (World.block_lt_of_cell? W _ (hwy ad had jq q hq))).trans (hwy ad had jq q hq)
      case o3 => unfold maxLen; omega
      case o4 => omega
      case o5 => simp
      intro a' cap' w1 hown1 hgrow1
      have hb1 : Below W.heap.size W w1 := ((Below.refl _ _).alloc (Nat.le_refl _) _).grown hgrow1 (by simp) (fun g hg => by simp [Value.ownBlock] at hg; omega)
      have hwx1 : ∀ ad, a1 = some ad → ∀ (j : Nat) (q : Value), (x.map (Value.int .i64))[j]? = some q → w1.cell? (ad.add j) = some q := fun ad had jq q hq => (hb1.cell (World.block_lt_of_cell? W _ (hwx ad had jq q hq))).trans (hwx ad had jq q hq)
      clear hgrow1 hwy hly hny h1y
      have hs1 := hb1.size
      go_wp2_with (first | (at_builtin; refine wpList_append_any rfl (.tmp 24) (.tmp 25) 25 rfl W.heap.size 3 i0 (.int .i64 0) 1 8 Try.underlying25 hi hz0 hz1 hz2 rfl (by decide) (.slice a' y.length cap') y.length (y.map (Value.int .i64)) rfl hown1 a1 x.length c1 (x.map (Value.int .i64)) rfl hlx hnx hwx1 h1x (y.length + x.length) rfl (y.map (Value.int .i64) ++ x.map (Value.int .i64)) rfl ?o1 ?o2 ?o3 ?_))
      case o1 => unfold maxLen; omega
      case o2 => omega
      case o3 => exact hs1
      intro a3 cap3 w2 hown2 hgrow2
      have hb2 : Below W.heap.size w1 w2 := (Below.refl _ _).grown hgrow2 hs1 (fun g hg => (hown1.lt g hg).1)
      have hb12 := hb1.trans hb2
      have hp : Ints w2 (.slice a3 (y.length + x.length) cap3) (y ++ x) := Ints.of_owns (E := 3) (base := W.heap.size) (by simpa using hown2)
      replace hv := hv.below hb12
      replace hu := hu.below hb12
      replace hb := hb.trans (hb12.mono hb.size)
      have hp2 : Ints w2 (.slice a3 (y.length + x.length) cap3) (y ++ x) := hp
      clear hgrow2 hown1 hown2 hb1 hb2 hb12 hwx hwx1 hlx hnx h1x hs1
      generalize w2 = W at hv hu hp hb ⊢ hp2
      clear hp2
      go_wp2_with fail
      refine (is_any m _ _ ms x W hv hu).mono ?_
      rintro e W ⟨rfl, rfl⟩
      rw [HX.out]
      go_wp2_with fail
      refine (is_any m _ _ ms (y ++ x) W hv hp).mono ?_
      rintro e W ⟨rfl, rfl⟩
      rw [HG1.out]
      go_wp2_with fail
      refine (blocks_any m _ _ ms x W hv hu).mono ?_
      rintro e W ⟨rfl, rfl⟩
      rw [HB.out]
      go_wp2_with fail
      go_ret
      exact ⟨rfl, hb⟩
    · have HG1 := hid (is_grows m ms y x hx)
      have HG2 := hid (blocks_grows m ms y x hk)
      have HX := hid hx
      clear hx
      have HB := hid hk
      clear hk
      go_enter Try.func10, Try.ntmps10
      go_wp2_with fail
      refine (awake_any w).mono ?_
      rintro e W ⟨rfl, hb⟩
      replace hv := hv.below hb
      replace hu := hu.below hb
      replace ht := ht.below hb
      go_wp2_with fail
      refine (long_any _ ms W hv).mono ?_
      rintro e W ⟨rfl, rfl⟩
      go_wp2_with fail
      refine (long_any _ x W hu).mono ?_
      rintro e W ⟨rfl, rfl⟩
      go_wp2_with fail
      refine (long_any _ y W ht).mono ?_
      rintro e W ⟨rfl, rfl⟩
      obtain ⟨ay, cy, hey, hly, hny, hwy, h1y⟩ := ht.src
      cases hey
      obtain ⟨ax, cx, hex, hlx, hnx, hwx, h1x⟩ := hu.src
      cases hex
      go_wp2_with (first | (at_builtin; refine wpList_append_any rfl (.tmp 22) (.tmp 23) 25 rfl W.heap.size 3 i0 (.int .i64 0) 1 8 Try.underlying25 hi hz0 hz1 hz2 rfl (by decide) (.slice (some ⟨_, 0, none⟩) 0 0) 0 [] rfl ?o1 a2 y.length c2 (y.map (Value.int .i64)) rfl hly hny ?o2 h1y y.length (Nat.zero_add _) (y.map (Value.int .i64)) rfl ?o3 ?o4 ?o5 ?_))
      case o1 => exact owns_made #[] 0 (heap_alloc_new W _) (Nat.le_refl _) rfl (by decide)
      case o2 => exact fun ad had jq q hq => (World.cell?_alloc_lt _ _ _ (World.block_lt_of_cell? W _ (hwy ad had jq q hq))).trans (hwy ad had jq q hq)
      case o3 => unfold maxLen; omega
      case o4 => omega
      case o5 => simp
      intro a' cap' w1 hown1 hgrow1
      have hb1 : Below W.heap.size W w1 := ((Below.refl _ _).alloc (Nat.le_refl _) _).grown hgrow1 (by simp) (fun g hg => by simp [Value.ownBlock] at hg; omega)
      have hwx1 : ∀ ad, a1 = some ad → ∀ (j : Nat) (q : Value), (x.map (Value.int .i64))[j]? = some q → w1.cell? (ad.add j) = some q := fun ad had jq q hq => (hb1.cell (World.block_lt_of_cell? W _ (hwx ad had jq q hq))).trans (hwx ad had jq q hq)
      clear hgrow1 hwy hly hny h1y
      have hs1 := hb1.size
      go_wp2_with (first | (at_builtin; refine wpList_append_any rfl (.tmp 24) (.tmp 25) 25 rfl W.heap.size 3 i0 (.int .i64 0) 1 8 Try.underlying25 hi hz0 hz1 hz2 rfl (by decide) (.slice a' y.length cap') y.length (y.map (Value.int .i64)) rfl hown1 a1 x.length c1 (x.map (Value.int .i64)) rfl hlx hnx hwx1 h1x (y.length + x.length) rfl (y.map (Value.int .i64) ++ x.map (Value.int .i64)) rfl ?o1 ?o2 ?o3 ?_))
      case o1 => unfold maxLen; omega
      case o2 => omega
      case o3 => exact hs1
      intro a3 cap3 w2 hown2 hgrow2
      have hb2 : Below W.heap.size w1 w2 := (Below.refl _ _).grown hgrow2 hs1 (fun g hg => (hown1.lt g hg).1)
      have hb12 := hb1.trans hb2
      have hp : Ints w2 (.slice a3 (y.length + x.length) cap3) (y ++ x) := Ints.of_owns (E := 3) (base := W.heap.size) (by simpa using hown2)
      replace hv := hv.below hb12
      replace hu := hu.below hb12
      replace hb := hb.trans (hb12.mono hb.size)
      have hp2 : Ints w2 (.slice a3 (y.length + x.length) cap3) (y ++ x) := hp
      clear hgrow2 hown1 hown2 hb1 hb2 hb12 hwx hwx1 hlx hnx h1x hs1
      generalize w2 = W at hv hu hp hb ⊢ hp2
      clear hp2
      go_wp2_with fail
      refine (is_any m _ _ ms x W hv hu).mono ?_
      rintro e W ⟨rfl, rfl⟩
      rw [HX.out]
      go_wp2_with fail
      refine (is_any m _ _ ms (y ++ x) W hv hp).mono ?_
      rintro e W ⟨rfl, rfl⟩
      rw [HG1.out]
      go_wp2_with fail
      refine (blocks_any m _ _ ms x W hv hu).mono ?_
      rintro e W ⟨rfl, rfl⟩
      rw [HB.out]
      go_wp2_with fail
      refine (blocks_any m _ _ ms (y ++ x) W hv hp).mono ?_
      rintro e W ⟨rfl, rfl⟩
      rw [HG2.out]
      go_wp2_with fail
      go_ret
      exact ⟨rfl, hb⟩

end Go.Proofs.Ytaifmlbhglfbeaa
