/-
  The walks of the laws QuorumMinimal and QuorumBlocks.
-/
import Derived.Test.YtaifmlbhglfbeaaWalkN
namespace Go.Proofs.Ytaifmlbhglfbeaa
open Go.RowKit

set_option maxHeartbeats 2000000 in
theorem quorumMinimal_walk (m : Int) (v : Value) (ms : List Int) (w : World) (hv : Ints w v ms) :
    Calls Try.prog 5 #[.int .i64 m, v] w fun e w' => e = .returned (.bool true) ∧ Below w.heap.size w w' := by
  have hl := hv.len
  obtain ⟨a, c, rfl⟩ := hv.shape
  have Hv := hid hv
  clear hv
  by_cases h6 : 6 < ms.length
  · go_enter Try.func5, Try.ntmps5
    go_wp2_with fail
    refine (awake_any w).mono ?_
    rintro e W ⟨rfl, hb⟩
    go_wp2_with fail
    go_ret
    exact ⟨rfl, hb⟩
  · go_enter Try.func5, Try.ntmps5
    go_wp2_with fail
    refine (awake_any w).mono ?_
    rintro e W ⟨rfl, hb⟩
    have H1 := hid (Hv.out.below hb)
    go_wp2_with fail
    refine (minimal_any m _ ms W H1.out).mono ?_
    rintro e W1 ⟨ao, co, us, rfl, hO, hb1⟩
    have L1 := hid hO.oll.llt
    have H2 := hid (H1.out.below hb1)
    replace hb := hb.trans (hb1.mono hb.size)
    clear hO hb1 H1
    go_wp2_with fail
    refine (rminimal_any m _ ms W1 H2.out (by omega)).mono ?_
    rintro e W2 ⟨ao2, co2, us2, rfl, hO, hb1⟩
    rw [rmin_eq] at hO
    have L2 := hid hO.llt
    have L1' := hid (L1.out.below hb1)
    have H3 := hid (H2.out.below hb1)
    replace hb := hb.trans (hb1.mono hb.size)
    clear hO hb1 H2 L1
    go_wp2_with fail
    refine (sameAll_eq _ _ us us2 _ W2 L1'.out L2.out).mono ?_
    rintro e W3 ⟨rfl, n, rfl⟩
    have H4 : Hid (Ints (W2.drewN n) (.slice a ms.length c) ms) := hid (H3.out.drewN n)
    replace hb := below_drewN' hb n
    generalize W2.drewN n = W4 at hb H4 ⊢
    clear H3 L1' L2
    go_wp2_with fail
    refine (blocking_any m _ ms W4 H4.out).mono ?_
    rintro e W1 ⟨ao, co, us, rfl, hO, hb1⟩
    have L1 := hid hO.oll.llt
    have H2 := hid (H4.out.below hb1)
    replace hb := hb.trans (hb1.mono hb.size)
    clear hO hb1 H4
    go_wp2_with fail
    refine (rblocking_any m _ ms W1 H2.out (by omega)).mono ?_
    rintro e W2 ⟨ao2, co2, us2, rfl, hO, hb1⟩
    rw [rblk_eq] at hO
    have L2 := hid hO.llt
    have L1' := hid (L1.out.below hb1)
    replace hb := hb.trans (hb1.mono hb.size)
    clear hO hb1 H2 L1
    go_wp2_with fail
    refine (sameAll_eq _ _ us us2 _ W2 L1'.out L2.out).mono ?_
    rintro e W3 ⟨rfl, n, rfl⟩
    replace hb := below_drewN' hb n
    go_wp2_with fail
    go_ret
    exact ⟨rfl, hb⟩

set_option maxHeartbeats 2000000 in
theorem quorumBlocks_walk (m : Int) (v : Value) (ms : List Int) (u : Value) (x : List Int) (w : World) (hv : Ints w v ms) (hu : Ints w u x) :
    Calls Try.prog 6 #[.int .i64 m, v, u] w fun e w' => e = .returned (.bool true) ∧ Below w.heap.size w w' := by
  have hl := hv.len
  have hl2 := hu.len
  obtain ⟨a, c, rfl⟩ := hv.shape
  have Hv := hid hv
  have Hu := hid hu
  clear hv hu
  by_cases h8 : 8 < ms.length
  · go_enter Try.func6, Try.ntmps6
    go_wp2_with fail
    refine (awake_any w).mono ?_
    rintro e W ⟨rfl, hb⟩
    go_wp2_with fail
    go_ret
    exact ⟨rfl, hb⟩
  have h8' : (ms.length : Int) ≤ 8 := by omega
  by_cases h100 : 100 < x.length
  · go_enter Try.func6, Try.ntmps6
    go_wp2_with fail
    refine (awake_any w).mono ?_
    rintro e W ⟨rfl, hb⟩
    have H2 := hid (Hu.out.below hb)
    go_wp2_with fail
    refine (long_any _ x W H2.out).mono ?_
    rintro e W ⟨rfl, rfl⟩
    go_wp2_with fail
    go_ret
    exact ⟨rfl, hb⟩
  · have HQ := hid (rblocks_eq m ms x)
    go_enter Try.func6, Try.ntmps6
    go_wp2_with fail
    refine (awake_any w).mono ?_
    rintro e W ⟨rfl, hb⟩
    have H1 := hid (Hv.out.below hb)
    have H2 := hid (Hu.out.below hb)
    go_wp2_with fail
    refine (long_any _ x W H2.out).mono ?_
    rintro e W ⟨rfl, rfl⟩
    go_wp2_with fail
    refine (blocks_any m _ _ ms x W H1.out H2.out).mono ?_
    rintro e W ⟨rfl, rfl⟩
    go_wp2_with fail
    refine (rblocks_any m _ _ ms x W H1.out H2.out (by omega)).mono ?_
    rintro e W2 ⟨rfl, hb2⟩
    rw [HQ.out]
    replace hb := hb.trans (hb2.mono hb.size)
    go_wp2_with fail
    go_ret
    exact ⟨rfl, hb⟩
end Go.Proofs.Ytaifmlbhglfbeaa
