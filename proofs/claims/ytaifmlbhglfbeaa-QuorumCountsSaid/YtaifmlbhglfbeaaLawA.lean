/-
  The walks of the laws QuorumCounts, QuorumContains, QuorumIntersects, QuorumTolerates, QuorumDual, QuorumGrows.
-/
import Derived.Test.YtaifmlbhglfbeaaWalkI
namespace Go.Proofs.Ytaifmlbhglfbeaa
open Go.RowKit

set_option maxHeartbeats 1000000 in
theorem quorumCounts_walk (m n : Int) (w : World) : Calls Try.prog 3 #[.int .i64 m, .int .i64 n] w fun e w' => e = .returned (.bool true) ∧ Below w.heap.size w w' := by
  go_enter Try.func3, Try.ntmps3
  go_wp2_with fail
  refine (awake_any w).mono ?_
  rintro e W ⟨rfl, hb⟩
  go_wp2_with fail
  refine (faults_any _ _ _).mono ?_
  rintro e W ⟨rfl, rfl⟩
  go_wp2_with fail
  refine (rfaults_any _ _ _).mono ?_
  rintro e W ⟨rfl, rfl⟩
  go_wp2_with fail
  refine (need_any _ _ _).mono ?_
  rintro e W ⟨rfl, rfl⟩
  go_wp2_with fail
  refine (rneed_any _ _ _).mono ?_
  rintro e W ⟨rfl, rfl⟩
  go_wp2_with fail
  refine (overlap_any _ _ _).mono ?_
  rintro e W ⟨rfl, rfl⟩
  go_wp2_with fail
  refine (roverlap_any _ _ _).mono ?_
  rintro e W ⟨rfl, rfl⟩
  go_wp2_with fail
  go_ret
  exact ⟨rfl, hb⟩
end Go.Proofs.Ytaifmlbhglfbeaa
