/-
  No cell of these rows narrows 'for every input' (looked for: loops, veiled, ifaces, maps, wideKeys, modest, calm, conditions, laid).
  DERIVED. THE GIVEN ROWS OF THIS SEAT. 9 by the template 'for every input the law returns true; each argument reads behind the call as it read before'; 0 by the template 'total and deterministic' (their statements: YtaifmlbhglfbeaaTotals.lean).
  GIVEN WITH THE SEED: the statements are not yours to turn. If you find one false, say at which input.
  Laid BY PROGRAM, IN A SANDBOX (cutbox-rows.mjs): the forced cells as the released guide's own fill.sh prints them over the translation 584bdcf1aa1042b6… (all of the seat's roots in one cut). By AI agents, Wed Nov 11 2026. No macro, syntax, notation, axiom, sorry.
-/
import Derived.Test.YtaifmlbhglfbeaaChecked
import GoSem.Claim
import GoSem.ClaimJoined
import GoSem.ClaimMapViews
import Derived.JoinedTies
import Derived.KernelRfl
namespace Go.Proofs.Ytaifmlbhglfbeaa
/- THE CELL 'sum', in the pinned program and in every row, IS THE sha256 OF THE DUMP (.gsa) THAT YtaifmlbhglfbeaaProg.lean LOADS. Nothing in Lean hashes anything: it is a label: what it is worth is what the hold of that sum in a sandbox is worth. -/
noncomputable def Try.pinned : Pinned := { name := "ytaifmlbhglfbeaa", sum := "584bdcf1aa1042b69a18106f287da0836c592a96a694595c80f5770b19841547", checked := Try.checked }
namespace Rows
def none {H : Type} : Left H := { results := [], args := [] }

/-- 'plexuslaw31.QuorumCounts': WHATEVER THE INPUT: true; the input reads as it did. -/
def quorumCountsSpec : ChangeSpec := { name := "quorumCounts", fn := fun _ => fun
  | [d1, d2] => { results := [.lit (.bool true)], args := [d1, d2] }
  | _ => none }
def quorumCountsRow : OpenClaim := { program := "ytaifmlbhglfbeaa", sum := "584bdcf1aa1042b69a18106f287da0836c592a96a694595c80f5770b19841547", func := "plexus/plexuslaw31.QuorumCounts", spec := "quorumCounts", unfollowed := true, recurses := true, apart := false }
def QuorumCountsSaid : Prop := quorumCountsRow.holds Try.pinned (OpenSpec.ofChange quorumCountsSpec)

/-- ITS FALSE NEIGHBOUR: 'it returns false'. Refute it at one input. -/
def quorumCountsWrong : ChangeSpec := { name := "quorumCounts", fn := fun _ => fun
  | [d1, d2] => { results := [.lit (.bool false)], args := [d1, d2] }
  | _ => none }
def QuorumCountsWrongFalsely : Prop := quorumCountsRow.holds Try.pinned (OpenSpec.ofChange quorumCountsWrong)

/-- 'plexuslaw31.QuorumContains': WHATEVER THE INPUT: true; the input reads as it did. -/
def quorumContainsSpec : ChangeSpec := { name := "quorumContains", fn := fun _ => fun
  | [d1, d2, d3] => { results := [.lit (.bool true)], args := [d1, d2, d3] }
  | _ => none }
def quorumContainsRow : OpenClaim := { program := "ytaifmlbhglfbeaa", sum := "584bdcf1aa1042b69a18106f287da0836c592a96a694595c80f5770b19841547", func := "plexus/plexuslaw31.QuorumContains", spec := "quorumContains", unfollowed := true, recurses := true, apart := false }
def QuorumContainsSaid : Prop := quorumContainsRow.holds Try.pinned (OpenSpec.ofChange quorumContainsSpec)

/-- ITS FALSE NEIGHBOUR: 'it returns false'. Refute it at one input. -/
def quorumContainsWrong : ChangeSpec := { name := "quorumContains", fn := fun _ => fun
  | [d1, d2, d3] => { results := [.lit (.bool false)], args := [d1, d2, d3] }
  | _ => none }
def QuorumContainsWrongFalsely : Prop := quorumContainsRow.holds Try.pinned (OpenSpec.ofChange quorumContainsWrong)

/-- 'plexuslaw31.QuorumMinimal': WHATEVER THE INPUT: true; the input reads as it did. -/
def quorumMinimalSpec : ChangeSpec := { name := "quorumMinimal", fn := fun _ => fun
  | [d1, d2] => { results := [.lit (.bool true)], args := [d1, d2] }
  | _ => none }
def quorumMinimalRow : OpenClaim := { program := "ytaifmlbhglfbeaa", sum := "584bdcf1aa1042b69a18106f287da0836c592a96a694595c80f5770b19841547", func := "plexus/plexuslaw31.QuorumMinimal", spec := "quorumMinimal", unfollowed := true, recurses := true, apart := false }
def QuorumMinimalSaid : Prop := quorumMinimalRow.holds Try.pinned (OpenSpec.ofChange quorumMinimalSpec)

/-- ITS FALSE NEIGHBOUR: 'it returns false'. Refute it at one input. -/
def quorumMinimalWrong : ChangeSpec := { name := "quorumMinimal", fn := fun _ => fun
  | [d1, d2] => { results := [.lit (.bool false)], args := [d1, d2] }
  | _ => none }
def QuorumMinimalWrongFalsely : Prop := quorumMinimalRow.holds Try.pinned (OpenSpec.ofChange quorumMinimalWrong)

/-- 'plexuslaw31.QuorumBlocks': WHATEVER THE INPUT: true; the input reads as it did. -/
def quorumBlocksSpec : ChangeSpec := { name := "quorumBlocks", fn := fun _ => fun
  | [d1, d2, d3] => { results := [.lit (.bool true)], args := [d1, d2, d3] }
  | _ => none }
def quorumBlocksRow : OpenClaim := { program := "ytaifmlbhglfbeaa", sum := "584bdcf1aa1042b69a18106f287da0836c592a96a694595c80f5770b19841547", func := "plexus/plexuslaw31.QuorumBlocks", spec := "quorumBlocks", unfollowed := true, recurses := true, apart := false }
def QuorumBlocksSaid : Prop := quorumBlocksRow.holds Try.pinned (OpenSpec.ofChange quorumBlocksSpec)

/-- ITS FALSE NEIGHBOUR: 'it returns false'. Refute it at one input. -/
def quorumBlocksWrong : ChangeSpec := { name := "quorumBlocks", fn := fun _ => fun
  | [d1, d2, d3] => { results := [.lit (.bool false)], args := [d1, d2, d3] }
  | _ => none }
def QuorumBlocksWrongFalsely : Prop := quorumBlocksRow.holds Try.pinned (OpenSpec.ofChange quorumBlocksWrong)

/-- 'plexuslaw31.QuorumIntersects': WHATEVER THE INPUT: true; the input reads as it did. -/
def quorumIntersectsSpec : ChangeSpec := { name := "quorumIntersects", fn := fun _ => fun
  | [d1, d2, d3, d4] => { results := [.lit (.bool true)], args := [d1, d2, d3, d4] }
  | _ => none }
def quorumIntersectsRow : OpenClaim := { program := "ytaifmlbhglfbeaa", sum := "584bdcf1aa1042b69a18106f287da0836c592a96a694595c80f5770b19841547", func := "plexus/plexuslaw31.QuorumIntersects", spec := "quorumIntersects", unfollowed := true, recurses := true, apart := false }
def QuorumIntersectsSaid : Prop := quorumIntersectsRow.holds Try.pinned (OpenSpec.ofChange quorumIntersectsSpec)

/-- ITS FALSE NEIGHBOUR: 'it returns false'. Refute it at one input. -/
def quorumIntersectsWrong : ChangeSpec := { name := "quorumIntersects", fn := fun _ => fun
  | [d1, d2, d3, d4] => { results := [.lit (.bool false)], args := [d1, d2, d3, d4] }
  | _ => none }
def QuorumIntersectsWrongFalsely : Prop := quorumIntersectsRow.holds Try.pinned (OpenSpec.ofChange quorumIntersectsWrong)

/-- 'plexuslaw31.QuorumTolerates': WHATEVER THE INPUT: true; the input reads as it did. -/
def quorumToleratesSpec : ChangeSpec := { name := "quorumTolerates", fn := fun _ => fun
  | [d1, d2, d3] => { results := [.lit (.bool true)], args := [d1, d2, d3] }
  | _ => none }
def quorumToleratesRow : OpenClaim := { program := "ytaifmlbhglfbeaa", sum := "584bdcf1aa1042b69a18106f287da0836c592a96a694595c80f5770b19841547", func := "plexus/plexuslaw31.QuorumTolerates", spec := "quorumTolerates", unfollowed := true, recurses := true, apart := false }
def QuorumToleratesSaid : Prop := quorumToleratesRow.holds Try.pinned (OpenSpec.ofChange quorumToleratesSpec)

/-- ITS FALSE NEIGHBOUR: 'it returns false'. Refute it at one input. -/
def quorumToleratesWrong : ChangeSpec := { name := "quorumTolerates", fn := fun _ => fun
  | [d1, d2, d3] => { results := [.lit (.bool false)], args := [d1, d2, d3] }
  | _ => none }
def QuorumToleratesWrongFalsely : Prop := quorumToleratesRow.holds Try.pinned (OpenSpec.ofChange quorumToleratesWrong)

/-- 'plexuslaw31.QuorumDual': WHATEVER THE INPUT: true; the input reads as it did. -/
def quorumDualSpec : ChangeSpec := { name := "quorumDual", fn := fun _ => fun
  | [d1, d2, d3] => { results := [.lit (.bool true)], args := [d1, d2, d3] }
  | _ => none }
def quorumDualRow : OpenClaim := { program := "ytaifmlbhglfbeaa", sum := "584bdcf1aa1042b69a18106f287da0836c592a96a694595c80f5770b19841547", func := "plexus/plexuslaw31.QuorumDual", spec := "quorumDual", unfollowed := true, recurses := true, apart := false }
def QuorumDualSaid : Prop := quorumDualRow.holds Try.pinned (OpenSpec.ofChange quorumDualSpec)

/-- ITS FALSE NEIGHBOUR: 'it returns false'. Refute it at one input. -/
def quorumDualWrong : ChangeSpec := { name := "quorumDual", fn := fun _ => fun
  | [d1, d2, d3] => { results := [.lit (.bool false)], args := [d1, d2, d3] }
  | _ => none }
def QuorumDualWrongFalsely : Prop := quorumDualRow.holds Try.pinned (OpenSpec.ofChange quorumDualWrong)

/-- 'plexuslaw31.QuorumGrows': WHATEVER THE INPUT: true; the input reads as it did. -/
def quorumGrowsSpec : ChangeSpec := { name := "quorumGrows", fn := fun _ => fun
  | [d1, d2, d3, d4] => { results := [.lit (.bool true)], args := [d1, d2, d3, d4] }
  | _ => none }
def quorumGrowsRow : OpenClaim := { program := "ytaifmlbhglfbeaa", sum := "584bdcf1aa1042b69a18106f287da0836c592a96a694595c80f5770b19841547", func := "plexus/plexuslaw31.QuorumGrows", spec := "quorumGrows", unfollowed := true, recurses := true, apart := false }
def QuorumGrowsSaid : Prop := quorumGrowsRow.holds Try.pinned (OpenSpec.ofChange quorumGrowsSpec)

/-- ITS FALSE NEIGHBOUR: 'it returns false'. Refute it at one input. -/
def quorumGrowsWrong : ChangeSpec := { name := "quorumGrows", fn := fun _ => fun
  | [d1, d2, d3, d4] => { results := [.lit (.bool false)], args := [d1, d2, d3, d4] }
  | _ => none }
def QuorumGrowsWrongFalsely : Prop := quorumGrowsRow.holds Try.pinned (OpenSpec.ofChange quorumGrowsWrong)

/-- 'plexuslaw31.QuorumLeast': WHATEVER THE INPUT: true; the input reads as it did. -/
def quorumLeastSpec : ChangeSpec := { name := "quorumLeast", fn := fun _ => fun
  | [d1, d2] => { results := [.lit (.bool true)], args := [d1, d2] }
  | _ => none }
def quorumLeastRow : OpenClaim := { program := "ytaifmlbhglfbeaa", sum := "584bdcf1aa1042b69a18106f287da0836c592a96a694595c80f5770b19841547", func := "plexus/plexuslaw31.QuorumLeast", spec := "quorumLeast", unfollowed := true, recurses := true, apart := false }
def QuorumLeastSaid : Prop := quorumLeastRow.holds Try.pinned (OpenSpec.ofChange quorumLeastSpec)

/-- ITS FALSE NEIGHBOUR: 'it returns false'. Refute it at one input. -/
def quorumLeastWrong : ChangeSpec := { name := "quorumLeast", fn := fun _ => fun
  | [d1, d2] => { results := [.lit (.bool false)], args := [d1, d2] }
  | _ => none }
def QuorumLeastWrongFalsely : Prop := quorumLeastRow.holds Try.pinned (OpenSpec.ofChange quorumLeastWrong)

/- THE SECOND FORM. 'bulk': how many values and letters a reading holds, each counted each time it is reached (what is shared counts as often as it is met; a slice's spare places count too). A statement '..UptoSaid' is the law's where the arguments, and the package variables that the reading takes, are together of bulk at most 1048576: NARROWER than '..Said'. Prove '..Said' where nothing that the law and all that it calls make is longer than what came in: it says more and counts as full. Else prove '..UptoSaid'. A law counts once. -/
mutual
def uptoBulk {H : Type} : DataW H → Nat
  | .lit (.string bytes) => bytes.length + 1
  | .lit _ => 1
  | .nil => 1
  | .ptr d => uptoBulk d + 1
  | .slice elems spare => uptoBulkAll elems + uptoBulkAll spare + 1
  | .agg parts => uptoBulkAll parts + 1
  | .iface _ d => uptoBulk d + 1
  | .map entries => uptoBulkEntries entries + 1
  | .held _ => 1
def uptoBulkAll {H : Type} : List (DataW H) → Nat
  | [] => 0
  | d :: r => uptoBulk d + uptoBulkAll r
def uptoBulkEntries {H : Type} : List (Lit × DataW H) → Nat
  | [] => 0
  | x :: r => uptoBulkEntry x + uptoBulkEntries r
def uptoBulkEntry {H : Type} : Lit × DataW H → Nat
  | (.string bytes, d) => bytes.length + uptoBulk d + 1
  | (_, d) => uptoBulk d + 1
 end
def uptoSmall : (H : Type) → List (DataW H) → Bool := fun _ ds => decide (uptoBulkAll ds ≤ 1048576)
def OpenSpec.upto (s : _root_.Go.ChangeSpec) : _root_.Go.OpenSpec := { _root_.Go.OpenSpec.ofChange s with cond := some uptoSmall }

/-- 'plexuslaw31.QuorumCounts', WHERE WHAT IT READS IS OF BULK AT MOST 1048576: true; the input reads as it did. -/
def quorumCountsUptoRow : OpenClaim := { program := "ytaifmlbhglfbeaa", sum := "584bdcf1aa1042b69a18106f287da0836c592a96a694595c80f5770b19841547", func := "plexus/plexuslaw31.QuorumCounts", spec := "quorumCounts", unfollowed := true, recurses := true, apart := false, narrowed := true }
def QuorumCountsUptoSaid : Prop := quorumCountsUptoRow.holds Try.pinned (OpenSpec.upto quorumCountsSpec)

/-- 'plexuslaw31.QuorumContains', WHERE WHAT IT READS IS OF BULK AT MOST 1048576: true; the input reads as it did. -/
def quorumContainsUptoRow : OpenClaim := { program := "ytaifmlbhglfbeaa", sum := "584bdcf1aa1042b69a18106f287da0836c592a96a694595c80f5770b19841547", func := "plexus/plexuslaw31.QuorumContains", spec := "quorumContains", unfollowed := true, recurses := true, apart := false, narrowed := true }
def QuorumContainsUptoSaid : Prop := quorumContainsUptoRow.holds Try.pinned (OpenSpec.upto quorumContainsSpec)

/-- 'plexuslaw31.QuorumMinimal', WHERE WHAT IT READS IS OF BULK AT MOST 1048576: true; the input reads as it did. -/
def quorumMinimalUptoRow : OpenClaim := { program := "ytaifmlbhglfbeaa", sum := "584bdcf1aa1042b69a18106f287da0836c592a96a694595c80f5770b19841547", func := "plexus/plexuslaw31.QuorumMinimal", spec := "quorumMinimal", unfollowed := true, recurses := true, apart := false, narrowed := true }
def QuorumMinimalUptoSaid : Prop := quorumMinimalUptoRow.holds Try.pinned (OpenSpec.upto quorumMinimalSpec)

/-- 'plexuslaw31.QuorumBlocks', WHERE WHAT IT READS IS OF BULK AT MOST 1048576: true; the input reads as it did. -/
def quorumBlocksUptoRow : OpenClaim := { program := "ytaifmlbhglfbeaa", sum := "584bdcf1aa1042b69a18106f287da0836c592a96a694595c80f5770b19841547", func := "plexus/plexuslaw31.QuorumBlocks", spec := "quorumBlocks", unfollowed := true, recurses := true, apart := false, narrowed := true }
def QuorumBlocksUptoSaid : Prop := quorumBlocksUptoRow.holds Try.pinned (OpenSpec.upto quorumBlocksSpec)

/-- 'plexuslaw31.QuorumIntersects', WHERE WHAT IT READS IS OF BULK AT MOST 1048576: true; the input reads as it did. -/
def quorumIntersectsUptoRow : OpenClaim := { program := "ytaifmlbhglfbeaa", sum := "584bdcf1aa1042b69a18106f287da0836c592a96a694595c80f5770b19841547", func := "plexus/plexuslaw31.QuorumIntersects", spec := "quorumIntersects", unfollowed := true, recurses := true, apart := false, narrowed := true }
def QuorumIntersectsUptoSaid : Prop := quorumIntersectsUptoRow.holds Try.pinned (OpenSpec.upto quorumIntersectsSpec)

/-- 'plexuslaw31.QuorumTolerates', WHERE WHAT IT READS IS OF BULK AT MOST 1048576: true; the input reads as it did. -/
def quorumToleratesUptoRow : OpenClaim := { program := "ytaifmlbhglfbeaa", sum := "584bdcf1aa1042b69a18106f287da0836c592a96a694595c80f5770b19841547", func := "plexus/plexuslaw31.QuorumTolerates", spec := "quorumTolerates", unfollowed := true, recurses := true, apart := false, narrowed := true }
def QuorumToleratesUptoSaid : Prop := quorumToleratesUptoRow.holds Try.pinned (OpenSpec.upto quorumToleratesSpec)

/-- 'plexuslaw31.QuorumDual', WHERE WHAT IT READS IS OF BULK AT MOST 1048576: true; the input reads as it did. -/
def quorumDualUptoRow : OpenClaim := { program := "ytaifmlbhglfbeaa", sum := "584bdcf1aa1042b69a18106f287da0836c592a96a694595c80f5770b19841547", func := "plexus/plexuslaw31.QuorumDual", spec := "quorumDual", unfollowed := true, recurses := true, apart := false, narrowed := true }
def QuorumDualUptoSaid : Prop := quorumDualUptoRow.holds Try.pinned (OpenSpec.upto quorumDualSpec)

/-- 'plexuslaw31.QuorumGrows', WHERE WHAT IT READS IS OF BULK AT MOST 1048576: true; the input reads as it did. -/
def quorumGrowsUptoRow : OpenClaim := { program := "ytaifmlbhglfbeaa", sum := "584bdcf1aa1042b69a18106f287da0836c592a96a694595c80f5770b19841547", func := "plexus/plexuslaw31.QuorumGrows", spec := "quorumGrows", unfollowed := true, recurses := true, apart := false, narrowed := true }
def QuorumGrowsUptoSaid : Prop := quorumGrowsUptoRow.holds Try.pinned (OpenSpec.upto quorumGrowsSpec)

/-- 'plexuslaw31.QuorumLeast', WHERE WHAT IT READS IS OF BULK AT MOST 1048576: true; the input reads as it did. -/
def quorumLeastUptoRow : OpenClaim := { program := "ytaifmlbhglfbeaa", sum := "584bdcf1aa1042b69a18106f287da0836c592a96a694595c80f5770b19841547", func := "plexus/plexuslaw31.QuorumLeast", spec := "quorumLeast", unfollowed := true, recurses := true, apart := false, narrowed := true }
def QuorumLeastUptoSaid : Prop := quorumLeastUptoRow.holds Try.pinned (OpenSpec.upto quorumLeastSpec)

end Rows
end Go.Proofs.Ytaifmlbhglfbeaa
