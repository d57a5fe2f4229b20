/-
  NARROWER THAN 'FOR EVERY INPUT', by the rows' own cells (each row's printed sentence says how): StateIs: loops · StateValue: loops.
  DERIVED. THE GIVEN ROWS OF THIS SEAT. 7 by the template 'for every input the law returns true; each argument reads behind the call as it read before'; 0 by the template 'total and deterministic' (their statements: YtidpdgdakghfnaaGreatTotals.lean).
  GIVEN WITH THE SEED: the statements are not yours to turn. If you find one false, say at which input.
  Laid BY PROGRAM, IN A SANDBOX (cutbox-rows.mjs): the forced cells as the released guide's own fill.sh prints them over the translation 88ffbe423fa42c5e… (all of the seat's roots in one cut). By AI agents, Wed Nov 11 2026. No macro, syntax, notation, axiom, sorry.
-/
import Derived.Test.YtidpdgdakghfnaaGreatChecked
import GoSem.Claim
import GoSem.ClaimJoined
import GoSem.ClaimMapViews
import Derived.JoinedTies
import Derived.KernelRfl
namespace Go.Proofs.YtidpdgdakghfnaaGreat
/- THE CELL 'sum', in the pinned program and in every row, IS THE sha256 OF THE DUMP (.gsa) THAT YtidpdgdakghfnaaGreatProg.lean LOADS. Nothing in Lean hashes anything: it is a label: what it is worth is what the hold of that sum in a sandbox is worth. -/
noncomputable def Tryz.pinned : Pinned := { name := "ytidpdgdakghfnaagreat", sum := "88ffbe423fa42c5ecd4301be1ecb2583b07c4f3f92681b6e4bfcb1b1357175a2", checked := Tryz.checked }
namespace Rows
def none {H : Type} : Left H := { results := [], args := [] }

/-- 'plexuslaw38.StateJoin': WHATEVER THE INPUT: true; the input reads as it did. -/
def stateJoinSpec : ChangeSpec := { name := "stateJoin", fn := fun _ => fun
  | [d1, d2, d3] => { results := [.lit (.bool true)], args := [d1, d2, d3] }
  | _ => none }
def stateJoinRow : OpenClaim := { program := "ytidpdgdakghfnaagreat", sum := "88ffbe423fa42c5ecd4301be1ecb2583b07c4f3f92681b6e4bfcb1b1357175a2", func := "plexus/plexuslaw38.StateJoin", spec := "stateJoin", inPlace := ["internal/bytealg.abigen_runtime_cmpstring"], unfollowed := true, recurses := true, apart := false }
def StateJoinSaid : Prop := stateJoinRow.holds Tryz.pinned (OpenSpec.ofChange stateJoinSpec)

/-- ITS FALSE NEIGHBOUR: 'it returns false'. Refute it at one input. -/
def stateJoinWrong : ChangeSpec := { name := "stateJoin", fn := fun _ => fun
  | [d1, d2, d3] => { results := [.lit (.bool false)], args := [d1, d2, d3] }
  | _ => none }
def StateJoinWrongFalsely : Prop := stateJoinRow.holds Tryz.pinned (OpenSpec.ofChange stateJoinWrong)

/-- 'plexuslaw38.StateIs': WHATEVER THE INPUT: true; the input reads as it did. -/
def stateIsSpec : ChangeSpec := { name := "stateIs", fn := fun _ => fun
  | [d1, d2, d3] => { results := [.lit (.bool true)], args := [d1, d2, d3] }
  | _ => none }
def stateIsRow : OpenClaim := { program := "ytidpdgdakghfnaagreat", sum := "88ffbe423fa42c5ecd4301be1ecb2583b07c4f3f92681b6e4bfcb1b1357175a2", func := "plexus/plexuslaw38.StateIs", spec := "stateIs", inPlace := ["internal/bytealg.abigen_runtime_cmpstring"], unfollowed := true, recurses := true, loops := true, apart := false }
def StateIsSaid : Prop := stateIsRow.holds Tryz.pinned (OpenSpec.ofChange stateIsSpec)

/-- ITS FALSE NEIGHBOUR: 'it returns false'. Refute it at one input. -/
def stateIsWrong : ChangeSpec := { name := "stateIs", fn := fun _ => fun
  | [d1, d2, d3] => { results := [.lit (.bool false)], args := [d1, d2, d3] }
  | _ => none }
def StateIsWrongFalsely : Prop := stateIsRow.holds Tryz.pinned (OpenSpec.ofChange stateIsWrong)

/-- 'plexuslaw38.StateConf': WHATEVER THE INPUT: true; the input reads as it did. -/
def stateConfSpec : ChangeSpec := { name := "stateConf", fn := fun _ => fun
  | [d1, d2] => { results := [.lit (.bool true)], args := [d1, d2] }
  | _ => none }
def stateConfRow : OpenClaim := { program := "ytidpdgdakghfnaagreat", sum := "88ffbe423fa42c5ecd4301be1ecb2583b07c4f3f92681b6e4bfcb1b1357175a2", func := "plexus/plexuslaw38.StateConf", spec := "stateConf", inPlace := ["internal/bytealg.abigen_runtime_cmpstring"], unfollowed := true, recurses := true, apart := false }
def StateConfSaid : Prop := stateConfRow.holds Tryz.pinned (OpenSpec.ofChange stateConfSpec)

/-- ITS FALSE NEIGHBOUR: 'it returns false'. Refute it at one input. -/
def stateConfWrong : ChangeSpec := { name := "stateConf", fn := fun _ => fun
  | [d1, d2] => { results := [.lit (.bool false)], args := [d1, d2] }
  | _ => none }
def StateConfWrongFalsely : Prop := stateConfRow.holds Tryz.pinned (OpenSpec.ofChange stateConfWrong)

/-- 'plexuslaw38.StateWrites': WHATEVER THE INPUT: true; the input reads as it did. -/
def stateWritesSpec : ChangeSpec := { name := "stateWrites", fn := fun _ => fun
  | [d1, d2] => { results := [.lit (.bool true)], args := [d1, d2] }
  | _ => none }
def stateWritesRow : OpenClaim := { program := "ytidpdgdakghfnaagreat", sum := "88ffbe423fa42c5ecd4301be1ecb2583b07c4f3f92681b6e4bfcb1b1357175a2", func := "plexus/plexuslaw38.StateWrites", spec := "stateWrites", inPlace := ["internal/bytealg.abigen_runtime_cmpstring"], unfollowed := true, recurses := true, apart := false }
def StateWritesSaid : Prop := stateWritesRow.holds Tryz.pinned (OpenSpec.ofChange stateWritesSpec)

/-- ITS FALSE NEIGHBOUR: 'it returns false'. Refute it at one input. -/
def stateWritesWrong : ChangeSpec := { name := "stateWrites", fn := fun _ => fun
  | [d1, d2] => { results := [.lit (.bool false)], args := [d1, d2] }
  | _ => none }
def StateWritesWrongFalsely : Prop := stateWritesRow.holds Tryz.pinned (OpenSpec.ofChange stateWritesWrong)

/-- 'plexuslaw38.StateValue': WHATEVER THE INPUT: true; the input reads as it did. -/
def stateValueSpec : ChangeSpec := { name := "stateValue", fn := fun _ => fun
  | [d1, d2, d3, d4] => { results := [.lit (.bool true)], args := [d1, d2, d3, d4] }
  | _ => none }
def stateValueRow : OpenClaim := { program := "ytidpdgdakghfnaagreat", sum := "88ffbe423fa42c5ecd4301be1ecb2583b07c4f3f92681b6e4bfcb1b1357175a2", func := "plexus/plexuslaw38.StateValue", spec := "stateValue", inPlace := ["internal/bytealg.abigen_runtime_cmpstring"], unfollowed := true, recurses := true, loops := true, apart := false }
def StateValueSaid : Prop := stateValueRow.holds Tryz.pinned (OpenSpec.ofChange stateValueSpec)

/-- ITS FALSE NEIGHBOUR: 'it returns false'. Refute it at one input. -/
def stateValueWrong : ChangeSpec := { name := "stateValue", fn := fun _ => fun
  | [d1, d2, d3, d4] => { results := [.lit (.bool false)], args := [d1, d2, d3, d4] }
  | _ => none }
def StateValueWrongFalsely : Prop := stateValueRow.holds Tryz.pinned (OpenSpec.ofChange stateValueWrong)

/-- 'plexuslaw38.StateSets': WHATEVER THE INPUT: true; the input reads as it did. -/
def stateSetsSpec : ChangeSpec := { name := "stateSets", fn := fun _ => fun
  | [d1, d2, d3] => { results := [.lit (.bool true)], args := [d1, d2, d3] }
  | _ => none }
def stateSetsRow : OpenClaim := { program := "ytidpdgdakghfnaagreat", sum := "88ffbe423fa42c5ecd4301be1ecb2583b07c4f3f92681b6e4bfcb1b1357175a2", func := "plexus/plexuslaw38.StateSets", spec := "stateSets", inPlace := ["internal/bytealg.abigen_runtime_cmpstring"], unfollowed := true, recurses := true, apart := false }
def StateSetsSaid : Prop := stateSetsRow.holds Tryz.pinned (OpenSpec.ofChange stateSetsSpec)

/-- ITS FALSE NEIGHBOUR: 'it returns false'. Refute it at one input. -/
def stateSetsWrong : ChangeSpec := { name := "stateSets", fn := fun _ => fun
  | [d1, d2, d3] => { results := [.lit (.bool false)], args := [d1, d2, d3] }
  | _ => none }
def StateSetsWrongFalsely : Prop := stateSetsRow.holds Tryz.pinned (OpenSpec.ofChange stateSetsWrong)

/-- 'plexuslaw38.StateSubset': WHATEVER THE INPUT: true; the input reads as it did. -/
def stateSubsetSpec : ChangeSpec := { name := "stateSubset", fn := fun _ => fun
  | [d1, d2] => { results := [.lit (.bool true)], args := [d1, d2] }
  | _ => none }
def stateSubsetRow : OpenClaim := { program := "ytidpdgdakghfnaagreat", sum := "88ffbe423fa42c5ecd4301be1ecb2583b07c4f3f92681b6e4bfcb1b1357175a2", func := "plexus/plexuslaw38.StateSubset", spec := "stateSubset", inPlace := ["internal/bytealg.abigen_runtime_cmpstring"], unfollowed := true, recurses := true, apart := false }
def StateSubsetSaid : Prop := stateSubsetRow.holds Tryz.pinned (OpenSpec.ofChange stateSubsetSpec)

/-- ITS FALSE NEIGHBOUR: 'it returns false'. Refute it at one input. -/
def stateSubsetWrong : ChangeSpec := { name := "stateSubset", fn := fun _ => fun
  | [d1, d2] => { results := [.lit (.bool false)], args := [d1, d2] }
  | _ => none }
def StateSubsetWrongFalsely : Prop := stateSubsetRow.holds Tryz.pinned (OpenSpec.ofChange stateSubsetWrong)

/- THE SECOND FORM. 'bulk': how many values and letters a reading holds, each counted each time it is reached (what is shared counts as often as it is met; a slice's spare places count too). A statement '..UptoSaid' is the law's where the arguments, and the package variables that the reading takes, are together of bulk at most 1048576: NARROWER than '..Said'. Prove '..Said' where nothing that the law and all that it calls make is longer than what came in: it says more and counts as full. Else prove '..UptoSaid'. A law counts once. -/
mutual
def uptoBulk {H : Type} : DataW H → Nat
  | .lit (.string bytes) => bytes.length + 1
  | .lit _ => 1
  | .nil => 1
  | .ptr d => uptoBulk d + 1
  | .slice elems spare => uptoBulkAll elems + uptoBulkAll spare + 1
  | .agg parts => uptoBulkAll parts + 1
  | .iface _ d => uptoBulk d + 1
  | .map entries => uptoBulkEntries entries + 1
  | .held _ => 1
def uptoBulkAll {H : Type} : List (DataW H) → Nat
  | [] => 0
  | d :: r => uptoBulk d + uptoBulkAll r
def uptoBulkEntries {H : Type} : List (Lit × DataW H) → Nat
  | [] => 0
  | x :: r => uptoBulkEntry x + uptoBulkEntries r
def uptoBulkEntry {H : Type} : Lit × DataW H → Nat
  | (.string bytes, d) => bytes.length + uptoBulk d + 1
  | (_, d) => uptoBulk d + 1
 end
def uptoSmall : (H : Type) → List (DataW H) → Bool := fun _ ds => decide (uptoBulkAll ds ≤ 1048576)
def OpenSpec.upto (s : _root_.Go.ChangeSpec) : _root_.Go.OpenSpec := { _root_.Go.OpenSpec.ofChange s with cond := some uptoSmall }

/-- 'plexuslaw38.StateJoin', WHERE WHAT IT READS IS OF BULK AT MOST 1048576: true; the input reads as it did. -/
def stateJoinUptoRow : OpenClaim := { program := "ytidpdgdakghfnaagreat", sum := "88ffbe423fa42c5ecd4301be1ecb2583b07c4f3f92681b6e4bfcb1b1357175a2", func := "plexus/plexuslaw38.StateJoin", spec := "stateJoin", inPlace := ["internal/bytealg.abigen_runtime_cmpstring"], unfollowed := true, recurses := true, apart := false, narrowed := true }
def StateJoinUptoSaid : Prop := stateJoinUptoRow.holds Tryz.pinned (OpenSpec.upto stateJoinSpec)

/-- 'plexuslaw38.StateIs', WHERE WHAT IT READS IS OF BULK AT MOST 1048576: true; the input reads as it did. -/
def stateIsUptoRow : OpenClaim := { program := "ytidpdgdakghfnaagreat", sum := "88ffbe423fa42c5ecd4301be1ecb2583b07c4f3f92681b6e4bfcb1b1357175a2", func := "plexus/plexuslaw38.StateIs", spec := "stateIs", inPlace := ["internal/bytealg.abigen_runtime_cmpstring"], unfollowed := true, recurses := true, loops := true, apart := false, narrowed := true }
def StateIsUptoSaid : Prop := stateIsUptoRow.holds Tryz.pinned (OpenSpec.upto stateIsSpec)

/-- 'plexuslaw38.StateConf', WHERE WHAT IT READS IS OF BULK AT MOST 1048576: true; the input reads as it did. -/
def stateConfUptoRow : OpenClaim := { program := "ytidpdgdakghfnaagreat", sum := "88ffbe423fa42c5ecd4301be1ecb2583b07c4f3f92681b6e4bfcb1b1357175a2", func := "plexus/plexuslaw38.StateConf", spec := "stateConf", inPlace := ["internal/bytealg.abigen_runtime_cmpstring"], unfollowed := true, recurses := true, apart := false, narrowed := true }
def StateConfUptoSaid : Prop := stateConfUptoRow.holds Tryz.pinned (OpenSpec.upto stateConfSpec)

/-- 'plexuslaw38.StateWrites', WHERE WHAT IT READS IS OF BULK AT MOST 1048576: true; the input reads as it did. -/
def stateWritesUptoRow : OpenClaim := { program := "ytidpdgdakghfnaagreat", sum := "88ffbe423fa42c5ecd4301be1ecb2583b07c4f3f92681b6e4bfcb1b1357175a2", func := "plexus/plexuslaw38.StateWrites", spec := "stateWrites", inPlace := ["internal/bytealg.abigen_runtime_cmpstring"], unfollowed := true, recurses := true, apart := false, narrowed := true }
def StateWritesUptoSaid : Prop := stateWritesUptoRow.holds Tryz.pinned (OpenSpec.upto stateWritesSpec)

/-- 'plexuslaw38.StateValue', WHERE WHAT IT READS IS OF BULK AT MOST 1048576: true; the input reads as it did. -/
def stateValueUptoRow : OpenClaim := { program := "ytidpdgdakghfnaagreat", sum := "88ffbe423fa42c5ecd4301be1ecb2583b07c4f3f92681b6e4bfcb1b1357175a2", func := "plexus/plexuslaw38.StateValue", spec := "stateValue", inPlace := ["internal/bytealg.abigen_runtime_cmpstring"], unfollowed := true, recurses := true, loops := true, apart := false, narrowed := true }
def StateValueUptoSaid : Prop := stateValueUptoRow.holds Tryz.pinned (OpenSpec.upto stateValueSpec)

/-- 'plexuslaw38.StateSets', WHERE WHAT IT READS IS OF BULK AT MOST 1048576: true; the input reads as it did. -/
def stateSetsUptoRow : OpenClaim := { program := "ytidpdgdakghfnaagreat", sum := "88ffbe423fa42c5ecd4301be1ecb2583b07c4f3f92681b6e4bfcb1b1357175a2", func := "plexus/plexuslaw38.StateSets", spec := "stateSets", inPlace := ["internal/bytealg.abigen_runtime_cmpstring"], unfollowed := true, recurses := true, apart := false, narrowed := true }
def StateSetsUptoSaid : Prop := stateSetsUptoRow.holds Tryz.pinned (OpenSpec.upto stateSetsSpec)

/-- 'plexuslaw38.StateSubset', WHERE WHAT IT READS IS OF BULK AT MOST 1048576: true; the input reads as it did. -/
def stateSubsetUptoRow : OpenClaim := { program := "ytidpdgdakghfnaagreat", sum := "88ffbe423fa42c5ecd4301be1ecb2583b07c4f3f92681b6e4bfcb1b1357175a2", func := "plexus/plexuslaw38.StateSubset", spec := "stateSubset", inPlace := ["internal/bytealg.abigen_runtime_cmpstring"], unfollowed := true, recurses := true, apart := false, narrowed := true }
def StateSubsetUptoSaid : Prop := stateSubsetUptoRow.holds Tryz.pinned (OpenSpec.upto stateSubsetSpec)

end Rows
end Go.Proofs.YtidpdgdakghfnaaGreat
