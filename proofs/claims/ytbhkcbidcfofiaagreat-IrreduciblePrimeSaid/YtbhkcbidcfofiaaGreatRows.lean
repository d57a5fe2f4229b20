/-
  NARROWER THAN 'FOR EVERY INPUT', by the rows' own cells (each row's printed sentence says how): IrreducibleDecomposes: loops · IrreducibleDiffs: loops · IrreducibleRank: loops · IrreducibleExact: loops · IrreducibleRestores: loops · IrreducibleLeast: loops · IrreducibleLaws: loops · IrreducibleMembers: loops · IrreducibleValuation: loops · IrreduciblePrime: loops · IrreducibleJoins: loops · IrreducibleUnique: loops.
  DERIVED. THE GIVEN ROWS OF THIS SEAT. 12 by the template 'for every input the law returns true; each argument reads behind the call as it read before'; 0 by the template 'total and deterministic' (their statements: YtbhkcbidcfofiaaGreatTotals.lean).
  GIVEN WITH THE SEED: the statements are not yours to turn. If you find one false, say at which input.
  Laid BY PROGRAM, IN A SANDBOX (cutbox-rows.mjs): the forced cells as the released guide's own fill.sh prints them over the translation 36f2b4b5e0b67a0b… (all of the seat's roots in one cut). By AI agents, Wed Nov 11 2026. No macro, syntax, notation, axiom, sorry.
-/
import Derived.Test.YtbhkcbidcfofiaaGreatChecked
import GoSem.Claim
import GoSem.ClaimJoined
import GoSem.ClaimMapViews
import Derived.JoinedTies
import Derived.KernelRfl
namespace Go.Proofs.YtbhkcbidcfofiaaGreat
/- THE CELL 'sum', in the pinned program and in every row, IS THE sha256 OF THE DUMP (.gsa) THAT YtbhkcbidcfofiaaGreatProg.lean LOADS. Nothing in Lean hashes anything: it is a label: what it is worth is what the hold of that sum in a sandbox is worth. -/
noncomputable def Tryz.pinned : Pinned := { name := "ytbhkcbidcfofiaagreat", sum := "36f2b4b5e0b67a0b2952ac44c13360314730028b7eda11c06de680fdc33952d7", checked := Tryz.checked }
namespace Rows
def none {H : Type} : Left H := { results := [], args := [] }

/-- 'plexuslaw12.IrreducibleDecomposes': WHATEVER THE INPUT: true; the input reads as it did. -/
def irreducibleDecomposesSpec : ChangeSpec := { name := "irreducibleDecomposes", fn := fun _ => fun
  | [d1, d2] => { results := [.lit (.bool true)], args := [d1, d2] }
  | _ => none }
def irreducibleDecomposesRow : OpenClaim := { program := "ytbhkcbidcfofiaagreat", sum := "36f2b4b5e0b67a0b2952ac44c13360314730028b7eda11c06de680fdc33952d7", func := "plexus/plexuslaw12.IrreducibleDecomposes", spec := "irreducibleDecomposes", inPlace := ["internal/bytealg.abigen_runtime_cmpstring"], unfollowed := true, recurses := true, loops := true, apart := false }
def IrreducibleDecomposesSaid : Prop := irreducibleDecomposesRow.holds Tryz.pinned (OpenSpec.ofChange irreducibleDecomposesSpec)

/-- ITS FALSE NEIGHBOUR: 'it returns false'. Refute it at one input. -/
def irreducibleDecomposesWrong : ChangeSpec := { name := "irreducibleDecomposes", fn := fun _ => fun
  | [d1, d2] => { results := [.lit (.bool false)], args := [d1, d2] }
  | _ => none }
def IrreducibleDecomposesWrongFalsely : Prop := irreducibleDecomposesRow.holds Tryz.pinned (OpenSpec.ofChange irreducibleDecomposesWrong)

/-- 'plexuslaw12.IrreducibleDiffs': WHATEVER THE INPUT: true; the input reads as it did. -/
def irreducibleDiffsSpec : ChangeSpec := { name := "irreducibleDiffs", fn := fun _ => fun
  | [d1, d2, d3] => { results := [.lit (.bool true)], args := [d1, d2, d3] }
  | _ => none }
def irreducibleDiffsRow : OpenClaim := { program := "ytbhkcbidcfofiaagreat", sum := "36f2b4b5e0b67a0b2952ac44c13360314730028b7eda11c06de680fdc33952d7", func := "plexus/plexuslaw12.IrreducibleDiffs", spec := "irreducibleDiffs", inPlace := ["internal/bytealg.abigen_runtime_cmpstring"], unfollowed := true, recurses := true, loops := true, apart := false }
def IrreducibleDiffsSaid : Prop := irreducibleDiffsRow.holds Tryz.pinned (OpenSpec.ofChange irreducibleDiffsSpec)

/-- ITS FALSE NEIGHBOUR: 'it returns false'. Refute it at one input. -/
def irreducibleDiffsWrong : ChangeSpec := { name := "irreducibleDiffs", fn := fun _ => fun
  | [d1, d2, d3] => { results := [.lit (.bool false)], args := [d1, d2, d3] }
  | _ => none }
def IrreducibleDiffsWrongFalsely : Prop := irreducibleDiffsRow.holds Tryz.pinned (OpenSpec.ofChange irreducibleDiffsWrong)

/-- 'plexuslaw12.IrreducibleRank': WHATEVER THE INPUT: true; the input reads as it did. -/
def irreducibleRankSpec : ChangeSpec := { name := "irreducibleRank", fn := fun _ => fun
  | [d1, d2] => { results := [.lit (.bool true)], args := [d1, d2] }
  | _ => none }
def irreducibleRankRow : OpenClaim := { program := "ytbhkcbidcfofiaagreat", sum := "36f2b4b5e0b67a0b2952ac44c13360314730028b7eda11c06de680fdc33952d7", func := "plexus/plexuslaw12.IrreducibleRank", spec := "irreducibleRank", inPlace := ["internal/bytealg.abigen_runtime_cmpstring"], unfollowed := true, recurses := true, loops := true, apart := false }
def IrreducibleRankSaid : Prop := irreducibleRankRow.holds Tryz.pinned (OpenSpec.ofChange irreducibleRankSpec)

/-- ITS FALSE NEIGHBOUR: 'it returns false'. Refute it at one input. -/
def irreducibleRankWrong : ChangeSpec := { name := "irreducibleRank", fn := fun _ => fun
  | [d1, d2] => { results := [.lit (.bool false)], args := [d1, d2] }
  | _ => none }
def IrreducibleRankWrongFalsely : Prop := irreducibleRankRow.holds Tryz.pinned (OpenSpec.ofChange irreducibleRankWrong)

/-- 'plexuslaw12.IrreducibleExact': WHATEVER THE INPUT: true; the input reads as it did. -/
def irreducibleExactSpec : ChangeSpec := { name := "irreducibleExact", fn := fun _ => fun
  | [d1, d2] => { results := [.lit (.bool true)], args := [d1, d2] }
  | _ => none }
def irreducibleExactRow : OpenClaim := { program := "ytbhkcbidcfofiaagreat", sum := "36f2b4b5e0b67a0b2952ac44c13360314730028b7eda11c06de680fdc33952d7", func := "plexus/plexuslaw12.IrreducibleExact", spec := "irreducibleExact", inPlace := ["internal/bytealg.abigen_runtime_cmpstring"], unfollowed := true, recurses := true, loops := true, apart := false }
def IrreducibleExactSaid : Prop := irreducibleExactRow.holds Tryz.pinned (OpenSpec.ofChange irreducibleExactSpec)

/-- ITS FALSE NEIGHBOUR: 'it returns false'. Refute it at one input. -/
def irreducibleExactWrong : ChangeSpec := { name := "irreducibleExact", fn := fun _ => fun
  | [d1, d2] => { results := [.lit (.bool false)], args := [d1, d2] }
  | _ => none }
def IrreducibleExactWrongFalsely : Prop := irreducibleExactRow.holds Tryz.pinned (OpenSpec.ofChange irreducibleExactWrong)

/-- 'plexuslaw12.IrreducibleRestores': WHATEVER THE INPUT: true; the input reads as it did. -/
def irreducibleRestoresSpec : ChangeSpec := { name := "irreducibleRestores", fn := fun _ => fun
  | [d1, d2, d3] => { results := [.lit (.bool true)], args := [d1, d2, d3] }
  | _ => none }
def irreducibleRestoresRow : OpenClaim := { program := "ytbhkcbidcfofiaagreat", sum := "36f2b4b5e0b67a0b2952ac44c13360314730028b7eda11c06de680fdc33952d7", func := "plexus/plexuslaw12.IrreducibleRestores", spec := "irreducibleRestores", inPlace := ["internal/bytealg.abigen_runtime_cmpstring"], unfollowed := true, recurses := true, loops := true, apart := false }
def IrreducibleRestoresSaid : Prop := irreducibleRestoresRow.holds Tryz.pinned (OpenSpec.ofChange irreducibleRestoresSpec)

/-- ITS FALSE NEIGHBOUR: 'it returns false'. Refute it at one input. -/
def irreducibleRestoresWrong : ChangeSpec := { name := "irreducibleRestores", fn := fun _ => fun
  | [d1, d2, d3] => { results := [.lit (.bool false)], args := [d1, d2, d3] }
  | _ => none }
def IrreducibleRestoresWrongFalsely : Prop := irreducibleRestoresRow.holds Tryz.pinned (OpenSpec.ofChange irreducibleRestoresWrong)

/-- 'plexuslaw12.IrreducibleLeast': WHATEVER THE INPUT: true; the input reads as it did. -/
def irreducibleLeastSpec : ChangeSpec := { name := "irreducibleLeast", fn := fun _ => fun
  | [d1, d2] => { results := [.lit (.bool true)], args := [d1, d2] }
  | _ => none }
def irreducibleLeastRow : OpenClaim := { program := "ytbhkcbidcfofiaagreat", sum := "36f2b4b5e0b67a0b2952ac44c13360314730028b7eda11c06de680fdc33952d7", func := "plexus/plexuslaw12.IrreducibleLeast", spec := "irreducibleLeast", inPlace := ["internal/bytealg.abigen_runtime_cmpstring"], unfollowed := true, recurses := true, loops := true, apart := false }
def IrreducibleLeastSaid : Prop := irreducibleLeastRow.holds Tryz.pinned (OpenSpec.ofChange irreducibleLeastSpec)

/-- ITS FALSE NEIGHBOUR: 'it returns false'. Refute it at one input. -/
def irreducibleLeastWrong : ChangeSpec := { name := "irreducibleLeast", fn := fun _ => fun
  | [d1, d2] => { results := [.lit (.bool false)], args := [d1, d2] }
  | _ => none }
def IrreducibleLeastWrongFalsely : Prop := irreducibleLeastRow.holds Tryz.pinned (OpenSpec.ofChange irreducibleLeastWrong)

/-- 'plexuslaw12.IrreducibleLaws': WHATEVER THE INPUT: true; the input reads as it did. -/
def irreducibleLawsSpec : ChangeSpec := { name := "irreducibleLaws", fn := fun _ => fun
  | [d1, d2] => { results := [.lit (.bool true)], args := [d1, d2] }
  | _ => none }
def irreducibleLawsRow : OpenClaim := { program := "ytbhkcbidcfofiaagreat", sum := "36f2b4b5e0b67a0b2952ac44c13360314730028b7eda11c06de680fdc33952d7", func := "plexus/plexuslaw12.IrreducibleLaws", spec := "irreducibleLaws", inPlace := ["internal/bytealg.abigen_runtime_cmpstring"], unfollowed := true, recurses := true, loops := true, apart := false }
def IrreducibleLawsSaid : Prop := irreducibleLawsRow.holds Tryz.pinned (OpenSpec.ofChange irreducibleLawsSpec)

/-- ITS FALSE NEIGHBOUR: 'it returns false'. Refute it at one input. -/
def irreducibleLawsWrong : ChangeSpec := { name := "irreducibleLaws", fn := fun _ => fun
  | [d1, d2] => { results := [.lit (.bool false)], args := [d1, d2] }
  | _ => none }
def IrreducibleLawsWrongFalsely : Prop := irreducibleLawsRow.holds Tryz.pinned (OpenSpec.ofChange irreducibleLawsWrong)

/-- 'plexuslaw12.IrreducibleMembers': WHATEVER THE INPUT: true; the input reads as it did. -/
def irreducibleMembersSpec : ChangeSpec := { name := "irreducibleMembers", fn := fun _ => fun
  | [d1, d2] => { results := [.lit (.bool true)], args := [d1, d2] }
  | _ => none }
def irreducibleMembersRow : OpenClaim := { program := "ytbhkcbidcfofiaagreat", sum := "36f2b4b5e0b67a0b2952ac44c13360314730028b7eda11c06de680fdc33952d7", func := "plexus/plexuslaw12.IrreducibleMembers", spec := "irreducibleMembers", inPlace := ["internal/bytealg.abigen_runtime_cmpstring"], unfollowed := true, recurses := true, loops := true, apart := false }
def IrreducibleMembersSaid : Prop := irreducibleMembersRow.holds Tryz.pinned (OpenSpec.ofChange irreducibleMembersSpec)

/-- ITS FALSE NEIGHBOUR: 'it returns false'. Refute it at one input. -/
def irreducibleMembersWrong : ChangeSpec := { name := "irreducibleMembers", fn := fun _ => fun
  | [d1, d2] => { results := [.lit (.bool false)], args := [d1, d2] }
  | _ => none }
def IrreducibleMembersWrongFalsely : Prop := irreducibleMembersRow.holds Tryz.pinned (OpenSpec.ofChange irreducibleMembersWrong)

/-- 'plexuslaw12.IrreducibleValuation': WHATEVER THE INPUT: true; the input reads as it did. -/
def irreducibleValuationSpec : ChangeSpec := { name := "irreducibleValuation", fn := fun _ => fun
  | [d1, d2, d3] => { results := [.lit (.bool true)], args := [d1, d2, d3] }
  | _ => none }
def irreducibleValuationRow : OpenClaim := { program := "ytbhkcbidcfofiaagreat", sum := "36f2b4b5e0b67a0b2952ac44c13360314730028b7eda11c06de680fdc33952d7", func := "plexus/plexuslaw12.IrreducibleValuation", spec := "irreducibleValuation", inPlace := ["internal/bytealg.abigen_runtime_cmpstring"], unfollowed := true, recurses := true, loops := true, apart := false }
def IrreducibleValuationSaid : Prop := irreducibleValuationRow.holds Tryz.pinned (OpenSpec.ofChange irreducibleValuationSpec)

/-- ITS FALSE NEIGHBOUR: 'it returns false'. Refute it at one input. -/
def irreducibleValuationWrong : ChangeSpec := { name := "irreducibleValuation", fn := fun _ => fun
  | [d1, d2, d3] => { results := [.lit (.bool false)], args := [d1, d2, d3] }
  | _ => none }
def IrreducibleValuationWrongFalsely : Prop := irreducibleValuationRow.holds Tryz.pinned (OpenSpec.ofChange irreducibleValuationWrong)

/-- 'plexuslaw12.IrreduciblePrime': WHATEVER THE INPUT: true; the input reads as it did. -/
def irreduciblePrimeSpec : ChangeSpec := { name := "irreduciblePrime", fn := fun _ => fun
  | [d1, d2] => { results := [.lit (.bool true)], args := [d1, d2] }
  | _ => none }
def irreduciblePrimeRow : OpenClaim := { program := "ytbhkcbidcfofiaagreat", sum := "36f2b4b5e0b67a0b2952ac44c13360314730028b7eda11c06de680fdc33952d7", func := "plexus/plexuslaw12.IrreduciblePrime", spec := "irreduciblePrime", inPlace := ["internal/bytealg.abigen_runtime_cmpstring"], unfollowed := true, recurses := true, loops := true, apart := false }
def IrreduciblePrimeSaid : Prop := irreduciblePrimeRow.holds Tryz.pinned (OpenSpec.ofChange irreduciblePrimeSpec)

/-- ITS FALSE NEIGHBOUR: 'it returns false'. Refute it at one input. -/
def irreduciblePrimeWrong : ChangeSpec := { name := "irreduciblePrime", fn := fun _ => fun
  | [d1, d2] => { results := [.lit (.bool false)], args := [d1, d2] }
  | _ => none }
def IrreduciblePrimeWrongFalsely : Prop := irreduciblePrimeRow.holds Tryz.pinned (OpenSpec.ofChange irreduciblePrimeWrong)

/-- 'plexuslaw12.IrreducibleJoins': WHATEVER THE INPUT: true; the input reads as it did. -/
def irreducibleJoinsSpec : ChangeSpec := { name := "irreducibleJoins", fn := fun _ => fun
  | [d1, d2] => { results := [.lit (.bool true)], args := [d1, d2] }
  | _ => none }
def irreducibleJoinsRow : OpenClaim := { program := "ytbhkcbidcfofiaagreat", sum := "36f2b4b5e0b67a0b2952ac44c13360314730028b7eda11c06de680fdc33952d7", func := "plexus/plexuslaw12.IrreducibleJoins", spec := "irreducibleJoins", inPlace := ["internal/bytealg.abigen_runtime_cmpstring"], unfollowed := true, recurses := true, loops := true, apart := false }
def IrreducibleJoinsSaid : Prop := irreducibleJoinsRow.holds Tryz.pinned (OpenSpec.ofChange irreducibleJoinsSpec)

/-- ITS FALSE NEIGHBOUR: 'it returns false'. Refute it at one input. -/
def irreducibleJoinsWrong : ChangeSpec := { name := "irreducibleJoins", fn := fun _ => fun
  | [d1, d2] => { results := [.lit (.bool false)], args := [d1, d2] }
  | _ => none }
def IrreducibleJoinsWrongFalsely : Prop := irreducibleJoinsRow.holds Tryz.pinned (OpenSpec.ofChange irreducibleJoinsWrong)

/-- 'plexuslaw12.IrreducibleUnique': WHATEVER THE INPUT: true; the input reads as it did. -/
def irreducibleUniqueSpec : ChangeSpec := { name := "irreducibleUnique", fn := fun _ => fun
  | [d1, d2] => { results := [.lit (.bool true)], args := [d1, d2] }
  | _ => none }
def irreducibleUniqueRow : OpenClaim := { program := "ytbhkcbidcfofiaagreat", sum := "36f2b4b5e0b67a0b2952ac44c13360314730028b7eda11c06de680fdc33952d7", func := "plexus/plexuslaw12.IrreducibleUnique", spec := "irreducibleUnique", inPlace := ["internal/bytealg.abigen_runtime_cmpstring"], unfollowed := true, recurses := true, loops := true, apart := false }
def IrreducibleUniqueSaid : Prop := irreducibleUniqueRow.holds Tryz.pinned (OpenSpec.ofChange irreducibleUniqueSpec)

/-- ITS FALSE NEIGHBOUR: 'it returns false'. Refute it at one input. -/
def irreducibleUniqueWrong : ChangeSpec := { name := "irreducibleUnique", fn := fun _ => fun
  | [d1, d2] => { results := [.lit (.bool false)], args := [d1, d2] }
  | _ => none }
def IrreducibleUniqueWrongFalsely : Prop := irreducibleUniqueRow.holds Tryz.pinned (OpenSpec.ofChange irreducibleUniqueWrong)

/- THE SECOND FORM. 'bulk': how many values and letters a reading holds, each counted each time it is reached (what is shared counts as often as it is met; a slice's spare places count too). A statement '..UptoSaid' is the law's where the arguments, and the package variables that the reading takes, are together of bulk at most 1048576: NARROWER than '..Said'. Prove '..Said' where nothing that the law and all that it calls make is longer than what came in: it says more and counts as full. Else prove '..UptoSaid'. A law counts once. -/
mutual
def uptoBulk {H : Type} : DataW H → Nat
  | .lit (.string bytes) => bytes.length + 1
  | .lit _ => 1
  | .nil => 1
  | .ptr d => uptoBulk d + 1
  | .slice elems spare => uptoBulkAll elems + uptoBulkAll spare + 1
  | .agg parts => uptoBulkAll parts + 1
  | .iface _ d => uptoBulk d + 1
  | .map entries => uptoBulkEntries entries + 1
  | .held _ => 1
def uptoBulkAll {H : Type} : List (DataW H) → Nat
  | [] => 0
  | d :: r => uptoBulk d + uptoBulkAll r
def uptoBulkEntries {H : Type} : List (Lit × DataW H) → Nat
  | [] => 0
  | x :: r => uptoBulkEntry x + uptoBulkEntries r
def uptoBulkEntry {H : Type} : Lit × DataW H → Nat
  | (.string bytes, d) => bytes.length + uptoBulk d + 1
  | (_, d) => uptoBulk d + 1
 end
def uptoSmall : (H : Type) → List (DataW H) → Bool := fun _ ds => decide (uptoBulkAll ds ≤ 1048576)
def OpenSpec.upto (s : _root_.Go.ChangeSpec) : _root_.Go.OpenSpec := { _root_.Go.OpenSpec.ofChange s with cond := some uptoSmall }

/-- 'plexuslaw12.IrreducibleDecomposes', WHERE WHAT IT READS IS OF BULK AT MOST 1048576: true; the input reads as it did. -/
def irreducibleDecomposesUptoRow : OpenClaim := { program := "ytbhkcbidcfofiaagreat", sum := "36f2b4b5e0b67a0b2952ac44c13360314730028b7eda11c06de680fdc33952d7", func := "plexus/plexuslaw12.IrreducibleDecomposes", spec := "irreducibleDecomposes", inPlace := ["internal/bytealg.abigen_runtime_cmpstring"], unfollowed := true, recurses := true, loops := true, apart := false, narrowed := true }
def IrreducibleDecomposesUptoSaid : Prop := irreducibleDecomposesUptoRow.holds Tryz.pinned (OpenSpec.upto irreducibleDecomposesSpec)

/-- 'plexuslaw12.IrreducibleDiffs', WHERE WHAT IT READS IS OF BULK AT MOST 1048576: true; the input reads as it did. -/
def irreducibleDiffsUptoRow : OpenClaim := { program := "ytbhkcbidcfofiaagreat", sum := "36f2b4b5e0b67a0b2952ac44c13360314730028b7eda11c06de680fdc33952d7", func := "plexus/plexuslaw12.IrreducibleDiffs", spec := "irreducibleDiffs", inPlace := ["internal/bytealg.abigen_runtime_cmpstring"], unfollowed := true, recurses := true, loops := true, apart := false, narrowed := true }
def IrreducibleDiffsUptoSaid : Prop := irreducibleDiffsUptoRow.holds Tryz.pinned (OpenSpec.upto irreducibleDiffsSpec)

/-- 'plexuslaw12.IrreducibleRank', WHERE WHAT IT READS IS OF BULK AT MOST 1048576: true; the input reads as it did. -/
def irreducibleRankUptoRow : OpenClaim := { program := "ytbhkcbidcfofiaagreat", sum := "36f2b4b5e0b67a0b2952ac44c13360314730028b7eda11c06de680fdc33952d7", func := "plexus/plexuslaw12.IrreducibleRank", spec := "irreducibleRank", inPlace := ["internal/bytealg.abigen_runtime_cmpstring"], unfollowed := true, recurses := true, loops := true, apart := false, narrowed := true }
def IrreducibleRankUptoSaid : Prop := irreducibleRankUptoRow.holds Tryz.pinned (OpenSpec.upto irreducibleRankSpec)

/-- 'plexuslaw12.IrreducibleExact', WHERE WHAT IT READS IS OF BULK AT MOST 1048576: true; the input reads as it did. -/
def irreducibleExactUptoRow : OpenClaim := { program := "ytbhkcbidcfofiaagreat", sum := "36f2b4b5e0b67a0b2952ac44c13360314730028b7eda11c06de680fdc33952d7", func := "plexus/plexuslaw12.IrreducibleExact", spec := "irreducibleExact", inPlace := ["internal/bytealg.abigen_runtime_cmpstring"], unfollowed := true, recurses := true, loops := true, apart := false, narrowed := true }
def IrreducibleExactUptoSaid : Prop := irreducibleExactUptoRow.holds Tryz.pinned (OpenSpec.upto irreducibleExactSpec)

/-- 'plexuslaw12.IrreducibleRestores', WHERE WHAT IT READS IS OF BULK AT MOST 1048576: true; the input reads as it did. -/
def irreducibleRestoresUptoRow : OpenClaim := { program := "ytbhkcbidcfofiaagreat", sum := "36f2b4b5e0b67a0b2952ac44c13360314730028b7eda11c06de680fdc33952d7", func := "plexus/plexuslaw12.IrreducibleRestores", spec := "irreducibleRestores", inPlace := ["internal/bytealg.abigen_runtime_cmpstring"], unfollowed := true, recurses := true, loops := true, apart := false, narrowed := true }
def IrreducibleRestoresUptoSaid : Prop := irreducibleRestoresUptoRow.holds Tryz.pinned (OpenSpec.upto irreducibleRestoresSpec)

/-- 'plexuslaw12.IrreducibleLeast', WHERE WHAT IT READS IS OF BULK AT MOST 1048576: true; the input reads as it did. -/
def irreducibleLeastUptoRow : OpenClaim := { program := "ytbhkcbidcfofiaagreat", sum := "36f2b4b5e0b67a0b2952ac44c13360314730028b7eda11c06de680fdc33952d7", func := "plexus/plexuslaw12.IrreducibleLeast", spec := "irreducibleLeast", inPlace := ["internal/bytealg.abigen_runtime_cmpstring"], unfollowed := true, recurses := true, loops := true, apart := false, narrowed := true }
def IrreducibleLeastUptoSaid : Prop := irreducibleLeastUptoRow.holds Tryz.pinned (OpenSpec.upto irreducibleLeastSpec)

/-- 'plexuslaw12.IrreducibleLaws', WHERE WHAT IT READS IS OF BULK AT MOST 1048576: true; the input reads as it did. -/
def irreducibleLawsUptoRow : OpenClaim := { program := "ytbhkcbidcfofiaagreat", sum := "36f2b4b5e0b67a0b2952ac44c13360314730028b7eda11c06de680fdc33952d7", func := "plexus/plexuslaw12.IrreducibleLaws", spec := "irreducibleLaws", inPlace := ["internal/bytealg.abigen_runtime_cmpstring"], unfollowed := true, recurses := true, loops := true, apart := false, narrowed := true }
def IrreducibleLawsUptoSaid : Prop := irreducibleLawsUptoRow.holds Tryz.pinned (OpenSpec.upto irreducibleLawsSpec)

/-- 'plexuslaw12.IrreducibleMembers', WHERE WHAT IT READS IS OF BULK AT MOST 1048576: true; the input reads as it did. -/
def irreducibleMembersUptoRow : OpenClaim := { program := "ytbhkcbidcfofiaagreat", sum := "36f2b4b5e0b67a0b2952ac44c13360314730028b7eda11c06de680fdc33952d7", func := "plexus/plexuslaw12.IrreducibleMembers", spec := "irreducibleMembers", inPlace := ["internal/bytealg.abigen_runtime_cmpstring"], unfollowed := true, recurses := true, loops := true, apart := false, narrowed := true }
def IrreducibleMembersUptoSaid : Prop := irreducibleMembersUptoRow.holds Tryz.pinned (OpenSpec.upto irreducibleMembersSpec)

/-- 'plexuslaw12.IrreducibleValuation', WHERE WHAT IT READS IS OF BULK AT MOST 1048576: true; the input reads as it did. -/
def irreducibleValuationUptoRow : OpenClaim := { program := "ytbhkcbidcfofiaagreat", sum := "36f2b4b5e0b67a0b2952ac44c13360314730028b7eda11c06de680fdc33952d7", func := "plexus/plexuslaw12.IrreducibleValuation", spec := "irreducibleValuation", inPlace := ["internal/bytealg.abigen_runtime_cmpstring"], unfollowed := true, recurses := true, loops := true, apart := false, narrowed := true }
def IrreducibleValuationUptoSaid : Prop := irreducibleValuationUptoRow.holds Tryz.pinned (OpenSpec.upto irreducibleValuationSpec)

/-- 'plexuslaw12.IrreduciblePrime', WHERE WHAT IT READS IS OF BULK AT MOST 1048576: true; the input reads as it did. -/
def irreduciblePrimeUptoRow : OpenClaim := { program := "ytbhkcbidcfofiaagreat", sum := "36f2b4b5e0b67a0b2952ac44c13360314730028b7eda11c06de680fdc33952d7", func := "plexus/plexuslaw12.IrreduciblePrime", spec := "irreduciblePrime", inPlace := ["internal/bytealg.abigen_runtime_cmpstring"], unfollowed := true, recurses := true, loops := true, apart := false, narrowed := true }
def IrreduciblePrimeUptoSaid : Prop := irreduciblePrimeUptoRow.holds Tryz.pinned (OpenSpec.upto irreduciblePrimeSpec)

/-- 'plexuslaw12.IrreducibleJoins', WHERE WHAT IT READS IS OF BULK AT MOST 1048576: true; the input reads as it did. -/
def irreducibleJoinsUptoRow : OpenClaim := { program := "ytbhkcbidcfofiaagreat", sum := "36f2b4b5e0b67a0b2952ac44c13360314730028b7eda11c06de680fdc33952d7", func := "plexus/plexuslaw12.IrreducibleJoins", spec := "irreducibleJoins", inPlace := ["internal/bytealg.abigen_runtime_cmpstring"], unfollowed := true, recurses := true, loops := true, apart := false, narrowed := true }
def IrreducibleJoinsUptoSaid : Prop := irreducibleJoinsUptoRow.holds Tryz.pinned (OpenSpec.upto irreducibleJoinsSpec)

/-- 'plexuslaw12.IrreducibleUnique', WHERE WHAT IT READS IS OF BULK AT MOST 1048576: true; the input reads as it did. -/
def irreducibleUniqueUptoRow : OpenClaim := { program := "ytbhkcbidcfofiaagreat", sum := "36f2b4b5e0b67a0b2952ac44c13360314730028b7eda11c06de680fdc33952d7", func := "plexus/plexuslaw12.IrreducibleUnique", spec := "irreducibleUnique", inPlace := ["internal/bytealg.abigen_runtime_cmpstring"], unfollowed := true, recurses := true, loops := true, apart := false, narrowed := true }
def IrreducibleUniqueUptoSaid : Prop := irreducibleUniqueUptoRow.holds Tryz.pinned (OpenSpec.upto irreducibleUniqueSpec)

end Rows
end Go.Proofs.YtbhkcbidcfofiaaGreat
