/-
  NARROWER THAN 'FOR EVERY INPUT', by the rows' own cells (each row's printed sentence says how): CommandGenesis: loops, laid · CommandEncodes: laid · CommandDecodes: laid · CommandChecks: loops, laid · CommandTag: loops, laid · CommandReads: loops, laid · CommandOrder: laid · CommandSigns: loops, laid.
  DERIVED. THE GIVEN ROWS OF THIS SEAT. 8 by the template 'for every input the law returns true; each argument reads behind the call as it read before'; 0 by the template 'total and deterministic' (their statements: YtgkjcmglcnhpaaaGreatDoorTotals.lean).
  GIVEN WITH THE SEED: the statements are not yours to turn. If you find one false, say at which input.
  Laid BY PROGRAM, IN A SANDBOX (cutbox-rows.mjs): the forced cells as the released guide's own fill.sh prints them over the translation 0c24579f796a1d87… (all of the seat's roots in one cut). By AI agents, Wed Nov 11 2026. No macro, syntax, notation, axiom, sorry.
-/
import Derived.Test.YtgkjcmglcnhpaaaGreatDoorChecked
import GoSem.Claim
import GoSem.ClaimJoined
import GoSem.ClaimMapViews
import Derived.JoinedTies
import Derived.KernelRfl
namespace Go.Proofs.YtgkjcmglcnhpaaaGreatDoor
/- THE CELL 'sum', in the pinned program and in every row, IS THE sha256 OF THE DUMP (.gsa) THAT YtgkjcmglcnhpaaaGreatDoorProg.lean LOADS. Nothing in Lean hashes anything: it is a label: what it is worth is what the hold of that sum in a sandbox is worth. -/
noncomputable def Tryz.pinned : Pinned := { name := "ytgkjcmglcnhpaaagreatdoor", sum := "0c24579f796a1d8775c555ebfb5452d4727a7762b04113bcc3e3cd7a13c08a38", checked := Tryz.checked }
namespace Rows
def none {H : Type} : Left H := { results := [], args := [] }

/- WHAT THE LISTED PACKAGE-LEVEL VARIABLES READ AS WHEN THE CALL BEGINS. Each datum BY PROGRAM (the guide's laid-datum.mjs) off the statement by which the dump's own 'gosem.cut.vars' lays the variable. In a bare row this is a premise. The card (YtgkjcmglcnhpaaaGreatDoorCards.lean) ties it to the program's text. -/
def laid_plexus_sha256_constants {H : Type} : DataW H := .agg [.lit (.int .u32 1116352408), .lit (.int .u32 1899447441), .lit (.int .u32 3049323471), .lit (.int .u32 3921009573), .lit (.int .u32 961987163), .lit (.int .u32 1508970993), .lit (.int .u32 2453635748), .lit (.int .u32 2870763221), .lit (.int .u32 3624381080), .lit (.int .u32 310598401), .lit (.int .u32 607225278), .lit (.int .u32 1426881987), .lit (.int .u32 1925078388), .lit (.int .u32 2162078206), .lit (.int .u32 2614888103), .lit (.int .u32 3248222580), .lit (.int .u32 3835390401), .lit (.int .u32 4022224774), .lit (.int .u32 264347078), .lit (.int .u32 604807628), .lit (.int .u32 770255983), .lit (.int .u32 1249150122), .lit (.int .u32 1555081692), .lit (.int .u32 1996064986), .lit (.int .u32 2554220882), .lit (.int .u32 2821834349), .lit (.int .u32 2952996808), .lit (.int .u32 3210313671), .lit (.int .u32 3336571891), .lit (.int .u32 3584528711), .lit (.int .u32 113926993), .lit (.int .u32 338241895), .lit (.int .u32 666307205), .lit (.int .u32 773529912), .lit (.int .u32 1294757372), .lit (.int .u32 1396182291), .lit (.int .u32 1695183700), .lit (.int .u32 1986661051), .lit (.int .u32 2177026350), .lit (.int .u32 2456956037), .lit (.int .u32 2730485921), .lit (.int .u32 2820302411), .lit (.int .u32 3259730800), .lit (.int .u32 3345764771), .lit (.int .u32 3516065817), .lit (.int .u32 3600352804), .lit (.int .u32 4094571909), .lit (.int .u32 275423344), .lit (.int .u32 430227734), .lit (.int .u32 506948616), .lit (.int .u32 659060556), .lit (.int .u32 883997877), .lit (.int .u32 958139571), .lit (.int .u32 1322822218), .lit (.int .u32 1537002063), .lit (.int .u32 1747873779), .lit (.int .u32 1955562222), .lit (.int .u32 2024104815), .lit (.int .u32 2227730452), .lit (.int .u32 2361852424), .lit (.int .u32 2428436474), .lit (.int .u32 2756734187), .lit (.int .u32 3204031479), .lit (.int .u32 3329325298)]

/-- 'plexuslaw37.CommandGenesis': WHATEVER THE INPUT: true; the input reads as it did. -/
def commandGenesisSpec : ChangeSpec := { name := "commandGenesis", fn := fun _ => fun
  | [d1, d2] => { results := [.lit (.bool true)], args := [d1, d2] }
  | _ => none }
def commandGenesisRow : OpenClaim := { program := "ytgkjcmglcnhpaaagreatdoor", sum := "0c24579f796a1d8775c555ebfb5452d4727a7762b04113bcc3e3cd7a13c08a38", func := "plexus/plexuslaw37.CommandGenesis", spec := "commandGenesis", inPlace := ["internal/bytealg.abigen_runtime_cmpstring"], unfollowed := true, recurses := true, named := ["plexus/sha256.constants"], loops := true, apart := false, laid := [("plexus/sha256.constants", laid_plexus_sha256_constants)] }
def CommandGenesisSaid : Prop := commandGenesisRow.holds Tryz.pinned (OpenSpec.ofChange commandGenesisSpec)

/-- ITS FALSE NEIGHBOUR: 'it returns false'. Refute it at one input. -/
def commandGenesisWrong : ChangeSpec := { name := "commandGenesis", fn := fun _ => fun
  | [d1, d2] => { results := [.lit (.bool false)], args := [d1, d2] }
  | _ => none }
def CommandGenesisWrongFalsely : Prop := commandGenesisRow.holds Tryz.pinned (OpenSpec.ofChange commandGenesisWrong)

/-- 'plexuslaw37.CommandEncodes': WHATEVER THE INPUT: true; the input reads as it did. -/
def commandEncodesSpec : ChangeSpec := { name := "commandEncodes", fn := fun _ => fun
  | [d] => { results := [.lit (.bool true)], args := [d] }
  | _ => none }
def commandEncodesRow : OpenClaim := { program := "ytgkjcmglcnhpaaagreatdoor", sum := "0c24579f796a1d8775c555ebfb5452d4727a7762b04113bcc3e3cd7a13c08a38", func := "plexus/plexuslaw37.CommandEncodes", spec := "commandEncodes", inPlace := ["internal/bytealg.abigen_runtime_cmpstring"], unfollowed := true, recurses := true, named := ["plexus/sha256.constants"], apart := false, laid := [("plexus/sha256.constants", laid_plexus_sha256_constants)] }
def CommandEncodesSaid : Prop := commandEncodesRow.holds Tryz.pinned (OpenSpec.ofChange commandEncodesSpec)

/-- ITS FALSE NEIGHBOUR: 'it returns false'. Refute it at one input. -/
def commandEncodesWrong : ChangeSpec := { name := "commandEncodes", fn := fun _ => fun
  | [d] => { results := [.lit (.bool false)], args := [d] }
  | _ => none }
def CommandEncodesWrongFalsely : Prop := commandEncodesRow.holds Tryz.pinned (OpenSpec.ofChange commandEncodesWrong)

/-- 'plexuslaw37.CommandDecodes': WHATEVER THE INPUT: true; the input reads as it did. -/
def commandDecodesSpec : ChangeSpec := { name := "commandDecodes", fn := fun _ => fun
  | [d] => { results := [.lit (.bool true)], args := [d] }
  | _ => none }
def commandDecodesRow : OpenClaim := { program := "ytgkjcmglcnhpaaagreatdoor", sum := "0c24579f796a1d8775c555ebfb5452d4727a7762b04113bcc3e3cd7a13c08a38", func := "plexus/plexuslaw37.CommandDecodes", spec := "commandDecodes", inPlace := ["internal/bytealg.abigen_runtime_cmpstring"], unfollowed := true, recurses := true, named := ["plexus/sha256.constants"], apart := false, laid := [("plexus/sha256.constants", laid_plexus_sha256_constants)] }
def CommandDecodesSaid : Prop := commandDecodesRow.holds Tryz.pinned (OpenSpec.ofChange commandDecodesSpec)

/-- ITS FALSE NEIGHBOUR: 'it returns false'. Refute it at one input. -/
def commandDecodesWrong : ChangeSpec := { name := "commandDecodes", fn := fun _ => fun
  | [d] => { results := [.lit (.bool false)], args := [d] }
  | _ => none }
def CommandDecodesWrongFalsely : Prop := commandDecodesRow.holds Tryz.pinned (OpenSpec.ofChange commandDecodesWrong)

/-- 'plexuslaw37.CommandChecks': WHATEVER THE INPUT: true; the input reads as it did. -/
def commandChecksSpec : ChangeSpec := { name := "commandChecks", fn := fun _ => fun
  | [d1, d2, d3] => { results := [.lit (.bool true)], args := [d1, d2, d3] }
  | _ => none }
def commandChecksRow : OpenClaim := { program := "ytgkjcmglcnhpaaagreatdoor", sum := "0c24579f796a1d8775c555ebfb5452d4727a7762b04113bcc3e3cd7a13c08a38", func := "plexus/plexuslaw37.CommandChecks", spec := "commandChecks", inPlace := ["internal/bytealg.abigen_runtime_cmpstring"], unfollowed := true, recurses := true, named := ["plexus/sha256.constants"], loops := true, apart := false, laid := [("plexus/sha256.constants", laid_plexus_sha256_constants)] }
def CommandChecksSaid : Prop := commandChecksRow.holds Tryz.pinned (OpenSpec.ofChange commandChecksSpec)

/-- ITS FALSE NEIGHBOUR: 'it returns false'. Refute it at one input. -/
def commandChecksWrong : ChangeSpec := { name := "commandChecks", fn := fun _ => fun
  | [d1, d2, d3] => { results := [.lit (.bool false)], args := [d1, d2, d3] }
  | _ => none }
def CommandChecksWrongFalsely : Prop := commandChecksRow.holds Tryz.pinned (OpenSpec.ofChange commandChecksWrong)

/-- 'plexuslaw37.CommandTag': WHATEVER THE INPUT: true; the input reads as it did. -/
def commandTagSpec : ChangeSpec := { name := "commandTag", fn := fun _ => fun
  | [d1, d2, d3, d4] => { results := [.lit (.bool true)], args := [d1, d2, d3, d4] }
  | _ => none }
def commandTagRow : OpenClaim := { program := "ytgkjcmglcnhpaaagreatdoor", sum := "0c24579f796a1d8775c555ebfb5452d4727a7762b04113bcc3e3cd7a13c08a38", func := "plexus/plexuslaw37.CommandTag", spec := "commandTag", inPlace := ["internal/bytealg.abigen_runtime_cmpstring"], unfollowed := true, recurses := true, named := ["plexus/sha256.constants"], loops := true, apart := false, laid := [("plexus/sha256.constants", laid_plexus_sha256_constants)] }
def CommandTagSaid : Prop := commandTagRow.holds Tryz.pinned (OpenSpec.ofChange commandTagSpec)

/-- ITS FALSE NEIGHBOUR: 'it returns false'. Refute it at one input. -/
def commandTagWrong : ChangeSpec := { name := "commandTag", fn := fun _ => fun
  | [d1, d2, d3, d4] => { results := [.lit (.bool false)], args := [d1, d2, d3, d4] }
  | _ => none }
def CommandTagWrongFalsely : Prop := commandTagRow.holds Tryz.pinned (OpenSpec.ofChange commandTagWrong)

/-- 'plexuslaw37.CommandReads': WHATEVER THE INPUT: true; the input reads as it did. -/
def commandReadsSpec : ChangeSpec := { name := "commandReads", fn := fun _ => fun
  | [d1, d2, d3, d4, d5] => { results := [.lit (.bool true)], args := [d1, d2, d3, d4, d5] }
  | _ => none }
def commandReadsRow : OpenClaim := { program := "ytgkjcmglcnhpaaagreatdoor", sum := "0c24579f796a1d8775c555ebfb5452d4727a7762b04113bcc3e3cd7a13c08a38", func := "plexus/plexuslaw37.CommandReads", spec := "commandReads", inPlace := ["internal/bytealg.abigen_runtime_cmpstring"], unfollowed := true, recurses := true, named := ["plexus/sha256.constants"], loops := true, apart := false, laid := [("plexus/sha256.constants", laid_plexus_sha256_constants)] }
def CommandReadsSaid : Prop := commandReadsRow.holds Tryz.pinned (OpenSpec.ofChange commandReadsSpec)

/-- ITS FALSE NEIGHBOUR: 'it returns false'. Refute it at one input. -/
def commandReadsWrong : ChangeSpec := { name := "commandReads", fn := fun _ => fun
  | [d1, d2, d3, d4, d5] => { results := [.lit (.bool false)], args := [d1, d2, d3, d4, d5] }
  | _ => none }
def CommandReadsWrongFalsely : Prop := commandReadsRow.holds Tryz.pinned (OpenSpec.ofChange commandReadsWrong)

/-- 'plexuslaw37.CommandOrder': WHATEVER THE INPUT: true; the input reads as it did. -/
def commandOrderSpec : ChangeSpec := { name := "commandOrder", fn := fun _ => fun
  | [d1, d2, d3] => { results := [.lit (.bool true)], args := [d1, d2, d3] }
  | _ => none }
def commandOrderRow : OpenClaim := { program := "ytgkjcmglcnhpaaagreatdoor", sum := "0c24579f796a1d8775c555ebfb5452d4727a7762b04113bcc3e3cd7a13c08a38", func := "plexus/plexuslaw37.CommandOrder", spec := "commandOrder", inPlace := ["internal/bytealg.abigen_runtime_cmpstring"], unfollowed := true, recurses := true, named := ["plexus/sha256.constants"], apart := false, laid := [("plexus/sha256.constants", laid_plexus_sha256_constants)] }
def CommandOrderSaid : Prop := commandOrderRow.holds Tryz.pinned (OpenSpec.ofChange commandOrderSpec)

/-- ITS FALSE NEIGHBOUR: 'it returns false'. Refute it at one input. -/
def commandOrderWrong : ChangeSpec := { name := "commandOrder", fn := fun _ => fun
  | [d1, d2, d3] => { results := [.lit (.bool false)], args := [d1, d2, d3] }
  | _ => none }
def CommandOrderWrongFalsely : Prop := commandOrderRow.holds Tryz.pinned (OpenSpec.ofChange commandOrderWrong)

/-- 'plexuslaw37.CommandSigns': WHATEVER THE INPUT: true; the input reads as it did. -/
def commandSignsSpec : ChangeSpec := { name := "commandSigns", fn := fun _ => fun
  | [d1, d2, d3] => { results := [.lit (.bool true)], args := [d1, d2, d3] }
  | _ => none }
def commandSignsRow : OpenClaim := { program := "ytgkjcmglcnhpaaagreatdoor", sum := "0c24579f796a1d8775c555ebfb5452d4727a7762b04113bcc3e3cd7a13c08a38", func := "plexus/plexuslaw37.CommandSigns", spec := "commandSigns", inPlace := ["internal/bytealg.abigen_runtime_cmpstring"], unfollowed := true, recurses := true, named := ["plexus/sha256.constants"], loops := true, apart := false, laid := [("plexus/sha256.constants", laid_plexus_sha256_constants)] }
def CommandSignsSaid : Prop := commandSignsRow.holds Tryz.pinned (OpenSpec.ofChange commandSignsSpec)

/-- ITS FALSE NEIGHBOUR: 'it returns false'. Refute it at one input. -/
def commandSignsWrong : ChangeSpec := { name := "commandSigns", fn := fun _ => fun
  | [d1, d2, d3] => { results := [.lit (.bool false)], args := [d1, d2, d3] }
  | _ => none }
def CommandSignsWrongFalsely : Prop := commandSignsRow.holds Tryz.pinned (OpenSpec.ofChange commandSignsWrong)

/- THE SECOND FORM. 'bulk': how many values and letters a reading holds, each counted each time it is reached (what is shared counts as often as it is met; a slice's spare places count too). A statement '..UptoSaid' is the law's where the arguments, and the package variables that the reading takes, are together of bulk at most 1048576: NARROWER than '..Said'. Prove '..Said' where nothing that the law and all that it calls make is longer than what came in: it says more and counts as full. Else prove '..UptoSaid'. A law counts once. -/
mutual
def uptoBulk {H : Type} : DataW H → Nat
  | .lit (.string bytes) => bytes.length + 1
  | .lit _ => 1
  | .nil => 1
  | .ptr d => uptoBulk d + 1
  | .slice elems spare => uptoBulkAll elems + uptoBulkAll spare + 1
  | .agg parts => uptoBulkAll parts + 1
  | .iface _ d => uptoBulk d + 1
  | .map entries => uptoBulkEntries entries + 1
  | .held _ => 1
def uptoBulkAll {H : Type} : List (DataW H) → Nat
  | [] => 0
  | d :: r => uptoBulk d + uptoBulkAll r
def uptoBulkEntries {H : Type} : List (Lit × DataW H) → Nat
  | [] => 0
  | x :: r => uptoBulkEntry x + uptoBulkEntries r
def uptoBulkEntry {H : Type} : Lit × DataW H → Nat
  | (.string bytes, d) => bytes.length + uptoBulk d + 1
  | (_, d) => uptoBulk d + 1
 end
def uptoSmall : (H : Type) → List (DataW H) → Bool := fun _ ds => decide (uptoBulkAll ds ≤ 1048576)
def OpenSpec.upto (s : _root_.Go.ChangeSpec) : _root_.Go.OpenSpec := { _root_.Go.OpenSpec.ofChange s with cond := some uptoSmall }

/-- 'plexuslaw37.CommandGenesis', WHERE WHAT IT READS IS OF BULK AT MOST 1048576: true; the input reads as it did. -/
def commandGenesisUptoRow : OpenClaim := { program := "ytgkjcmglcnhpaaagreatdoor", sum := "0c24579f796a1d8775c555ebfb5452d4727a7762b04113bcc3e3cd7a13c08a38", func := "plexus/plexuslaw37.CommandGenesis", spec := "commandGenesis", inPlace := ["internal/bytealg.abigen_runtime_cmpstring"], unfollowed := true, recurses := true, named := ["plexus/sha256.constants"], loops := true, apart := false, laid := [("plexus/sha256.constants", laid_plexus_sha256_constants)], narrowed := true }
def CommandGenesisUptoSaid : Prop := commandGenesisUptoRow.holds Tryz.pinned (OpenSpec.upto commandGenesisSpec)

/-- 'plexuslaw37.CommandEncodes', WHERE WHAT IT READS IS OF BULK AT MOST 1048576: true; the input reads as it did. -/
def commandEncodesUptoRow : OpenClaim := { program := "ytgkjcmglcnhpaaagreatdoor", sum := "0c24579f796a1d8775c555ebfb5452d4727a7762b04113bcc3e3cd7a13c08a38", func := "plexus/plexuslaw37.CommandEncodes", spec := "commandEncodes", inPlace := ["internal/bytealg.abigen_runtime_cmpstring"], unfollowed := true, recurses := true, named := ["plexus/sha256.constants"], apart := false, laid := [("plexus/sha256.constants", laid_plexus_sha256_constants)], narrowed := true }
def CommandEncodesUptoSaid : Prop := commandEncodesUptoRow.holds Tryz.pinned (OpenSpec.upto commandEncodesSpec)

/-- 'plexuslaw37.CommandDecodes', WHERE WHAT IT READS IS OF BULK AT MOST 1048576: true; the input reads as it did. -/
def commandDecodesUptoRow : OpenClaim := { program := "ytgkjcmglcnhpaaagreatdoor", sum := "0c24579f796a1d8775c555ebfb5452d4727a7762b04113bcc3e3cd7a13c08a38", func := "plexus/plexuslaw37.CommandDecodes", spec := "commandDecodes", inPlace := ["internal/bytealg.abigen_runtime_cmpstring"], unfollowed := true, recurses := true, named := ["plexus/sha256.constants"], apart := false, laid := [("plexus/sha256.constants", laid_plexus_sha256_constants)], narrowed := true }
def CommandDecodesUptoSaid : Prop := commandDecodesUptoRow.holds Tryz.pinned (OpenSpec.upto commandDecodesSpec)

/-- 'plexuslaw37.CommandChecks', WHERE WHAT IT READS IS OF BULK AT MOST 1048576: true; the input reads as it did. -/
def commandChecksUptoRow : OpenClaim := { program := "ytgkjcmglcnhpaaagreatdoor", sum := "0c24579f796a1d8775c555ebfb5452d4727a7762b04113bcc3e3cd7a13c08a38", func := "plexus/plexuslaw37.CommandChecks", spec := "commandChecks", inPlace := ["internal/bytealg.abigen_runtime_cmpstring"], unfollowed := true, recurses := true, named := ["plexus/sha256.constants"], loops := true, apart := false, laid := [("plexus/sha256.constants", laid_plexus_sha256_constants)], narrowed := true }
def CommandChecksUptoSaid : Prop := commandChecksUptoRow.holds Tryz.pinned (OpenSpec.upto commandChecksSpec)

/-- 'plexuslaw37.CommandTag', WHERE WHAT IT READS IS OF BULK AT MOST 1048576: true; the input reads as it did. -/
def commandTagUptoRow : OpenClaim := { program := "ytgkjcmglcnhpaaagreatdoor", sum := "0c24579f796a1d8775c555ebfb5452d4727a7762b04113bcc3e3cd7a13c08a38", func := "plexus/plexuslaw37.CommandTag", spec := "commandTag", inPlace := ["internal/bytealg.abigen_runtime_cmpstring"], unfollowed := true, recurses := true, named := ["plexus/sha256.constants"], loops := true, apart := false, laid := [("plexus/sha256.constants", laid_plexus_sha256_constants)], narrowed := true }
def CommandTagUptoSaid : Prop := commandTagUptoRow.holds Tryz.pinned (OpenSpec.upto commandTagSpec)

/-- 'plexuslaw37.CommandReads', WHERE WHAT IT READS IS OF BULK AT MOST 1048576: true; the input reads as it did. -/
def commandReadsUptoRow : OpenClaim := { program := "ytgkjcmglcnhpaaagreatdoor", sum := "0c24579f796a1d8775c555ebfb5452d4727a7762b04113bcc3e3cd7a13c08a38", func := "plexus/plexuslaw37.CommandReads", spec := "commandReads", inPlace := ["internal/bytealg.abigen_runtime_cmpstring"], unfollowed := true, recurses := true, named := ["plexus/sha256.constants"], loops := true, apart := false, laid := [("plexus/sha256.constants", laid_plexus_sha256_constants)], narrowed := true }
def CommandReadsUptoSaid : Prop := commandReadsUptoRow.holds Tryz.pinned (OpenSpec.upto commandReadsSpec)

/-- 'plexuslaw37.CommandOrder', WHERE WHAT IT READS IS OF BULK AT MOST 1048576: true; the input reads as it did. -/
def commandOrderUptoRow : OpenClaim := { program := "ytgkjcmglcnhpaaagreatdoor", sum := "0c24579f796a1d8775c555ebfb5452d4727a7762b04113bcc3e3cd7a13c08a38", func := "plexus/plexuslaw37.CommandOrder", spec := "commandOrder", inPlace := ["internal/bytealg.abigen_runtime_cmpstring"], unfollowed := true, recurses := true, named := ["plexus/sha256.constants"], apart := false, laid := [("plexus/sha256.constants", laid_plexus_sha256_constants)], narrowed := true }
def CommandOrderUptoSaid : Prop := commandOrderUptoRow.holds Tryz.pinned (OpenSpec.upto commandOrderSpec)

/-- 'plexuslaw37.CommandSigns', WHERE WHAT IT READS IS OF BULK AT MOST 1048576: true; the input reads as it did. -/
def commandSignsUptoRow : OpenClaim := { program := "ytgkjcmglcnhpaaagreatdoor", sum := "0c24579f796a1d8775c555ebfb5452d4727a7762b04113bcc3e3cd7a13c08a38", func := "plexus/plexuslaw37.CommandSigns", spec := "commandSigns", inPlace := ["internal/bytealg.abigen_runtime_cmpstring"], unfollowed := true, recurses := true, named := ["plexus/sha256.constants"], loops := true, apart := false, laid := [("plexus/sha256.constants", laid_plexus_sha256_constants)], narrowed := true }
def CommandSignsUptoSaid : Prop := commandSignsUptoRow.holds Tryz.pinned (OpenSpec.upto commandSignsSpec)

end Rows
end Go.Proofs.YtgkjcmglcnhpaaaGreatDoor
