/-
  NARROWER THAN 'FOR EVERY INPUT', by the rows' own cells (each row's printed sentence says how): ValueValid: loops, laid · ValueTop: loops, laid · ValueOrder: loops, laid · ValueNodes: loops, laid · ValueEncodes: loops, laid · ValueDecodes: loops, laid · ValuePrefix: loops, laid · ValueText: loops, laid · ValueComposes: loops, laid · ValueBottom: loops, laid.
  DERIVED. THE GIVEN ROWS OF THIS SEAT. 10 by the template 'for every input the law returns true; each argument reads behind the call as it read before'; 0 by the template 'total and deterministic' (their statements: YtmdjnaobllajmaaGreatDoorTotals.lean).
  GIVEN WITH THE SEED: the statements are not yours to turn. If you find one false, say at which input.
  Laid BY PROGRAM, IN A SANDBOX (cutbox-rows.mjs): the forced cells as the released guide's own fill.sh prints them over the translation 4b77d69a8206e800… (all of the seat's roots in one cut). By AI agents, Wed Nov 11 2026. No macro, syntax, notation, axiom, sorry.
-/
import Derived.Test.YtmdjnaobllajmaaGreatDoorChecked
import GoSem.Claim
import GoSem.ClaimJoined
import GoSem.ClaimMapViews
import Derived.JoinedTies
import Derived.KernelRfl
namespace Go.Proofs.YtmdjnaobllajmaaGreatDoor
/- THE CELL 'sum', in the pinned program and in every row, IS THE sha256 OF THE DUMP (.gsa) THAT YtmdjnaobllajmaaGreatDoorProg.lean LOADS. Nothing in Lean hashes anything: it is a label: what it is worth is what the hold of that sum in a sandbox is worth. -/
noncomputable def Tryz.pinned : Pinned := { name := "ytmdjnaobllajmaagreatdoor", sum := "4b77d69a8206e80040dca3aba85e488a0455455215b5f8ae2b214469228ec218", checked := Tryz.checked }
namespace Rows
def none {H : Type} : Left H := { results := [], args := [] }

/- WHAT THE LISTED PACKAGE-LEVEL VARIABLES READ AS WHEN THE CALL BEGINS. Each datum BY PROGRAM (the guide's laid-datum.mjs) off the statement by which the dump's own 'gosem.cut.vars' lays the variable. In a bare row this is a premise. The card (YtmdjnaobllajmaaGreatDoorCards.lean) ties it to the program's text. -/
def laid_math_bits_deBruijn32tab {H : Type} : DataW H := .agg [.lit (.int .u8 0), .lit (.int .u8 1), .lit (.int .u8 28), .lit (.int .u8 2), .lit (.int .u8 29), .lit (.int .u8 14), .lit (.int .u8 24), .lit (.int .u8 3), .lit (.int .u8 30), .lit (.int .u8 22), .lit (.int .u8 20), .lit (.int .u8 15), .lit (.int .u8 25), .lit (.int .u8 17), .lit (.int .u8 4), .lit (.int .u8 8), .lit (.int .u8 31), .lit (.int .u8 27), .lit (.int .u8 13), .lit (.int .u8 23), .lit (.int .u8 21), .lit (.int .u8 19), .lit (.int .u8 16), .lit (.int .u8 7), .lit (.int .u8 26), .lit (.int .u8 12), .lit (.int .u8 18), .lit (.int .u8 6), .lit (.int .u8 11), .lit (.int .u8 5), .lit (.int .u8 10), .lit (.int .u8 9)]
def laid_math_bits_deBruijn64tab {H : Type} : DataW H := .agg [.lit (.int .u8 0), .lit (.int .u8 1), .lit (.int .u8 56), .lit (.int .u8 2), .lit (.int .u8 57), .lit (.int .u8 49), .lit (.int .u8 28), .lit (.int .u8 3), .lit (.int .u8 61), .lit (.int .u8 58), .lit (.int .u8 42), .lit (.int .u8 50), .lit (.int .u8 38), .lit (.int .u8 29), .lit (.int .u8 17), .lit (.int .u8 4), .lit (.int .u8 62), .lit (.int .u8 47), .lit (.int .u8 59), .lit (.int .u8 36), .lit (.int .u8 45), .lit (.int .u8 43), .lit (.int .u8 51), .lit (.int .u8 22), .lit (.int .u8 53), .lit (.int .u8 39), .lit (.int .u8 33), .lit (.int .u8 30), .lit (.int .u8 24), .lit (.int .u8 18), .lit (.int .u8 12), .lit (.int .u8 5), .lit (.int .u8 63), .lit (.int .u8 55), .lit (.int .u8 48), .lit (.int .u8 27), .lit (.int .u8 60), .lit (.int .u8 41), .lit (.int .u8 37), .lit (.int .u8 16), .lit (.int .u8 46), .lit (.int .u8 35), .lit (.int .u8 44), .lit (.int .u8 21), .lit (.int .u8 52), .lit (.int .u8 32), .lit (.int .u8 23), .lit (.int .u8 11), .lit (.int .u8 54), .lit (.int .u8 26), .lit (.int .u8 40), .lit (.int .u8 15), .lit (.int .u8 34), .lit (.int .u8 20), .lit (.int .u8 31), .lit (.int .u8 10), .lit (.int .u8 25), .lit (.int .u8 14), .lit (.int .u8 19), .lit (.int .u8 9), .lit (.int .u8 13), .lit (.int .u8 8), .lit (.int .u8 7), .lit (.int .u8 6)]
def laid_internal_strconv_uint64pow10 {H : Type} : DataW H := .agg [.lit (.int .u64 1), .lit (.int .u64 10), .lit (.int .u64 100), .lit (.int .u64 1000), .lit (.int .u64 10000), .lit (.int .u64 100000), .lit (.int .u64 1000000), .lit (.int .u64 10000000), .lit (.int .u64 100000000), .lit (.int .u64 1000000000), .lit (.int .u64 10000000000), .lit (.int .u64 100000000000), .lit (.int .u64 1000000000000), .lit (.int .u64 10000000000000), .lit (.int .u64 100000000000000), .lit (.int .u64 1000000000000000), .lit (.int .u64 10000000000000000), .lit (.int .u64 100000000000000000), .lit (.int .u64 1000000000000000000), .lit (.int .u64 10000000000000000000)]

/-- 'plexuslaw10.ValueValid': WHATEVER THE INPUT: true; the input reads as it did. -/
def valueValidSpec : ChangeSpec := { name := "valueValid", fn := fun _ => fun
  | [d1, d2] => { results := [.lit (.bool true)], args := [d1, d2] }
  | _ => none }
def valueValidRow : OpenClaim := { program := "ytmdjnaobllajmaagreatdoor", sum := "4b77d69a8206e80040dca3aba85e488a0455455215b5f8ae2b214469228ec218", func := "plexus/plexuslaw10.ValueValid", spec := "valueValid", inPlace := ["internal/bytealg.abigen_runtime_cmpstring", "internal/abi.NoEscape", "internal/bytealg.MakeNoZero"], unfollowed := true, recurses := true, named := ["internal/strconv.uint64pow10", "math/bits.deBruijn32tab", "math/bits.deBruijn64tab"], loops := true, apart := false, laid := [("math/bits.deBruijn32tab", laid_math_bits_deBruijn32tab), ("math/bits.deBruijn64tab", laid_math_bits_deBruijn64tab), ("internal/strconv.uint64pow10", laid_internal_strconv_uint64pow10)] }
def ValueValidSaid : Prop := valueValidRow.holds Tryz.pinned (OpenSpec.ofChange valueValidSpec)

/-- ITS FALSE NEIGHBOUR: 'it returns false'. Refute it at one input. -/
def valueValidWrong : ChangeSpec := { name := "valueValid", fn := fun _ => fun
  | [d1, d2] => { results := [.lit (.bool false)], args := [d1, d2] }
  | _ => none }
def ValueValidWrongFalsely : Prop := valueValidRow.holds Tryz.pinned (OpenSpec.ofChange valueValidWrong)

/-- 'plexuslaw10.ValueTop': WHATEVER THE INPUT: true; the input reads as it did. -/
def valueTopSpec : ChangeSpec := { name := "valueTop", fn := fun _ => fun
  | [d] => { results := [.lit (.bool true)], args := [d] }
  | _ => none }
def valueTopRow : OpenClaim := { program := "ytmdjnaobllajmaagreatdoor", sum := "4b77d69a8206e80040dca3aba85e488a0455455215b5f8ae2b214469228ec218", func := "plexus/plexuslaw10.ValueTop", spec := "valueTop", inPlace := ["internal/bytealg.abigen_runtime_cmpstring", "internal/abi.NoEscape", "internal/bytealg.MakeNoZero"], unfollowed := true, recurses := true, named := ["internal/strconv.uint64pow10", "math/bits.deBruijn32tab", "math/bits.deBruijn64tab"], loops := true, apart := false, laid := [("math/bits.deBruijn32tab", laid_math_bits_deBruijn32tab), ("math/bits.deBruijn64tab", laid_math_bits_deBruijn64tab), ("internal/strconv.uint64pow10", laid_internal_strconv_uint64pow10)] }
def ValueTopSaid : Prop := valueTopRow.holds Tryz.pinned (OpenSpec.ofChange valueTopSpec)

/-- ITS FALSE NEIGHBOUR: 'it returns false'. Refute it at one input. -/
def valueTopWrong : ChangeSpec := { name := "valueTop", fn := fun _ => fun
  | [d] => { results := [.lit (.bool false)], args := [d] }
  | _ => none }
def ValueTopWrongFalsely : Prop := valueTopRow.holds Tryz.pinned (OpenSpec.ofChange valueTopWrong)

/-- 'plexuslaw10.ValueOrder': WHATEVER THE INPUT: true; the input reads as it did. -/
def valueOrderSpec : ChangeSpec := { name := "valueOrder", fn := fun _ => fun
  | [d1, d2, d3] => { results := [.lit (.bool true)], args := [d1, d2, d3] }
  | _ => none }
def valueOrderRow : OpenClaim := { program := "ytmdjnaobllajmaagreatdoor", sum := "4b77d69a8206e80040dca3aba85e488a0455455215b5f8ae2b214469228ec218", func := "plexus/plexuslaw10.ValueOrder", spec := "valueOrder", inPlace := ["internal/bytealg.abigen_runtime_cmpstring", "internal/abi.NoEscape", "internal/bytealg.MakeNoZero"], unfollowed := true, recurses := true, named := ["internal/strconv.uint64pow10", "math/bits.deBruijn32tab", "math/bits.deBruijn64tab"], loops := true, apart := false, laid := [("math/bits.deBruijn32tab", laid_math_bits_deBruijn32tab), ("math/bits.deBruijn64tab", laid_math_bits_deBruijn64tab), ("internal/strconv.uint64pow10", laid_internal_strconv_uint64pow10)] }
def ValueOrderSaid : Prop := valueOrderRow.holds Tryz.pinned (OpenSpec.ofChange valueOrderSpec)

/-- ITS FALSE NEIGHBOUR: 'it returns false'. Refute it at one input. -/
def valueOrderWrong : ChangeSpec := { name := "valueOrder", fn := fun _ => fun
  | [d1, d2, d3] => { results := [.lit (.bool false)], args := [d1, d2, d3] }
  | _ => none }
def ValueOrderWrongFalsely : Prop := valueOrderRow.holds Tryz.pinned (OpenSpec.ofChange valueOrderWrong)

/-- 'plexuslaw10.ValueNodes': WHATEVER THE INPUT: true; the input reads as it did. -/
def valueNodesSpec : ChangeSpec := { name := "valueNodes", fn := fun _ => fun
  | [d1, d2, d3, d4] => { results := [.lit (.bool true)], args := [d1, d2, d3, d4] }
  | _ => none }
def valueNodesRow : OpenClaim := { program := "ytmdjnaobllajmaagreatdoor", sum := "4b77d69a8206e80040dca3aba85e488a0455455215b5f8ae2b214469228ec218", func := "plexus/plexuslaw10.ValueNodes", spec := "valueNodes", inPlace := ["internal/bytealg.abigen_runtime_cmpstring", "internal/abi.NoEscape", "internal/bytealg.MakeNoZero"], unfollowed := true, recurses := true, named := ["internal/strconv.uint64pow10", "math/bits.deBruijn32tab", "math/bits.deBruijn64tab"], loops := true, apart := false, laid := [("math/bits.deBruijn32tab", laid_math_bits_deBruijn32tab), ("math/bits.deBruijn64tab", laid_math_bits_deBruijn64tab), ("internal/strconv.uint64pow10", laid_internal_strconv_uint64pow10)] }
def ValueNodesSaid : Prop := valueNodesRow.holds Tryz.pinned (OpenSpec.ofChange valueNodesSpec)

/-- ITS FALSE NEIGHBOUR: 'it returns false'. Refute it at one input. -/
def valueNodesWrong : ChangeSpec := { name := "valueNodes", fn := fun _ => fun
  | [d1, d2, d3, d4] => { results := [.lit (.bool false)], args := [d1, d2, d3, d4] }
  | _ => none }
def ValueNodesWrongFalsely : Prop := valueNodesRow.holds Tryz.pinned (OpenSpec.ofChange valueNodesWrong)

/-- 'plexuslaw10.ValueEncodes': WHATEVER THE INPUT: true; the input reads as it did. -/
def valueEncodesSpec : ChangeSpec := { name := "valueEncodes", fn := fun _ => fun
  | [d1, d2] => { results := [.lit (.bool true)], args := [d1, d2] }
  | _ => none }
def valueEncodesRow : OpenClaim := { program := "ytmdjnaobllajmaagreatdoor", sum := "4b77d69a8206e80040dca3aba85e488a0455455215b5f8ae2b214469228ec218", func := "plexus/plexuslaw10.ValueEncodes", spec := "valueEncodes", inPlace := ["internal/bytealg.abigen_runtime_cmpstring", "internal/abi.NoEscape", "internal/bytealg.MakeNoZero"], unfollowed := true, recurses := true, named := ["internal/strconv.uint64pow10", "math/bits.deBruijn32tab", "math/bits.deBruijn64tab"], loops := true, apart := false, laid := [("math/bits.deBruijn32tab", laid_math_bits_deBruijn32tab), ("math/bits.deBruijn64tab", laid_math_bits_deBruijn64tab), ("internal/strconv.uint64pow10", laid_internal_strconv_uint64pow10)] }
def ValueEncodesSaid : Prop := valueEncodesRow.holds Tryz.pinned (OpenSpec.ofChange valueEncodesSpec)

/-- ITS FALSE NEIGHBOUR: 'it returns false'. Refute it at one input. -/
def valueEncodesWrong : ChangeSpec := { name := "valueEncodes", fn := fun _ => fun
  | [d1, d2] => { results := [.lit (.bool false)], args := [d1, d2] }
  | _ => none }
def ValueEncodesWrongFalsely : Prop := valueEncodesRow.holds Tryz.pinned (OpenSpec.ofChange valueEncodesWrong)

/-- 'plexuslaw10.ValueDecodes': WHATEVER THE INPUT: true; the input reads as it did. -/
def valueDecodesSpec : ChangeSpec := { name := "valueDecodes", fn := fun _ => fun
  | [d1, d2] => { results := [.lit (.bool true)], args := [d1, d2] }
  | _ => none }
def valueDecodesRow : OpenClaim := { program := "ytmdjnaobllajmaagreatdoor", sum := "4b77d69a8206e80040dca3aba85e488a0455455215b5f8ae2b214469228ec218", func := "plexus/plexuslaw10.ValueDecodes", spec := "valueDecodes", inPlace := ["internal/bytealg.abigen_runtime_cmpstring", "internal/abi.NoEscape", "internal/bytealg.MakeNoZero"], unfollowed := true, recurses := true, named := ["internal/strconv.uint64pow10", "math/bits.deBruijn32tab", "math/bits.deBruijn64tab"], loops := true, apart := false, laid := [("math/bits.deBruijn32tab", laid_math_bits_deBruijn32tab), ("math/bits.deBruijn64tab", laid_math_bits_deBruijn64tab), ("internal/strconv.uint64pow10", laid_internal_strconv_uint64pow10)] }
def ValueDecodesSaid : Prop := valueDecodesRow.holds Tryz.pinned (OpenSpec.ofChange valueDecodesSpec)

/-- ITS FALSE NEIGHBOUR: 'it returns false'. Refute it at one input. -/
def valueDecodesWrong : ChangeSpec := { name := "valueDecodes", fn := fun _ => fun
  | [d1, d2] => { results := [.lit (.bool false)], args := [d1, d2] }
  | _ => none }
def ValueDecodesWrongFalsely : Prop := valueDecodesRow.holds Tryz.pinned (OpenSpec.ofChange valueDecodesWrong)

/-- 'plexuslaw10.ValuePrefix': WHATEVER THE INPUT: true; the input reads as it did. -/
def valuePrefixSpec : ChangeSpec := { name := "valuePrefix", fn := fun _ => fun
  | [d1, d2, d3] => { results := [.lit (.bool true)], args := [d1, d2, d3] }
  | _ => none }
def valuePrefixRow : OpenClaim := { program := "ytmdjnaobllajmaagreatdoor", sum := "4b77d69a8206e80040dca3aba85e488a0455455215b5f8ae2b214469228ec218", func := "plexus/plexuslaw10.ValuePrefix", spec := "valuePrefix", inPlace := ["internal/bytealg.abigen_runtime_cmpstring", "internal/abi.NoEscape", "internal/bytealg.MakeNoZero"], unfollowed := true, recurses := true, named := ["internal/strconv.uint64pow10", "math/bits.deBruijn32tab", "math/bits.deBruijn64tab"], loops := true, apart := false, laid := [("math/bits.deBruijn32tab", laid_math_bits_deBruijn32tab), ("math/bits.deBruijn64tab", laid_math_bits_deBruijn64tab), ("internal/strconv.uint64pow10", laid_internal_strconv_uint64pow10)] }
def ValuePrefixSaid : Prop := valuePrefixRow.holds Tryz.pinned (OpenSpec.ofChange valuePrefixSpec)

/-- ITS FALSE NEIGHBOUR: 'it returns false'. Refute it at one input. -/
def valuePrefixWrong : ChangeSpec := { name := "valuePrefix", fn := fun _ => fun
  | [d1, d2, d3] => { results := [.lit (.bool false)], args := [d1, d2, d3] }
  | _ => none }
def ValuePrefixWrongFalsely : Prop := valuePrefixRow.holds Tryz.pinned (OpenSpec.ofChange valuePrefixWrong)

/-- 'plexuslaw10.ValueText': WHATEVER THE INPUT: true; the input reads as it did. -/
def valueTextSpec : ChangeSpec := { name := "valueText", fn := fun _ => fun
  | [d1, d2, d3] => { results := [.lit (.bool true)], args := [d1, d2, d3] }
  | _ => none }
def valueTextRow : OpenClaim := { program := "ytmdjnaobllajmaagreatdoor", sum := "4b77d69a8206e80040dca3aba85e488a0455455215b5f8ae2b214469228ec218", func := "plexus/plexuslaw10.ValueText", spec := "valueText", inPlace := ["internal/bytealg.abigen_runtime_cmpstring", "internal/abi.NoEscape", "internal/bytealg.MakeNoZero"], unfollowed := true, recurses := true, named := ["internal/strconv.uint64pow10", "math/bits.deBruijn32tab", "math/bits.deBruijn64tab"], loops := true, apart := false, laid := [("math/bits.deBruijn32tab", laid_math_bits_deBruijn32tab), ("math/bits.deBruijn64tab", laid_math_bits_deBruijn64tab), ("internal/strconv.uint64pow10", laid_internal_strconv_uint64pow10)] }
def ValueTextSaid : Prop := valueTextRow.holds Tryz.pinned (OpenSpec.ofChange valueTextSpec)

/-- ITS FALSE NEIGHBOUR: 'it returns false'. Refute it at one input. -/
def valueTextWrong : ChangeSpec := { name := "valueText", fn := fun _ => fun
  | [d1, d2, d3] => { results := [.lit (.bool false)], args := [d1, d2, d3] }
  | _ => none }
def ValueTextWrongFalsely : Prop := valueTextRow.holds Tryz.pinned (OpenSpec.ofChange valueTextWrong)

/-- 'plexuslaw10.ValueComposes': WHATEVER THE INPUT: true; the input reads as it did. -/
def valueComposesSpec : ChangeSpec := { name := "valueComposes", fn := fun _ => fun
  | [d1, d2, d3, d4] => { results := [.lit (.bool true)], args := [d1, d2, d3, d4] }
  | _ => none }
def valueComposesRow : OpenClaim := { program := "ytmdjnaobllajmaagreatdoor", sum := "4b77d69a8206e80040dca3aba85e488a0455455215b5f8ae2b214469228ec218", func := "plexus/plexuslaw10.ValueComposes", spec := "valueComposes", inPlace := ["internal/bytealg.abigen_runtime_cmpstring", "internal/abi.NoEscape", "internal/bytealg.MakeNoZero"], unfollowed := true, recurses := true, named := ["internal/strconv.uint64pow10", "math/bits.deBruijn32tab", "math/bits.deBruijn64tab"], loops := true, apart := false, laid := [("math/bits.deBruijn32tab", laid_math_bits_deBruijn32tab), ("math/bits.deBruijn64tab", laid_math_bits_deBruijn64tab), ("internal/strconv.uint64pow10", laid_internal_strconv_uint64pow10)] }
def ValueComposesSaid : Prop := valueComposesRow.holds Tryz.pinned (OpenSpec.ofChange valueComposesSpec)

/-- ITS FALSE NEIGHBOUR: 'it returns false'. Refute it at one input. -/
def valueComposesWrong : ChangeSpec := { name := "valueComposes", fn := fun _ => fun
  | [d1, d2, d3, d4] => { results := [.lit (.bool false)], args := [d1, d2, d3, d4] }
  | _ => none }
def ValueComposesWrongFalsely : Prop := valueComposesRow.holds Tryz.pinned (OpenSpec.ofChange valueComposesWrong)

/-- 'plexuslaw10.ValueBottom': WHATEVER THE INPUT: true; the input reads as it did. -/
def valueBottomSpec : ChangeSpec := { name := "valueBottom", fn := fun _ => fun
  | [d1, d2] => { results := [.lit (.bool true)], args := [d1, d2] }
  | _ => none }
def valueBottomRow : OpenClaim := { program := "ytmdjnaobllajmaagreatdoor", sum := "4b77d69a8206e80040dca3aba85e488a0455455215b5f8ae2b214469228ec218", func := "plexus/plexuslaw10.ValueBottom", spec := "valueBottom", inPlace := ["internal/bytealg.abigen_runtime_cmpstring", "internal/abi.NoEscape", "internal/bytealg.MakeNoZero"], unfollowed := true, recurses := true, named := ["internal/strconv.uint64pow10", "math/bits.deBruijn32tab", "math/bits.deBruijn64tab"], loops := true, apart := false, laid := [("math/bits.deBruijn32tab", laid_math_bits_deBruijn32tab), ("math/bits.deBruijn64tab", laid_math_bits_deBruijn64tab), ("internal/strconv.uint64pow10", laid_internal_strconv_uint64pow10)] }
def ValueBottomSaid : Prop := valueBottomRow.holds Tryz.pinned (OpenSpec.ofChange valueBottomSpec)

/-- ITS FALSE NEIGHBOUR: 'it returns false'. Refute it at one input. -/
def valueBottomWrong : ChangeSpec := { name := "valueBottom", fn := fun _ => fun
  | [d1, d2] => { results := [.lit (.bool false)], args := [d1, d2] }
  | _ => none }
def ValueBottomWrongFalsely : Prop := valueBottomRow.holds Tryz.pinned (OpenSpec.ofChange valueBottomWrong)

/- THE SECOND FORM. 'bulk': how many values and letters a reading holds, each counted each time it is reached (what is shared counts as often as it is met; a slice's spare places count too). A statement '..UptoSaid' is the law's where the arguments, and the package variables that the reading takes, are together of bulk at most 1048576: NARROWER than '..Said'. Prove '..Said' where nothing that the law and all that it calls make is longer than what came in: it says more and counts as full. Else prove '..UptoSaid'. A law counts once. -/
mutual
def uptoBulk {H : Type} : DataW H → Nat
  | .lit (.string bytes) => bytes.length + 1
  | .lit _ => 1
  | .nil => 1
  | .ptr d => uptoBulk d + 1
  | .slice elems spare => uptoBulkAll elems + uptoBulkAll spare + 1
  | .agg parts => uptoBulkAll parts + 1
  | .iface _ d => uptoBulk d + 1
  | .map entries => uptoBulkEntries entries + 1
  | .held _ => 1
def uptoBulkAll {H : Type} : List (DataW H) → Nat
  | [] => 0
  | d :: r => uptoBulk d + uptoBulkAll r
def uptoBulkEntries {H : Type} : List (Lit × DataW H) → Nat
  | [] => 0
  | x :: r => uptoBulkEntry x + uptoBulkEntries r
def uptoBulkEntry {H : Type} : Lit × DataW H → Nat
  | (.string bytes, d) => bytes.length + uptoBulk d + 1
  | (_, d) => uptoBulk d + 1
 end
def uptoSmall : (H : Type) → List (DataW H) → Bool := fun _ ds => decide (uptoBulkAll ds ≤ 1048576)
def OpenSpec.upto (s : _root_.Go.ChangeSpec) : _root_.Go.OpenSpec := { _root_.Go.OpenSpec.ofChange s with cond := some uptoSmall }

/-- 'plexuslaw10.ValueValid', WHERE WHAT IT READS IS OF BULK AT MOST 1048576: true; the input reads as it did. -/
def valueValidUptoRow : OpenClaim := { program := "ytmdjnaobllajmaagreatdoor", sum := "4b77d69a8206e80040dca3aba85e488a0455455215b5f8ae2b214469228ec218", func := "plexus/plexuslaw10.ValueValid", spec := "valueValid", inPlace := ["internal/bytealg.abigen_runtime_cmpstring", "internal/abi.NoEscape", "internal/bytealg.MakeNoZero"], unfollowed := true, recurses := true, named := ["internal/strconv.uint64pow10", "math/bits.deBruijn32tab", "math/bits.deBruijn64tab"], loops := true, apart := false, laid := [("math/bits.deBruijn32tab", laid_math_bits_deBruijn32tab), ("math/bits.deBruijn64tab", laid_math_bits_deBruijn64tab), ("internal/strconv.uint64pow10", laid_internal_strconv_uint64pow10)], narrowed := true }
def ValueValidUptoSaid : Prop := valueValidUptoRow.holds Tryz.pinned (OpenSpec.upto valueValidSpec)

/-- 'plexuslaw10.ValueTop', WHERE WHAT IT READS IS OF BULK AT MOST 1048576: true; the input reads as it did. -/
def valueTopUptoRow : OpenClaim := { program := "ytmdjnaobllajmaagreatdoor", sum := "4b77d69a8206e80040dca3aba85e488a0455455215b5f8ae2b214469228ec218", func := "plexus/plexuslaw10.ValueTop", spec := "valueTop", inPlace := ["internal/bytealg.abigen_runtime_cmpstring", "internal/abi.NoEscape", "internal/bytealg.MakeNoZero"], unfollowed := true, recurses := true, named := ["internal/strconv.uint64pow10", "math/bits.deBruijn32tab", "math/bits.deBruijn64tab"], loops := true, apart := false, laid := [("math/bits.deBruijn32tab", laid_math_bits_deBruijn32tab), ("math/bits.deBruijn64tab", laid_math_bits_deBruijn64tab), ("internal/strconv.uint64pow10", laid_internal_strconv_uint64pow10)], narrowed := true }
def ValueTopUptoSaid : Prop := valueTopUptoRow.holds Tryz.pinned (OpenSpec.upto valueTopSpec)

/-- 'plexuslaw10.ValueOrder', WHERE WHAT IT READS IS OF BULK AT MOST 1048576: true; the input reads as it did. -/
def valueOrderUptoRow : OpenClaim := { program := "ytmdjnaobllajmaagreatdoor", sum := "4b77d69a8206e80040dca3aba85e488a0455455215b5f8ae2b214469228ec218", func := "plexus/plexuslaw10.ValueOrder", spec := "valueOrder", inPlace := ["internal/bytealg.abigen_runtime_cmpstring", "internal/abi.NoEscape", "internal/bytealg.MakeNoZero"], unfollowed := true, recurses := true, named := ["internal/strconv.uint64pow10", "math/bits.deBruijn32tab", "math/bits.deBruijn64tab"], loops := true, apart := false, laid := [("math/bits.deBruijn32tab", laid_math_bits_deBruijn32tab), ("math/bits.deBruijn64tab", laid_math_bits_deBruijn64tab), ("internal/strconv.uint64pow10", laid_internal_strconv_uint64pow10)], narrowed := true }
def ValueOrderUptoSaid : Prop := valueOrderUptoRow.holds Tryz.pinned (OpenSpec.upto valueOrderSpec)

/-- 'plexuslaw10.ValueNodes', WHERE WHAT IT READS IS OF BULK AT MOST 1048576: true; the input reads as it did. -/
def valueNodesUptoRow : OpenClaim := { program := "ytmdjnaobllajmaagreatdoor", sum := "4b77d69a8206e80040dca3aba85e488a0455455215b5f8ae2b214469228ec218", func := "plexus/plexuslaw10.ValueNodes", spec := "valueNodes", inPlace := ["internal/bytealg.abigen_runtime_cmpstring", "internal/abi.NoEscape", "internal/bytealg.MakeNoZero"], unfollowed := true, recurses := true, named := ["internal/strconv.uint64pow10", "math/bits.deBruijn32tab", "math/bits.deBruijn64tab"], loops := true, apart := false, laid := [("math/bits.deBruijn32tab", laid_math_bits_deBruijn32tab), ("math/bits.deBruijn64tab", laid_math_bits_deBruijn64tab), ("internal/strconv.uint64pow10", laid_internal_strconv_uint64pow10)], narrowed := true }
def ValueNodesUptoSaid : Prop := valueNodesUptoRow.holds Tryz.pinned (OpenSpec.upto valueNodesSpec)

/-- 'plexuslaw10.ValueEncodes', WHERE WHAT IT READS IS OF BULK AT MOST 1048576: true; the input reads as it did. -/
def valueEncodesUptoRow : OpenClaim := { program := "ytmdjnaobllajmaagreatdoor", sum := "4b77d69a8206e80040dca3aba85e488a0455455215b5f8ae2b214469228ec218", func := "plexus/plexuslaw10.ValueEncodes", spec := "valueEncodes", inPlace := ["internal/bytealg.abigen_runtime_cmpstring", "internal/abi.NoEscape", "internal/bytealg.MakeNoZero"], unfollowed := true, recurses := true, named := ["internal/strconv.uint64pow10", "math/bits.deBruijn32tab", "math/bits.deBruijn64tab"], loops := true, apart := false, laid := [("math/bits.deBruijn32tab", laid_math_bits_deBruijn32tab), ("math/bits.deBruijn64tab", laid_math_bits_deBruijn64tab), ("internal/strconv.uint64pow10", laid_internal_strconv_uint64pow10)], narrowed := true }
def ValueEncodesUptoSaid : Prop := valueEncodesUptoRow.holds Tryz.pinned (OpenSpec.upto valueEncodesSpec)

/-- 'plexuslaw10.ValueDecodes', WHERE WHAT IT READS IS OF BULK AT MOST 1048576: true; the input reads as it did. -/
def valueDecodesUptoRow : OpenClaim := { program := "ytmdjnaobllajmaagreatdoor", sum := "4b77d69a8206e80040dca3aba85e488a0455455215b5f8ae2b214469228ec218", func := "plexus/plexuslaw10.ValueDecodes", spec := "valueDecodes", inPlace := ["internal/bytealg.abigen_runtime_cmpstring", "internal/abi.NoEscape", "internal/bytealg.MakeNoZero"], unfollowed := true, recurses := true, named := ["internal/strconv.uint64pow10", "math/bits.deBruijn32tab", "math/bits.deBruijn64tab"], loops := true, apart := false, laid := [("math/bits.deBruijn32tab", laid_math_bits_deBruijn32tab), ("math/bits.deBruijn64tab", laid_math_bits_deBruijn64tab), ("internal/strconv.uint64pow10", laid_internal_strconv_uint64pow10)], narrowed := true }
def ValueDecodesUptoSaid : Prop := valueDecodesUptoRow.holds Tryz.pinned (OpenSpec.upto valueDecodesSpec)

/-- 'plexuslaw10.ValuePrefix', WHERE WHAT IT READS IS OF BULK AT MOST 1048576: true; the input reads as it did. -/
def valuePrefixUptoRow : OpenClaim := { program := "ytmdjnaobllajmaagreatdoor", sum := "4b77d69a8206e80040dca3aba85e488a0455455215b5f8ae2b214469228ec218", func := "plexus/plexuslaw10.ValuePrefix", spec := "valuePrefix", inPlace := ["internal/bytealg.abigen_runtime_cmpstring", "internal/abi.NoEscape", "internal/bytealg.MakeNoZero"], unfollowed := true, recurses := true, named := ["internal/strconv.uint64pow10", "math/bits.deBruijn32tab", "math/bits.deBruijn64tab"], loops := true, apart := false, laid := [("math/bits.deBruijn32tab", laid_math_bits_deBruijn32tab), ("math/bits.deBruijn64tab", laid_math_bits_deBruijn64tab), ("internal/strconv.uint64pow10", laid_internal_strconv_uint64pow10)], narrowed := true }
def ValuePrefixUptoSaid : Prop := valuePrefixUptoRow.holds Tryz.pinned (OpenSpec.upto valuePrefixSpec)

/-- 'plexuslaw10.ValueText', WHERE WHAT IT READS IS OF BULK AT MOST 1048576: true; the input reads as it did. -/
def valueTextUptoRow : OpenClaim := { program := "ytmdjnaobllajmaagreatdoor", sum := "4b77d69a8206e80040dca3aba85e488a0455455215b5f8ae2b214469228ec218", func := "plexus/plexuslaw10.ValueText", spec := "valueText", inPlace := ["internal/bytealg.abigen_runtime_cmpstring", "internal/abi.NoEscape", "internal/bytealg.MakeNoZero"], unfollowed := true, recurses := true, named := ["internal/strconv.uint64pow10", "math/bits.deBruijn32tab", "math/bits.deBruijn64tab"], loops := true, apart := false, laid := [("math/bits.deBruijn32tab", laid_math_bits_deBruijn32tab), ("math/bits.deBruijn64tab", laid_math_bits_deBruijn64tab), ("internal/strconv.uint64pow10", laid_internal_strconv_uint64pow10)], narrowed := true }
def ValueTextUptoSaid : Prop := valueTextUptoRow.holds Tryz.pinned (OpenSpec.upto valueTextSpec)

/-- 'plexuslaw10.ValueComposes', WHERE WHAT IT READS IS OF BULK AT MOST 1048576: true; the input reads as it did. -/
def valueComposesUptoRow : OpenClaim := { program := "ytmdjnaobllajmaagreatdoor", sum := "4b77d69a8206e80040dca3aba85e488a0455455215b5f8ae2b214469228ec218", func := "plexus/plexuslaw10.ValueComposes", spec := "valueComposes", inPlace := ["internal/bytealg.abigen_runtime_cmpstring", "internal/abi.NoEscape", "internal/bytealg.MakeNoZero"], unfollowed := true, recurses := true, named := ["internal/strconv.uint64pow10", "math/bits.deBruijn32tab", "math/bits.deBruijn64tab"], loops := true, apart := false, laid := [("math/bits.deBruijn32tab", laid_math_bits_deBruijn32tab), ("math/bits.deBruijn64tab", laid_math_bits_deBruijn64tab), ("internal/strconv.uint64pow10", laid_internal_strconv_uint64pow10)], narrowed := true }
def ValueComposesUptoSaid : Prop := valueComposesUptoRow.holds Tryz.pinned (OpenSpec.upto valueComposesSpec)

/-- 'plexuslaw10.ValueBottom', WHERE WHAT IT READS IS OF BULK AT MOST 1048576: true; the input reads as it did. -/
def valueBottomUptoRow : OpenClaim := { program := "ytmdjnaobllajmaagreatdoor", sum := "4b77d69a8206e80040dca3aba85e488a0455455215b5f8ae2b214469228ec218", func := "plexus/plexuslaw10.ValueBottom", spec := "valueBottom", inPlace := ["internal/bytealg.abigen_runtime_cmpstring", "internal/abi.NoEscape", "internal/bytealg.MakeNoZero"], unfollowed := true, recurses := true, named := ["internal/strconv.uint64pow10", "math/bits.deBruijn32tab", "math/bits.deBruijn64tab"], loops := true, apart := false, laid := [("math/bits.deBruijn32tab", laid_math_bits_deBruijn32tab), ("math/bits.deBruijn64tab", laid_math_bits_deBruijn64tab), ("internal/strconv.uint64pow10", laid_internal_strconv_uint64pow10)], narrowed := true }
def ValueBottomUptoSaid : Prop := valueBottomUptoRow.holds Tryz.pinned (OpenSpec.upto valueBottomSpec)

end Rows
end Go.Proofs.YtmdjnaobllajmaaGreatDoor
