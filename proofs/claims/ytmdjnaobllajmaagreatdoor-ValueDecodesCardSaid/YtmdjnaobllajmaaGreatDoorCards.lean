/-
  DERIVED. GIVEN WITH THE SEED: THE CARDS: each row of YtmdjnaobllajmaaGreatDoorRows.lean that lists a variable, with what it lists TIED to the program's text (the seventh form; the later family's looks); each row that meets fmt, with fmt's text TOLD by the authors' own Lean function (tested against real Go, not proved from fmt's source: count such statements apart). THE CARD IS WHAT COUNTS. Prove the row's statement (the work); the ties are given (YtmdjnaobllajmaaGreatDoorTie.lean); close each card by the builder's one call (the guide's Derived/Test/ToyasCard.lean, 'card_holds'). Laid BY PROGRAM, IN A SANDBOX (cutbox-door.mjs). By AI agents, Wed Nov 11 2026. No macro, syntax, notation, axiom, sorry.
-/
import Derived.Test.YtmdjnaobllajmaaGreatDoorRows
import GoSem.ClaimSeven
namespace Go.Proofs.YtmdjnaobllajmaaGreatDoor
namespace Rows

/-- THE TIED CARD OF 'plexuslaw10.ValueValid'. -/
def valueValidCard : Claim7 := { stood := { row := valueValidRow, standIns := [], harness := (true, "aa0a2c672dba4d057e64be7c04a45d426136180cda7e14d47d9ccd0ed912cc39"), looks := false }, kinds := [], alts := [], laidByText := true, laidKinds := [.data, .data, .data], laidTests := true, laidLooks := .later }
def ValueValidCardSaid : Prop := Claim7.holds Tryz.pinned (.plain (OpenSpec.ofChange valueValidSpec)) valueValidCard

/-- THE TIED CARD OF 'plexuslaw10.ValueTop'. -/
def valueTopCard : Claim7 := { stood := { row := valueTopRow, standIns := [], harness := (true, "aa0a2c672dba4d057e64be7c04a45d426136180cda7e14d47d9ccd0ed912cc39"), looks := false }, kinds := [], alts := [], laidByText := true, laidKinds := [.data, .data, .data], laidTests := true, laidLooks := .later }
def ValueTopCardSaid : Prop := Claim7.holds Tryz.pinned (.plain (OpenSpec.ofChange valueTopSpec)) valueTopCard

/-- THE TIED CARD OF 'plexuslaw10.ValueOrder'. -/
def valueOrderCard : Claim7 := { stood := { row := valueOrderRow, standIns := [], harness := (true, "aa0a2c672dba4d057e64be7c04a45d426136180cda7e14d47d9ccd0ed912cc39"), looks := false }, kinds := [], alts := [], laidByText := true, laidKinds := [.data, .data, .data], laidTests := true, laidLooks := .later }
def ValueOrderCardSaid : Prop := Claim7.holds Tryz.pinned (.plain (OpenSpec.ofChange valueOrderSpec)) valueOrderCard

/-- THE TIED CARD OF 'plexuslaw10.ValueNodes'. -/
def valueNodesCard : Claim7 := { stood := { row := valueNodesRow, standIns := [], harness := (true, "aa0a2c672dba4d057e64be7c04a45d426136180cda7e14d47d9ccd0ed912cc39"), looks := false }, kinds := [], alts := [], laidByText := true, laidKinds := [.data, .data, .data], laidTests := true, laidLooks := .later }
def ValueNodesCardSaid : Prop := Claim7.holds Tryz.pinned (.plain (OpenSpec.ofChange valueNodesSpec)) valueNodesCard

/-- THE TIED CARD OF 'plexuslaw10.ValueEncodes'. -/
def valueEncodesCard : Claim7 := { stood := { row := valueEncodesRow, standIns := [], harness := (true, "aa0a2c672dba4d057e64be7c04a45d426136180cda7e14d47d9ccd0ed912cc39"), looks := false }, kinds := [], alts := [], laidByText := true, laidKinds := [.data, .data, .data], laidTests := true, laidLooks := .later }
def ValueEncodesCardSaid : Prop := Claim7.holds Tryz.pinned (.plain (OpenSpec.ofChange valueEncodesSpec)) valueEncodesCard

/-- THE TIED CARD OF 'plexuslaw10.ValueDecodes'. -/
def valueDecodesCard : Claim7 := { stood := { row := valueDecodesRow, standIns := [], harness := (true, "aa0a2c672dba4d057e64be7c04a45d426136180cda7e14d47d9ccd0ed912cc39"), looks := false }, kinds := [], alts := [], laidByText := true, laidKinds := [.data, .data, .data], laidTests := true, laidLooks := .later }
def ValueDecodesCardSaid : Prop := Claim7.holds Tryz.pinned (.plain (OpenSpec.ofChange valueDecodesSpec)) valueDecodesCard

/-- THE TIED CARD OF 'plexuslaw10.ValuePrefix'. -/
def valuePrefixCard : Claim7 := { stood := { row := valuePrefixRow, standIns := [], harness := (true, "aa0a2c672dba4d057e64be7c04a45d426136180cda7e14d47d9ccd0ed912cc39"), looks := false }, kinds := [], alts := [], laidByText := true, laidKinds := [.data, .data, .data], laidTests := true, laidLooks := .later }
def ValuePrefixCardSaid : Prop := Claim7.holds Tryz.pinned (.plain (OpenSpec.ofChange valuePrefixSpec)) valuePrefixCard

/-- THE TIED CARD OF 'plexuslaw10.ValueText'. -/
def valueTextCard : Claim7 := { stood := { row := valueTextRow, standIns := [], harness := (true, "aa0a2c672dba4d057e64be7c04a45d426136180cda7e14d47d9ccd0ed912cc39"), looks := false }, kinds := [], alts := [], laidByText := true, laidKinds := [.data, .data, .data], laidTests := true, laidLooks := .later }
def ValueTextCardSaid : Prop := Claim7.holds Tryz.pinned (.plain (OpenSpec.ofChange valueTextSpec)) valueTextCard

/-- THE TIED CARD OF 'plexuslaw10.ValueComposes'. -/
def valueComposesCard : Claim7 := { stood := { row := valueComposesRow, standIns := [], harness := (true, "aa0a2c672dba4d057e64be7c04a45d426136180cda7e14d47d9ccd0ed912cc39"), looks := false }, kinds := [], alts := [], laidByText := true, laidKinds := [.data, .data, .data], laidTests := true, laidLooks := .later }
def ValueComposesCardSaid : Prop := Claim7.holds Tryz.pinned (.plain (OpenSpec.ofChange valueComposesSpec)) valueComposesCard

/-- THE TIED CARD OF 'plexuslaw10.ValueBottom'. -/
def valueBottomCard : Claim7 := { stood := { row := valueBottomRow, standIns := [], harness := (true, "aa0a2c672dba4d057e64be7c04a45d426136180cda7e14d47d9ccd0ed912cc39"), looks := false }, kinds := [], alts := [], laidByText := true, laidKinds := [.data, .data, .data], laidTests := true, laidLooks := .later }
def ValueBottomCardSaid : Prop := Claim7.holds Tryz.pinned (.plain (OpenSpec.ofChange valueBottomSpec)) valueBottomCard

/-- THE SECOND FORM's CARD OF 'plexuslaw10.ValueValid'. -/
def valueValidUptoCard : Claim7 := { stood := { row := valueValidUptoRow, standIns := [], harness := (true, "aa0a2c672dba4d057e64be7c04a45d426136180cda7e14d47d9ccd0ed912cc39"), looks := false }, kinds := [], alts := [], laidByText := true, laidKinds := [.data, .data, .data], laidTests := true, laidLooks := .later }
def ValueValidUptoCardSaid : Prop := Claim7.holds Tryz.pinned (.plain (OpenSpec.upto valueValidSpec)) valueValidUptoCard

/-- THE SECOND FORM's CARD OF 'plexuslaw10.ValueTop'. -/
def valueTopUptoCard : Claim7 := { stood := { row := valueTopUptoRow, standIns := [], harness := (true, "aa0a2c672dba4d057e64be7c04a45d426136180cda7e14d47d9ccd0ed912cc39"), looks := false }, kinds := [], alts := [], laidByText := true, laidKinds := [.data, .data, .data], laidTests := true, laidLooks := .later }
def ValueTopUptoCardSaid : Prop := Claim7.holds Tryz.pinned (.plain (OpenSpec.upto valueTopSpec)) valueTopUptoCard

/-- THE SECOND FORM's CARD OF 'plexuslaw10.ValueOrder'. -/
def valueOrderUptoCard : Claim7 := { stood := { row := valueOrderUptoRow, standIns := [], harness := (true, "aa0a2c672dba4d057e64be7c04a45d426136180cda7e14d47d9ccd0ed912cc39"), looks := false }, kinds := [], alts := [], laidByText := true, laidKinds := [.data, .data, .data], laidTests := true, laidLooks := .later }
def ValueOrderUptoCardSaid : Prop := Claim7.holds Tryz.pinned (.plain (OpenSpec.upto valueOrderSpec)) valueOrderUptoCard

/-- THE SECOND FORM's CARD OF 'plexuslaw10.ValueNodes'. -/
def valueNodesUptoCard : Claim7 := { stood := { row := valueNodesUptoRow, standIns := [], harness := (true, "aa0a2c672dba4d057e64be7c04a45d426136180cda7e14d47d9ccd0ed912cc39"), looks := false }, kinds := [], alts := [], laidByText := true, laidKinds := [.data, .data, .data], laidTests := true, laidLooks := .later }
def ValueNodesUptoCardSaid : Prop := Claim7.holds Tryz.pinned (.plain (OpenSpec.upto valueNodesSpec)) valueNodesUptoCard

/-- THE SECOND FORM's CARD OF 'plexuslaw10.ValueEncodes'. -/
def valueEncodesUptoCard : Claim7 := { stood := { row := valueEncodesUptoRow, standIns := [], harness := (true, "aa0a2c672dba4d057e64be7c04a45d426136180cda7e14d47d9ccd0ed912cc39"), looks := false }, kinds := [], alts := [], laidByText := true, laidKinds := [.data, .data, .data], laidTests := true, laidLooks := .later }
def ValueEncodesUptoCardSaid : Prop := Claim7.holds Tryz.pinned (.plain (OpenSpec.upto valueEncodesSpec)) valueEncodesUptoCard

/-- THE SECOND FORM's CARD OF 'plexuslaw10.ValueDecodes'. -/
def valueDecodesUptoCard : Claim7 := { stood := { row := valueDecodesUptoRow, standIns := [], harness := (true, "aa0a2c672dba4d057e64be7c04a45d426136180cda7e14d47d9ccd0ed912cc39"), looks := false }, kinds := [], alts := [], laidByText := true, laidKinds := [.data, .data, .data], laidTests := true, laidLooks := .later }
def ValueDecodesUptoCardSaid : Prop := Claim7.holds Tryz.pinned (.plain (OpenSpec.upto valueDecodesSpec)) valueDecodesUptoCard

/-- THE SECOND FORM's CARD OF 'plexuslaw10.ValuePrefix'. -/
def valuePrefixUptoCard : Claim7 := { stood := { row := valuePrefixUptoRow, standIns := [], harness := (true, "aa0a2c672dba4d057e64be7c04a45d426136180cda7e14d47d9ccd0ed912cc39"), looks := false }, kinds := [], alts := [], laidByText := true, laidKinds := [.data, .data, .data], laidTests := true, laidLooks := .later }
def ValuePrefixUptoCardSaid : Prop := Claim7.holds Tryz.pinned (.plain (OpenSpec.upto valuePrefixSpec)) valuePrefixUptoCard

/-- THE SECOND FORM's CARD OF 'plexuslaw10.ValueText'. -/
def valueTextUptoCard : Claim7 := { stood := { row := valueTextUptoRow, standIns := [], harness := (true, "aa0a2c672dba4d057e64be7c04a45d426136180cda7e14d47d9ccd0ed912cc39"), looks := false }, kinds := [], alts := [], laidByText := true, laidKinds := [.data, .data, .data], laidTests := true, laidLooks := .later }
def ValueTextUptoCardSaid : Prop := Claim7.holds Tryz.pinned (.plain (OpenSpec.upto valueTextSpec)) valueTextUptoCard

/-- THE SECOND FORM's CARD OF 'plexuslaw10.ValueComposes'. -/
def valueComposesUptoCard : Claim7 := { stood := { row := valueComposesUptoRow, standIns := [], harness := (true, "aa0a2c672dba4d057e64be7c04a45d426136180cda7e14d47d9ccd0ed912cc39"), looks := false }, kinds := [], alts := [], laidByText := true, laidKinds := [.data, .data, .data], laidTests := true, laidLooks := .later }
def ValueComposesUptoCardSaid : Prop := Claim7.holds Tryz.pinned (.plain (OpenSpec.upto valueComposesSpec)) valueComposesUptoCard

/-- THE SECOND FORM's CARD OF 'plexuslaw10.ValueBottom'. -/
def valueBottomUptoCard : Claim7 := { stood := { row := valueBottomUptoRow, standIns := [], harness := (true, "aa0a2c672dba4d057e64be7c04a45d426136180cda7e14d47d9ccd0ed912cc39"), looks := false }, kinds := [], alts := [], laidByText := true, laidKinds := [.data, .data, .data], laidTests := true, laidLooks := .later }
def ValueBottomUptoCardSaid : Prop := Claim7.holds Tryz.pinned (.plain (OpenSpec.upto valueBottomSpec)) valueBottomUptoCard
end Rows
end Go.Proofs.YtmdjnaobllajmaaGreatDoor
