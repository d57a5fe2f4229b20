/-
  DERIVED. GIVEN WITH THE SEED: THE CARDS: each row of YtgkjcmglcnhpaaaGreatDoorRows.lean that lists a variable, with what it lists TIED to the program's text (the seventh form; the later family's looks); each row that meets fmt, with fmt's text TOLD by the authors' own Lean function (tested against real Go, not proved from fmt's source: count such statements apart). THE CARD IS WHAT COUNTS. Prove the row's statement (the work); the ties are given (YtgkjcmglcnhpaaaGreatDoorTie.lean); close each card by the builder's one call (the guide's Derived/Test/ToyasCard.lean, 'card_holds'). Laid BY PROGRAM, IN A SANDBOX (cutbox-door.mjs). By AI agents, Wed Nov 11 2026. No macro, syntax, notation, axiom, sorry.
-/
import Derived.Test.YtgkjcmglcnhpaaaGreatDoorRows
import GoSem.ClaimSeven
namespace Go.Proofs.YtgkjcmglcnhpaaaGreatDoor
namespace Rows

/-- THE TIED CARD OF 'plexuslaw37.CommandGenesis'. -/
def commandGenesisCard : Claim7 := { stood := { row := commandGenesisRow, standIns := [], harness := (true, "b1e30e36b32608e5d1f92f4fa1ae1e868cfe39f7e9774eb716301994fb4702a2"), looks := false }, kinds := [], alts := [], laidByText := true, laidKinds := [.data], laidTests := true, laidLooks := .later }
def CommandGenesisCardSaid : Prop := Claim7.holds Tryz.pinned (.plain (OpenSpec.ofChange commandGenesisSpec)) commandGenesisCard

/-- THE TIED CARD OF 'plexuslaw37.CommandEncodes'. -/
def commandEncodesCard : Claim7 := { stood := { row := commandEncodesRow, standIns := [], harness := (true, "b1e30e36b32608e5d1f92f4fa1ae1e868cfe39f7e9774eb716301994fb4702a2"), looks := false }, kinds := [], alts := [], laidByText := true, laidKinds := [.data], laidTests := true, laidLooks := .later }
def CommandEncodesCardSaid : Prop := Claim7.holds Tryz.pinned (.plain (OpenSpec.ofChange commandEncodesSpec)) commandEncodesCard

/-- THE TIED CARD OF 'plexuslaw37.CommandDecodes'. -/
def commandDecodesCard : Claim7 := { stood := { row := commandDecodesRow, standIns := [], harness := (true, "b1e30e36b32608e5d1f92f4fa1ae1e868cfe39f7e9774eb716301994fb4702a2"), looks := false }, kinds := [], alts := [], laidByText := true, laidKinds := [.data], laidTests := true, laidLooks := .later }
def CommandDecodesCardSaid : Prop := Claim7.holds Tryz.pinned (.plain (OpenSpec.ofChange commandDecodesSpec)) commandDecodesCard

/-- THE TIED CARD OF 'plexuslaw37.CommandChecks'. -/
def commandChecksCard : Claim7 := { stood := { row := commandChecksRow, standIns := [], harness := (true, "b1e30e36b32608e5d1f92f4fa1ae1e868cfe39f7e9774eb716301994fb4702a2"), looks := false }, kinds := [], alts := [], laidByText := true, laidKinds := [.data], laidTests := true, laidLooks := .later }
def CommandChecksCardSaid : Prop := Claim7.holds Tryz.pinned (.plain (OpenSpec.ofChange commandChecksSpec)) commandChecksCard

/-- THE TIED CARD OF 'plexuslaw37.CommandTag'. -/
def commandTagCard : Claim7 := { stood := { row := commandTagRow, standIns := [], harness := (true, "b1e30e36b32608e5d1f92f4fa1ae1e868cfe39f7e9774eb716301994fb4702a2"), looks := false }, kinds := [], alts := [], laidByText := true, laidKinds := [.data], laidTests := true, laidLooks := .later }
def CommandTagCardSaid : Prop := Claim7.holds Tryz.pinned (.plain (OpenSpec.ofChange commandTagSpec)) commandTagCard

/-- THE TIED CARD OF 'plexuslaw37.CommandReads'. -/
def commandReadsCard : Claim7 := { stood := { row := commandReadsRow, standIns := [], harness := (true, "b1e30e36b32608e5d1f92f4fa1ae1e868cfe39f7e9774eb716301994fb4702a2"), looks := false }, kinds := [], alts := [], laidByText := true, laidKinds := [.data], laidTests := true, laidLooks := .later }
def CommandReadsCardSaid : Prop := Claim7.holds Tryz.pinned (.plain (OpenSpec.ofChange commandReadsSpec)) commandReadsCard

/-- THE TIED CARD OF 'plexuslaw37.CommandOrder'. -/
def commandOrderCard : Claim7 := { stood := { row := commandOrderRow, standIns := [], harness := (true, "b1e30e36b32608e5d1f92f4fa1ae1e868cfe39f7e9774eb716301994fb4702a2"), looks := false }, kinds := [], alts := [], laidByText := true, laidKinds := [.data], laidTests := true, laidLooks := .later }
def CommandOrderCardSaid : Prop := Claim7.holds Tryz.pinned (.plain (OpenSpec.ofChange commandOrderSpec)) commandOrderCard

/-- THE TIED CARD OF 'plexuslaw37.CommandSigns'. -/
def commandSignsCard : Claim7 := { stood := { row := commandSignsRow, standIns := [], harness := (true, "b1e30e36b32608e5d1f92f4fa1ae1e868cfe39f7e9774eb716301994fb4702a2"), looks := false }, kinds := [], alts := [], laidByText := true, laidKinds := [.data], laidTests := true, laidLooks := .later }
def CommandSignsCardSaid : Prop := Claim7.holds Tryz.pinned (.plain (OpenSpec.ofChange commandSignsSpec)) commandSignsCard

/-- THE SECOND FORM's CARD OF 'plexuslaw37.CommandGenesis'. -/
def commandGenesisUptoCard : Claim7 := { stood := { row := commandGenesisUptoRow, standIns := [], harness := (true, "b1e30e36b32608e5d1f92f4fa1ae1e868cfe39f7e9774eb716301994fb4702a2"), looks := false }, kinds := [], alts := [], laidByText := true, laidKinds := [.data], laidTests := true, laidLooks := .later }
def CommandGenesisUptoCardSaid : Prop := Claim7.holds Tryz.pinned (.plain (OpenSpec.upto commandGenesisSpec)) commandGenesisUptoCard

/-- THE SECOND FORM's CARD OF 'plexuslaw37.CommandEncodes'. -/
def commandEncodesUptoCard : Claim7 := { stood := { row := commandEncodesUptoRow, standIns := [], harness := (true, "b1e30e36b32608e5d1f92f4fa1ae1e868cfe39f7e9774eb716301994fb4702a2"), looks := false }, kinds := [], alts := [], laidByText := true, laidKinds := [.data], laidTests := true, laidLooks := .later }
def CommandEncodesUptoCardSaid : Prop := Claim7.holds Tryz.pinned (.plain (OpenSpec.upto commandEncodesSpec)) commandEncodesUptoCard

/-- THE SECOND FORM's CARD OF 'plexuslaw37.CommandDecodes'. -/
def commandDecodesUptoCard : Claim7 := { stood := { row := commandDecodesUptoRow, standIns := [], harness := (true, "b1e30e36b32608e5d1f92f4fa1ae1e868cfe39f7e9774eb716301994fb4702a2"), looks := false }, kinds := [], alts := [], laidByText := true, laidKinds := [.data], laidTests := true, laidLooks := .later }
def CommandDecodesUptoCardSaid : Prop := Claim7.holds Tryz.pinned (.plain (OpenSpec.upto commandDecodesSpec)) commandDecodesUptoCard

/-- THE SECOND FORM's CARD OF 'plexuslaw37.CommandChecks'. -/
def commandChecksUptoCard : Claim7 := { stood := { row := commandChecksUptoRow, standIns := [], harness := (true, "b1e30e36b32608e5d1f92f4fa1ae1e868cfe39f7e9774eb716301994fb4702a2"), looks := false }, kinds := [], alts := [], laidByText := true, laidKinds := [.data], laidTests := true, laidLooks := .later }
def CommandChecksUptoCardSaid : Prop := Claim7.holds Tryz.pinned (.plain (OpenSpec.upto commandChecksSpec)) commandChecksUptoCard

/-- THE SECOND FORM's CARD OF 'plexuslaw37.CommandTag'. -/
def commandTagUptoCard : Claim7 := { stood := { row := commandTagUptoRow, standIns := [], harness := (true, "b1e30e36b32608e5d1f92f4fa1ae1e868cfe39f7e9774eb716301994fb4702a2"), looks := false }, kinds := [], alts := [], laidByText := true, laidKinds := [.data], laidTests := true, laidLooks := .later }
def CommandTagUptoCardSaid : Prop := Claim7.holds Tryz.pinned (.plain (OpenSpec.upto commandTagSpec)) commandTagUptoCard

/-- THE SECOND FORM's CARD OF 'plexuslaw37.CommandReads'. -/
def commandReadsUptoCard : Claim7 := { stood := { row := commandReadsUptoRow, standIns := [], harness := (true, "b1e30e36b32608e5d1f92f4fa1ae1e868cfe39f7e9774eb716301994fb4702a2"), looks := false }, kinds := [], alts := [], laidByText := true, laidKinds := [.data], laidTests := true, laidLooks := .later }
def CommandReadsUptoCardSaid : Prop := Claim7.holds Tryz.pinned (.plain (OpenSpec.upto commandReadsSpec)) commandReadsUptoCard

/-- THE SECOND FORM's CARD OF 'plexuslaw37.CommandOrder'. -/
def commandOrderUptoCard : Claim7 := { stood := { row := commandOrderUptoRow, standIns := [], harness := (true, "b1e30e36b32608e5d1f92f4fa1ae1e868cfe39f7e9774eb716301994fb4702a2"), looks := false }, kinds := [], alts := [], laidByText := true, laidKinds := [.data], laidTests := true, laidLooks := .later }
def CommandOrderUptoCardSaid : Prop := Claim7.holds Tryz.pinned (.plain (OpenSpec.upto commandOrderSpec)) commandOrderUptoCard

/-- THE SECOND FORM's CARD OF 'plexuslaw37.CommandSigns'. -/
def commandSignsUptoCard : Claim7 := { stood := { row := commandSignsUptoRow, standIns := [], harness := (true, "b1e30e36b32608e5d1f92f4fa1ae1e868cfe39f7e9774eb716301994fb4702a2"), looks := false }, kinds := [], alts := [], laidByText := true, laidKinds := [.data], laidTests := true, laidLooks := .later }
def CommandSignsUptoCardSaid : Prop := Claim7.holds Tryz.pinned (.plain (OpenSpec.upto commandSignsSpec)) commandSignsUptoCard
end Rows
end Go.Proofs.YtgkjcmglcnhpaaaGreatDoor
