/-
  DERIVED. GIVEN WITH THE SEED: THE CARDS: each row of YtkcdkfkgjjpaaaaGreatDoorRows.lean that lists a variable, with what it lists TIED to the program's text (the seventh form; the later family's looks); each row that meets fmt, with fmt's text TOLD by the authors' own Lean function (tested against real Go, not proved from fmt's source: count such statements apart). THE CARD IS WHAT COUNTS. Prove the row's statement (the work); the ties are given (YtkcdkfkgjjpaaaaGreatDoorTie.lean); close each card by the builder's one call (the guide's Derived/Test/ToyasCard.lean, 'card_holds'). Laid BY PROGRAM, IN A SANDBOX (cutbox-door.mjs). By AI agents, Wed Nov 11 2026. No macro, syntax, notation, axiom, sorry.
-/
import Derived.Test.YtkcdkfkgjjpaaaaGreatDoorRows
import GoSem.ClaimSeven
namespace Go.Proofs.YtkcdkfkgjjpaaaaGreatDoor
namespace Rows

/-- THE TIED CARD OF 'semblancelaw16.DistinguishBounds'. -/
def distinguishBoundsCard : Claim7 := { stood := { row := distinguishBoundsRow, standIns := [], harness := (true, "640783b8a95bee0a1a9ea958b4aebd2626a11cf09f7687271e982e8569d1b72f"), looks := true }, kinds := [], alts := [], laidByText := true, laidKinds := [.data, .data, .data, .handle, .sentinel, .sentinel, .sentinel, .sentinel, .sentinel, .sentinel], laidTests := true, laidLooks := .later }
def DistinguishBoundsCardSaid : Prop := Claim7.holds Tryz.pinned (.plain (OpenSpec.ofChange distinguishBoundsSpec)) distinguishBoundsCard

/-- THE TIED CARD OF 'semblancelaw16.DistinguishGrows'. -/
def distinguishGrowsCard : Claim7 := { stood := { row := distinguishGrowsRow, standIns := [], harness := (true, "640783b8a95bee0a1a9ea958b4aebd2626a11cf09f7687271e982e8569d1b72f"), looks := true }, kinds := [], alts := [], laidByText := true, laidKinds := [.data, .data, .data, .handle, .sentinel, .sentinel, .sentinel, .sentinel, .sentinel, .sentinel], laidTests := true, laidLooks := .later }
def DistinguishGrowsCardSaid : Prop := Claim7.holds Tryz.pinned (.plain (OpenSpec.ofChange distinguishGrowsSpec)) distinguishGrowsCard

/-- THE TIED CARD OF 'semblancelaw16.DistinguishBounded'. -/
def distinguishBoundedCard : Claim7 := { stood := { row := distinguishBoundedRow, standIns := [], harness := (true, "640783b8a95bee0a1a9ea958b4aebd2626a11cf09f7687271e982e8569d1b72f"), looks := true }, kinds := [], alts := [], laidByText := true, laidKinds := [.data, .data, .data, .handle, .sentinel, .sentinel, .sentinel, .sentinel, .sentinel, .sentinel], laidTests := true, laidLooks := .later }
def DistinguishBoundedCardSaid : Prop := Claim7.holds Tryz.pinned (.plain (OpenSpec.ofChange distinguishBoundedSpec)) distinguishBoundedCard

/-- THE TIED CARD OF 'semblancelaw16.DistinguishCompares'. -/
def distinguishComparesCard : Claim7 := { stood := { row := distinguishComparesRow, standIns := [], harness := (true, "640783b8a95bee0a1a9ea958b4aebd2626a11cf09f7687271e982e8569d1b72f"), looks := true }, kinds := [], alts := [], laidByText := true, laidKinds := [.data, .data, .data, .handle, .sentinel, .sentinel, .sentinel, .sentinel, .sentinel, .sentinel, .sentinel, .sentinel, .sentinel, .sentinel, .sentinel, .sentinel, .sentinel, .sentinel, .sentinel, .sentinel, .sentinel, .sentinel, .sentinel], laidTests := true, laidLooks := .later }
def DistinguishComparesCardSaid : Prop := Claim7.holds Tryz.pinned (.plain (OpenSpec.ofChange distinguishComparesSpec)) distinguishComparesCard

/-- THE TIED CARD OF 'semblancelaw16.DistinguishLong'. -/
def distinguishLongCard : Claim7 := { stood := { row := distinguishLongRow, standIns := [], harness := (true, "640783b8a95bee0a1a9ea958b4aebd2626a11cf09f7687271e982e8569d1b72f"), looks := true }, kinds := [], alts := [], laidByText := true, laidKinds := [.data, .data, .data, .handle, .sentinel, .sentinel, .sentinel, .sentinel, .sentinel, .sentinel], laidTests := true, laidLooks := .later }
def DistinguishLongCardSaid : Prop := Claim7.holds Tryz.pinned (.plain (OpenSpec.ofChange distinguishLongSpec)) distinguishLongCard

/-- THE TIED CARD OF 'semblancelaw16.DistinguishTells'. -/
def distinguishTellsCard : Claim7 := { stood := { row := distinguishTellsRow, standIns := [], harness := (true, "640783b8a95bee0a1a9ea958b4aebd2626a11cf09f7687271e982e8569d1b72f"), looks := true }, kinds := [], alts := [], laidByText := true, laidKinds := [.data, .data, .data, .handle, .sentinel, .sentinel, .sentinel, .sentinel, .sentinel, .sentinel, .sentinel], laidTests := true, laidLooks := .later }
def DistinguishTellsCardSaid : Prop := Claim7.holds Tryz.pinned (.plain (OpenSpec.ofChange distinguishTellsSpec)) distinguishTellsCard

/-- THE SECOND FORM's CARD OF 'semblancelaw16.DistinguishBounds'. -/
def distinguishBoundsUptoCard : Claim7 := { stood := { row := distinguishBoundsUptoRow, standIns := [], harness := (true, "640783b8a95bee0a1a9ea958b4aebd2626a11cf09f7687271e982e8569d1b72f"), looks := true }, kinds := [], alts := [], laidByText := true, laidKinds := [.data, .data, .data, .handle, .sentinel, .sentinel, .sentinel, .sentinel, .sentinel, .sentinel], laidTests := true, laidLooks := .later }
def DistinguishBoundsUptoCardSaid : Prop := Claim7.holds Tryz.pinned (.plain (OpenSpec.upto distinguishBoundsSpec)) distinguishBoundsUptoCard

/-- THE SECOND FORM's CARD OF 'semblancelaw16.DistinguishGrows'. -/
def distinguishGrowsUptoCard : Claim7 := { stood := { row := distinguishGrowsUptoRow, standIns := [], harness := (true, "640783b8a95bee0a1a9ea958b4aebd2626a11cf09f7687271e982e8569d1b72f"), looks := true }, kinds := [], alts := [], laidByText := true, laidKinds := [.data, .data, .data, .handle, .sentinel, .sentinel, .sentinel, .sentinel, .sentinel, .sentinel], laidTests := true, laidLooks := .later }
def DistinguishGrowsUptoCardSaid : Prop := Claim7.holds Tryz.pinned (.plain (OpenSpec.upto distinguishGrowsSpec)) distinguishGrowsUptoCard

/-- THE SECOND FORM's CARD OF 'semblancelaw16.DistinguishBounded'. -/
def distinguishBoundedUptoCard : Claim7 := { stood := { row := distinguishBoundedUptoRow, standIns := [], harness := (true, "640783b8a95bee0a1a9ea958b4aebd2626a11cf09f7687271e982e8569d1b72f"), looks := true }, kinds := [], alts := [], laidByText := true, laidKinds := [.data, .data, .data, .handle, .sentinel, .sentinel, .sentinel, .sentinel, .sentinel, .sentinel], laidTests := true, laidLooks := .later }
def DistinguishBoundedUptoCardSaid : Prop := Claim7.holds Tryz.pinned (.plain (OpenSpec.upto distinguishBoundedSpec)) distinguishBoundedUptoCard

/-- THE SECOND FORM's CARD OF 'semblancelaw16.DistinguishCompares'. -/
def distinguishComparesUptoCard : Claim7 := { stood := { row := distinguishComparesUptoRow, standIns := [], harness := (true, "640783b8a95bee0a1a9ea958b4aebd2626a11cf09f7687271e982e8569d1b72f"), looks := true }, kinds := [], alts := [], laidByText := true, laidKinds := [.data, .data, .data, .handle, .sentinel, .sentinel, .sentinel, .sentinel, .sentinel, .sentinel, .sentinel, .sentinel, .sentinel, .sentinel, .sentinel, .sentinel, .sentinel, .sentinel, .sentinel, .sentinel, .sentinel, .sentinel, .sentinel], laidTests := true, laidLooks := .later }
def DistinguishComparesUptoCardSaid : Prop := Claim7.holds Tryz.pinned (.plain (OpenSpec.upto distinguishComparesSpec)) distinguishComparesUptoCard

/-- THE SECOND FORM's CARD OF 'semblancelaw16.DistinguishLong'. -/
def distinguishLongUptoCard : Claim7 := { stood := { row := distinguishLongUptoRow, standIns := [], harness := (true, "640783b8a95bee0a1a9ea958b4aebd2626a11cf09f7687271e982e8569d1b72f"), looks := true }, kinds := [], alts := [], laidByText := true, laidKinds := [.data, .data, .data, .handle, .sentinel, .sentinel, .sentinel, .sentinel, .sentinel, .sentinel], laidTests := true, laidLooks := .later }
def DistinguishLongUptoCardSaid : Prop := Claim7.holds Tryz.pinned (.plain (OpenSpec.upto distinguishLongSpec)) distinguishLongUptoCard

/-- THE SECOND FORM's CARD OF 'semblancelaw16.DistinguishTells'. -/
def distinguishTellsUptoCard : Claim7 := { stood := { row := distinguishTellsUptoRow, standIns := [], harness := (true, "640783b8a95bee0a1a9ea958b4aebd2626a11cf09f7687271e982e8569d1b72f"), looks := true }, kinds := [], alts := [], laidByText := true, laidKinds := [.data, .data, .data, .handle, .sentinel, .sentinel, .sentinel, .sentinel, .sentinel, .sentinel, .sentinel], laidTests := true, laidLooks := .later }
def DistinguishTellsUptoCardSaid : Prop := Claim7.holds Tryz.pinned (.plain (OpenSpec.upto distinguishTellsSpec)) distinguishTellsUptoCard
end Rows
end Go.Proofs.YtkcdkfkgjjpaaaaGreatDoor
