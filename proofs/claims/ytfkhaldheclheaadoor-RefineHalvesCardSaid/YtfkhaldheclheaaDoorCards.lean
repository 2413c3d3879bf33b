/-
  DERIVED. GIVEN WITH THE SEED: THE CARDS: each row of YtfkhaldheclheaaDoorRows.lean that lists a variable, with what it lists TIED to the program's text (the seventh form; the later family's looks); each row that meets fmt, with fmt's text TOLD by the authors' own Lean function (tested against real Go, not proved from fmt's source: count such statements apart). THE CARD IS WHAT COUNTS. Prove the row's statement (the work); the ties are given (YtfkhaldheclheaaDoorTie.lean); close each card by the builder's one call (the guide's Derived/Test/ToyasCard.lean, 'card_holds'). Laid BY PROGRAM, IN A SANDBOX (cutbox-door.mjs). By AI agents, Wed Nov 11 2026. No macro, syntax, notation, axiom, sorry.
-/
import Derived.Test.YtfkhaldheclheaaDoorRows
import GoSem.ClaimSeven
namespace Go.Proofs.YtfkhaldheclheaaDoor
namespace Rows

/-- THE TIED CARD OF 'semblancelaw8.RefineAs'. -/
def refineAsCard : Claim7 := { stood := { row := refineAsRow, standIns := [], harness := (true, "1e66a3270406fa25359c71b4599ddd46d61d5d5ecf6f1cd934c1512319a4734a"), looks := true }, kinds := [], alts := [], laidByText := true, laidKinds := [.handle, .sentinel, .sentinel, .sentinel, .sentinel, .sentinel, .sentinel, .sentinel, .sentinel, .sentinel, .sentinel, .sentinel, .sentinel, .sentinel, .sentinel, .sentinel, .sentinel, .sentinel, .sentinel, .sentinel], laidTests := true, laidLooks := .later }
def RefineAsCardSaid : Prop := Claim7.holds Tryd.pinned (.plain (OpenSpec.ofChange refineAsSpec)) refineAsCard

/-- THE TIED CARD OF 'semblancelaw8.RefineHalves'. -/
def refineHalvesCard : Claim7 := { stood := { row := refineHalvesRow, standIns := [], harness := (true, "1e66a3270406fa25359c71b4599ddd46d61d5d5ecf6f1cd934c1512319a4734a"), looks := true }, kinds := [], alts := [], laidByText := true, laidKinds := [.handle, .sentinel, .sentinel], laidTests := true, laidLooks := .later }
def RefineHalvesCardSaid : Prop := Claim7.holds Tryd.pinned (.plain (OpenSpec.ofChange refineHalvesSpec)) refineHalvesCard

/-- THE TIED CARD OF 'semblancelaw8.RefineParts'. -/
def refinePartsCard : Claim7 := { stood := { row := refinePartsRow, standIns := [], harness := (true, "1e66a3270406fa25359c71b4599ddd46d61d5d5ecf6f1cd934c1512319a4734a"), looks := true }, kinds := [], alts := [], laidByText := true, laidKinds := [.handle, .sentinel, .sentinel], laidTests := true, laidLooks := .later }
def RefinePartsCardSaid : Prop := Claim7.holds Tryd.pinned (.plain (OpenSpec.ofChange refinePartsSpec)) refinePartsCard

/-- THE SECOND FORM's CARD OF 'semblancelaw8.RefineAs'. -/
def refineAsUptoCard : Claim7 := { stood := { row := refineAsUptoRow, standIns := [], harness := (true, "1e66a3270406fa25359c71b4599ddd46d61d5d5ecf6f1cd934c1512319a4734a"), looks := true }, kinds := [], alts := [], laidByText := true, laidKinds := [.handle, .sentinel, .sentinel, .sentinel, .sentinel, .sentinel, .sentinel, .sentinel, .sentinel, .sentinel, .sentinel, .sentinel, .sentinel, .sentinel, .sentinel, .sentinel, .sentinel, .sentinel, .sentinel, .sentinel], laidTests := true, laidLooks := .later }
def RefineAsUptoCardSaid : Prop := Claim7.holds Tryd.pinned (.plain (OpenSpec.upto refineAsSpec)) refineAsUptoCard

/-- THE SECOND FORM's CARD OF 'semblancelaw8.RefineHalves'. -/
def refineHalvesUptoCard : Claim7 := { stood := { row := refineHalvesUptoRow, standIns := [], harness := (true, "1e66a3270406fa25359c71b4599ddd46d61d5d5ecf6f1cd934c1512319a4734a"), looks := true }, kinds := [], alts := [], laidByText := true, laidKinds := [.handle, .sentinel, .sentinel], laidTests := true, laidLooks := .later }
def RefineHalvesUptoCardSaid : Prop := Claim7.holds Tryd.pinned (.plain (OpenSpec.upto refineHalvesSpec)) refineHalvesUptoCard

/-- THE SECOND FORM's CARD OF 'semblancelaw8.RefineParts'. -/
def refinePartsUptoCard : Claim7 := { stood := { row := refinePartsUptoRow, standIns := [], harness := (true, "1e66a3270406fa25359c71b4599ddd46d61d5d5ecf6f1cd934c1512319a4734a"), looks := true }, kinds := [], alts := [], laidByText := true, laidKinds := [.handle, .sentinel, .sentinel], laidTests := true, laidLooks := .later }
def RefinePartsUptoCardSaid : Prop := Claim7.holds Tryd.pinned (.plain (OpenSpec.upto refinePartsSpec)) refinePartsUptoCard
end Rows
end Go.Proofs.YtfkhaldheclheaaDoor
