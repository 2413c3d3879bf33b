/-
  DERIVED. GIVEN WITH THE SEED: THE CARDS: each row of YtfkhaldheclheaaGreatDoorRows.lean that lists a variable, with what it lists TIED to the program's text (the seventh form; the later family's looks); each row that meets fmt, with fmt's text TOLD by the authors' own Lean function (tested against real Go, not proved from fmt's source: count such statements apart). THE CARD IS WHAT COUNTS. Prove the row's statement (the work); the ties are given (YtfkhaldheclheaaGreatDoorTie.lean); close each card by the builder's one call (the guide's Derived/Test/ToyasCard.lean, 'card_holds'). Laid BY PROGRAM, IN A SANDBOX (cutbox-door.mjs). By AI agents, Wed Nov 11 2026. No macro, syntax, notation, axiom, sorry.
-/
import Derived.Test.YtfkhaldheclheaaGreatDoorRows
import GoSem.ClaimSeven
namespace Go.Proofs.YtfkhaldheclheaaGreatDoor
namespace Rows

/-- THE TIED CARD OF 'semblancelaw8.RefinePlays'. -/
def refinePlaysCard : Claim7 := { stood := { row := refinePlaysRow, standIns := [], harness := (true, "8c62c9bfe6499f8ff7d2f83f93dbb8dfebb0024dedbc0e0fb6ed561ebb40c922"), looks := true }, kinds := [], alts := [], laidByText := true, laidKinds := [.handle, .sentinel, .sentinel, .sentinel, .sentinel, .sentinel, .sentinel, .sentinel, .sentinel, .sentinel, .sentinel, .sentinel, .sentinel, .sentinel, .sentinel, .sentinel, .sentinel, .sentinel, .sentinel, .sentinel], laidTests := true, laidLooks := .later }
def RefinePlaysCardSaid : Prop := Claim7.holds Tryz.pinned (.plain (OpenSpec.ofChange refinePlaysSpec)) refinePlaysCard

/-- THE TIED CARD OF 'semblancelaw8.RefineAll'. -/
def refineAllCard : Claim7 := { stood := { row := refineAllRow, standIns := [], harness := (true, "8c62c9bfe6499f8ff7d2f83f93dbb8dfebb0024dedbc0e0fb6ed561ebb40c922"), looks := true }, kinds := [], alts := [], laidByText := true, laidKinds := [.handle, .sentinel, .sentinel, .sentinel, .sentinel, .sentinel, .sentinel, .sentinel, .sentinel, .sentinel, .sentinel, .sentinel, .sentinel, .sentinel, .sentinel, .sentinel, .sentinel, .sentinel, .sentinel, .sentinel], laidTests := true, laidLooks := .later }
def RefineAllCardSaid : Prop := Claim7.holds Tryz.pinned (.plain (OpenSpec.ofChange refineAllSpec)) refineAllCard

/-- THE SECOND FORM's CARD OF 'semblancelaw8.RefinePlays'. -/
def refinePlaysUptoCard : Claim7 := { stood := { row := refinePlaysUptoRow, standIns := [], harness := (true, "8c62c9bfe6499f8ff7d2f83f93dbb8dfebb0024dedbc0e0fb6ed561ebb40c922"), looks := true }, kinds := [], alts := [], laidByText := true, laidKinds := [.handle, .sentinel, .sentinel, .sentinel, .sentinel, .sentinel, .sentinel, .sentinel, .sentinel, .sentinel, .sentinel, .sentinel, .sentinel, .sentinel, .sentinel, .sentinel, .sentinel, .sentinel, .sentinel, .sentinel], laidTests := true, laidLooks := .later }
def RefinePlaysUptoCardSaid : Prop := Claim7.holds Tryz.pinned (.plain (OpenSpec.upto refinePlaysSpec)) refinePlaysUptoCard

/-- THE SECOND FORM's CARD OF 'semblancelaw8.RefineAll'. -/
def refineAllUptoCard : Claim7 := { stood := { row := refineAllUptoRow, standIns := [], harness := (true, "8c62c9bfe6499f8ff7d2f83f93dbb8dfebb0024dedbc0e0fb6ed561ebb40c922"), looks := true }, kinds := [], alts := [], laidByText := true, laidKinds := [.handle, .sentinel, .sentinel, .sentinel, .sentinel, .sentinel, .sentinel, .sentinel, .sentinel, .sentinel, .sentinel, .sentinel, .sentinel, .sentinel, .sentinel, .sentinel, .sentinel, .sentinel, .sentinel, .sentinel], laidTests := true, laidLooks := .later }
def RefineAllUptoCardSaid : Prop := Claim7.holds Tryz.pinned (.plain (OpenSpec.upto refineAllSpec)) refineAllUptoCard
end Rows
end Go.Proofs.YtfkhaldheclheaaGreatDoor
