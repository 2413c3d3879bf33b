/-
  DERIVED. GIVEN WITH THE SEED: THE CARDS: each row of YtoaoajfjcfcmhaaGreatDoorRows.lean that lists a variable, with what it lists TIED to the program's text (the seventh form; the later family's looks); each row that meets fmt, with fmt's text TOLD by the authors' own Lean function (tested against real Go, not proved from fmt's source: count such statements apart). THE CARD IS WHAT COUNTS. Prove the row's statement (the work); the ties are given (YtoaoajfjcfcmhaaGreatDoorTie.lean); close each card by the builder's one call (the guide's Derived/Test/ToyasCard.lean, 'card_holds'). Laid BY PROGRAM, IN A SANDBOX (cutbox-door.mjs). By AI agents, Wed Nov 11 2026. No macro, syntax, notation, axiom, sorry.
-/
import Derived.Test.YtoaoajfjcfcmhaaGreatDoorRows
import GoSem.ClaimSeven
namespace Go.Proofs.YtoaoajfjcfcmhaaGreatDoor
namespace Rows

/-- THE TIED CARD OF 'semblancelaw16.DistinguishCompares'. -/
def distinguishComparesCard : Claim7 := { stood := { row := distinguishComparesRow, standIns := [], harness := (true, "d999a1a22f8fc8b98bb044a0c91b4ed69eed867c67b86a745061c302fae87e2e"), looks := true }, kinds := [], alts := [], laidByText := true, laidKinds := [.data, .data, .data, .handle, .sentinel, .sentinel, .sentinel, .sentinel, .sentinel, .sentinel, .sentinel, .sentinel, .sentinel, .sentinel, .sentinel, .sentinel, .sentinel, .sentinel, .sentinel, .sentinel, .sentinel, .sentinel, .sentinel], laidTests := true, laidLooks := .later }
def DistinguishComparesCardSaid : Prop := Claim7.holds Tryz.pinned (.plain (OpenSpec.ofChange distinguishComparesSpec)) distinguishComparesCard

/-- THE SECOND FORM's CARD OF 'semblancelaw16.DistinguishCompares'. -/
def distinguishComparesUptoCard : Claim7 := { stood := { row := distinguishComparesUptoRow, standIns := [], harness := (true, "d999a1a22f8fc8b98bb044a0c91b4ed69eed867c67b86a745061c302fae87e2e"), looks := true }, kinds := [], alts := [], laidByText := true, laidKinds := [.data, .data, .data, .handle, .sentinel, .sentinel, .sentinel, .sentinel, .sentinel, .sentinel, .sentinel, .sentinel, .sentinel, .sentinel, .sentinel, .sentinel, .sentinel, .sentinel, .sentinel, .sentinel, .sentinel, .sentinel, .sentinel], laidTests := true, laidLooks := .later }
def DistinguishComparesUptoCardSaid : Prop := Claim7.holds Tryz.pinned (.plain (OpenSpec.upto distinguishComparesSpec)) distinguishComparesUptoCard
end Rows
end Go.Proofs.YtoaoajfjcfcmhaaGreatDoor
