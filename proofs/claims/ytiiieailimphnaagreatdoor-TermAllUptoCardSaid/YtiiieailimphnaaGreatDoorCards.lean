/-
  DERIVED. GIVEN WITH THE SEED: THE CARDS: each row of YtiiieailimphnaaGreatDoorRows.lean that lists a variable, with what it lists TIED to the program's text (the seventh form; the later family's looks); each row that meets fmt, with fmt's text TOLD by the authors' own Lean function (tested against real Go, not proved from fmt's source: count such statements apart). THE CARD IS WHAT COUNTS. Prove the row's statement (the work); the ties are given (YtiiieailimphnaaGreatDoorTie.lean); close each card by the builder's one call (the guide's Derived/Test/ToyasCard.lean, 'card_holds'). Laid BY PROGRAM, IN A SANDBOX (cutbox-door.mjs). By AI agents, Wed Nov 11 2026. No macro, syntax, notation, axiom, sorry.
-/
import Derived.Test.YtiiieailimphnaaGreatDoorRows
import GoSem.ClaimSeven
namespace Go.Proofs.YtiiieailimphnaaGreatDoor
namespace Rows

/-- THE TIED CARD OF 'semblancelaw3.TermWeights'. -/
def termWeightsCard : Claim7 := { stood := { row := termWeightsRow, standIns := [], harness := (true, "14f1b25c184eb9c38fd008047c3831a0a19883112b410c08e4c4ea925e75f850"), looks := true }, kinds := [], alts := [], laidByText := true, laidKinds := [.data, .data, .data, .sentinel, .sentinel, .sentinel, .sentinel, .sentinel, .sentinel, .sentinel, .sentinel, .sentinel, .sentinel, .sentinel, .sentinel, .sentinel, .sentinel, .sentinel, .sentinel, .sentinel, .sentinel, .sentinel], laidTests := true, laidLooks := .later }
def TermWeightsCardSaid : Prop := Claim7.holds Tryz.pinned (.plain (OpenSpec.ofChange termWeightsSpec)) termWeightsCard

/-- THE TIED CARD OF 'semblancelaw3.TermAll'. -/
def termAllCard : Claim7 := { stood := { row := termAllRow, standIns := [], harness := (true, "14f1b25c184eb9c38fd008047c3831a0a19883112b410c08e4c4ea925e75f850"), looks := true }, kinds := [], alts := [], laidByText := true, laidKinds := [.data, .data, .data, .sentinel, .sentinel, .sentinel, .sentinel, .sentinel, .sentinel, .sentinel, .sentinel, .sentinel, .sentinel, .sentinel, .sentinel, .sentinel, .sentinel, .sentinel, .sentinel, .sentinel, .sentinel, .sentinel], laidTests := true, laidLooks := .later }
def TermAllCardSaid : Prop := Claim7.holds Tryz.pinned (.plain (OpenSpec.ofChange termAllSpec)) termAllCard

/-- THE SECOND FORM's CARD OF 'semblancelaw3.TermWeights'. -/
def termWeightsUptoCard : Claim7 := { stood := { row := termWeightsUptoRow, standIns := [], harness := (true, "14f1b25c184eb9c38fd008047c3831a0a19883112b410c08e4c4ea925e75f850"), looks := true }, kinds := [], alts := [], laidByText := true, laidKinds := [.data, .data, .data, .sentinel, .sentinel, .sentinel, .sentinel, .sentinel, .sentinel, .sentinel, .sentinel, .sentinel, .sentinel, .sentinel, .sentinel, .sentinel, .sentinel, .sentinel, .sentinel, .sentinel, .sentinel, .sentinel], laidTests := true, laidLooks := .later }
def TermWeightsUptoCardSaid : Prop := Claim7.holds Tryz.pinned (.plain (OpenSpec.upto termWeightsSpec)) termWeightsUptoCard

/-- THE SECOND FORM's CARD OF 'semblancelaw3.TermAll'. -/
def termAllUptoCard : Claim7 := { stood := { row := termAllUptoRow, standIns := [], harness := (true, "14f1b25c184eb9c38fd008047c3831a0a19883112b410c08e4c4ea925e75f850"), looks := true }, kinds := [], alts := [], laidByText := true, laidKinds := [.data, .data, .data, .sentinel, .sentinel, .sentinel, .sentinel, .sentinel, .sentinel, .sentinel, .sentinel, .sentinel, .sentinel, .sentinel, .sentinel, .sentinel, .sentinel, .sentinel, .sentinel, .sentinel, .sentinel, .sentinel], laidTests := true, laidLooks := .later }
def TermAllUptoCardSaid : Prop := Claim7.holds Tryz.pinned (.plain (OpenSpec.upto termAllSpec)) termAllUptoCard
end Rows
end Go.Proofs.YtiiieailimphnaaGreatDoor
