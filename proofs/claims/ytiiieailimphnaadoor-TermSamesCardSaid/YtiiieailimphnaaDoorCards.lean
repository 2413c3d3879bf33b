/-
  DERIVED. GIVEN WITH THE SEED: THE CARDS: each row of YtiiieailimphnaaDoorRows.lean that lists a variable, with what it lists TIED to the program's text (the seventh form; the later family's looks); each row that meets fmt, with fmt's text TOLD by the authors' own Lean function (tested against real Go, not proved from fmt's source: count such statements apart). THE CARD IS WHAT COUNTS. Prove the row's statement (the work); the ties are given (YtiiieailimphnaaDoorTie.lean); close each card by the builder's one call (the guide's Derived/Test/ToyasCard.lean, 'card_holds'). Laid BY PROGRAM, IN A SANDBOX (cutbox-door.mjs). By AI agents, Wed Nov 11 2026. No macro, syntax, notation, axiom, sorry.
-/
import Derived.Test.YtiiieailimphnaaDoorRows
import GoSem.ClaimSeven
namespace Go.Proofs.YtiiieailimphnaaDoor
namespace Rows

/-- THE TIED CARD OF 'semblancelaw3.TermCopied'. -/
def termCopiedCard : Claim7 := { stood := { row := termCopiedRow, standIns := [], harness := (true, "fcb1c9c7160853ab743a187fccc8e870eae7d93cc31b34df30030b0b212ab55b"), looks := true }, kinds := [], alts := [], laidByText := true, laidKinds := [.data, .data, .data, .sentinel, .sentinel], laidTests := true, laidLooks := .later }
def TermCopiedCardSaid : Prop := Claim7.holds Tryd.pinned (.plain (OpenSpec.ofChange termCopiedSpec)) termCopiedCard

/-- THE TIED CARD OF 'semblancelaw3.TermBack'. -/
def termBackCard : Claim7 := { stood := { row := termBackRow, standIns := [], harness := (true, "fcb1c9c7160853ab743a187fccc8e870eae7d93cc31b34df30030b0b212ab55b"), looks := true }, kinds := [], alts := [], laidByText := true, laidKinds := [.data, .data, .data, .sentinel, .sentinel, .sentinel, .sentinel, .sentinel, .sentinel, .sentinel, .sentinel, .sentinel, .sentinel, .sentinel, .sentinel, .sentinel, .sentinel, .sentinel, .sentinel, .sentinel, .sentinel, .sentinel], laidTests := true, laidLooks := .later }
def TermBackCardSaid : Prop := Claim7.holds Tryd.pinned (.plain (OpenSpec.ofChange termBackSpec)) termBackCard

/-- THE TIED CARD OF 'semblancelaw3.TermSames'. -/
def termSamesCard : Claim7 := { stood := { row := termSamesRow, standIns := [], harness := (true, "fcb1c9c7160853ab743a187fccc8e870eae7d93cc31b34df30030b0b212ab55b"), looks := true }, kinds := [], alts := [], laidByText := true, laidKinds := [.data, .data, .data, .sentinel, .sentinel, .sentinel, .sentinel, .sentinel, .sentinel, .sentinel, .sentinel, .sentinel, .sentinel, .sentinel, .sentinel, .sentinel, .sentinel, .sentinel, .sentinel, .sentinel, .sentinel, .sentinel], laidTests := true, laidLooks := .later }
def TermSamesCardSaid : Prop := Claim7.holds Tryd.pinned (.plain (OpenSpec.ofChange termSamesSpec)) termSamesCard

/-- THE SECOND FORM's CARD OF 'semblancelaw3.TermCopied'. -/
def termCopiedUptoCard : Claim7 := { stood := { row := termCopiedUptoRow, standIns := [], harness := (true, "fcb1c9c7160853ab743a187fccc8e870eae7d93cc31b34df30030b0b212ab55b"), looks := true }, kinds := [], alts := [], laidByText := true, laidKinds := [.data, .data, .data, .sentinel, .sentinel], laidTests := true, laidLooks := .later }
def TermCopiedUptoCardSaid : Prop := Claim7.holds Tryd.pinned (.plain (OpenSpec.upto termCopiedSpec)) termCopiedUptoCard

/-- THE SECOND FORM's CARD OF 'semblancelaw3.TermBack'. -/
def termBackUptoCard : Claim7 := { stood := { row := termBackUptoRow, standIns := [], harness := (true, "fcb1c9c7160853ab743a187fccc8e870eae7d93cc31b34df30030b0b212ab55b"), looks := true }, kinds := [], alts := [], laidByText := true, laidKinds := [.data, .data, .data, .sentinel, .sentinel, .sentinel, .sentinel, .sentinel, .sentinel, .sentinel, .sentinel, .sentinel, .sentinel, .sentinel, .sentinel, .sentinel, .sentinel, .sentinel, .sentinel, .sentinel, .sentinel, .sentinel], laidTests := true, laidLooks := .later }
def TermBackUptoCardSaid : Prop := Claim7.holds Tryd.pinned (.plain (OpenSpec.upto termBackSpec)) termBackUptoCard

/-- THE SECOND FORM's CARD OF 'semblancelaw3.TermSames'. -/
def termSamesUptoCard : Claim7 := { stood := { row := termSamesUptoRow, standIns := [], harness := (true, "fcb1c9c7160853ab743a187fccc8e870eae7d93cc31b34df30030b0b212ab55b"), looks := true }, kinds := [], alts := [], laidByText := true, laidKinds := [.data, .data, .data, .sentinel, .sentinel, .sentinel, .sentinel, .sentinel, .sentinel, .sentinel, .sentinel, .sentinel, .sentinel, .sentinel, .sentinel, .sentinel, .sentinel, .sentinel, .sentinel, .sentinel, .sentinel, .sentinel], laidTests := true, laidLooks := .later }
def TermSamesUptoCardSaid : Prop := Claim7.holds Tryd.pinned (.plain (OpenSpec.upto termSamesSpec)) termSamesUptoCard
end Rows
end Go.Proofs.YtiiieailimphnaaDoor
