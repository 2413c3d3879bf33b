/-
  DERIVED. GIVEN WITH THE SEED: THE CARDS: each row of YtpmdjicaefmbnaaGreatDoorRows.lean that lists a variable, with what it lists TIED to the program's text (the seventh form; the later family's looks); each row that meets fmt, with fmt's text TOLD by the authors' own Lean function (tested against real Go, not proved from fmt's source: count such statements apart). THE CARD IS WHAT COUNTS. Prove the row's statement (the work); the ties are given (YtpmdjicaefmbnaaGreatDoorTie.lean); close each card by the builder's one call (the guide's Derived/Test/ToyasCard.lean, 'card_holds'). Laid BY PROGRAM, IN A SANDBOX (cutbox-door.mjs). By AI agents, Wed Nov 11 2026. No macro, syntax, notation, axiom, sorry.
-/
import Derived.Test.YtpmdjicaefmbnaaGreatDoorRows
import GoSem.ClaimSeven
namespace Go.Proofs.YtpmdjicaefmbnaaGreatDoor
namespace Rows

/-- THE TIED CARD OF 'semblancelaw10.RoundsNext'. -/
def roundsNextCard : Claim7 := { stood := { row := roundsNextRow, standIns := [], harness := (true, "6c652a4988b4ee3ea5e898de09133d004616e12f2b923b066a5a25bf5caa31e1"), looks := true }, kinds := [], alts := [], laidByText := true, laidKinds := [.data, .data, .data, .handle, .sentinel, .sentinel], laidTests := true, laidLooks := .later }
def RoundsNextCardSaid : Prop := Claim7.holds Tryz.pinned (.plain (OpenSpec.ofChange roundsNextSpec)) roundsNextCard

/-- THE TIED CARD OF 'semblancelaw10.RoundsFar'. -/
def roundsFarCard : Claim7 := { stood := { row := roundsFarRow, standIns := [], harness := (true, "6c652a4988b4ee3ea5e898de09133d004616e12f2b923b066a5a25bf5caa31e1"), looks := true }, kinds := [], alts := [], laidByText := true, laidKinds := [.data, .data, .data, .handle, .sentinel, .sentinel, .sentinel], laidTests := true, laidLooks := .later }
def RoundsFarCardSaid : Prop := Claim7.holds Tryz.pinned (.plain (OpenSpec.ofChange roundsFarSpec)) roundsFarCard

/-- THE TIED CARD OF 'semblancelaw10.RoundsAll'. -/
def roundsAllCard : Claim7 := { stood := { row := roundsAllRow, standIns := [], harness := (true, "6c652a4988b4ee3ea5e898de09133d004616e12f2b923b066a5a25bf5caa31e1"), looks := true }, kinds := [], alts := [], laidByText := true, laidKinds := [.data, .data, .data, .handle, .sentinel, .sentinel, .sentinel, .sentinel, .sentinel, .sentinel, .sentinel, .sentinel, .sentinel, .sentinel, .sentinel, .sentinel, .sentinel, .sentinel, .sentinel, .sentinel, .sentinel, .sentinel, .sentinel], laidTests := true, laidLooks := .later }
def RoundsAllCardSaid : Prop := Claim7.holds Tryz.pinned (.plain (OpenSpec.ofChange roundsAllSpec)) roundsAllCard

/-- THE TIED CARD OF 'semblancelaw10.RoundsRank'. -/
def roundsRankCard : Claim7 := { stood := { row := roundsRankRow, standIns := [], harness := (true, "6c652a4988b4ee3ea5e898de09133d004616e12f2b923b066a5a25bf5caa31e1"), looks := true }, kinds := [], alts := [], laidByText := true, laidKinds := [.data, .data, .data, .handle, .sentinel, .sentinel, .sentinel, .sentinel, .sentinel, .sentinel, .sentinel, .sentinel, .sentinel, .sentinel, .sentinel, .sentinel, .sentinel, .sentinel, .sentinel, .sentinel, .sentinel, .sentinel, .sentinel], laidTests := true, laidLooks := .later }
def RoundsRankCardSaid : Prop := Claim7.holds Tryz.pinned (.plain (OpenSpec.ofChange roundsRankSpec)) roundsRankCard

/-- THE TIED CARD OF 'semblancelaw10.RoundsIs'. -/
def roundsIsCard : Claim7 := { stood := { row := roundsIsRow, standIns := [], harness := (true, "6c652a4988b4ee3ea5e898de09133d004616e12f2b923b066a5a25bf5caa31e1"), looks := true }, kinds := [], alts := [], laidByText := true, laidKinds := [.data, .data, .data, .handle, .sentinel, .sentinel, .sentinel, .sentinel, .sentinel, .sentinel, .sentinel, .sentinel, .sentinel, .sentinel, .sentinel, .sentinel, .sentinel, .sentinel, .sentinel, .sentinel, .sentinel, .sentinel, .sentinel], laidTests := true, laidLooks := .later }
def RoundsIsCardSaid : Prop := Claim7.holds Tryz.pinned (.plain (OpenSpec.ofChange roundsIsSpec)) roundsIsCard

/-- THE TIED CARD OF 'semblancelaw10.RoundsRanks'. -/
def roundsRanksCard : Claim7 := { stood := { row := roundsRanksRow, standIns := [], harness := (true, "6c652a4988b4ee3ea5e898de09133d004616e12f2b923b066a5a25bf5caa31e1"), looks := true }, kinds := [], alts := [], laidByText := true, laidKinds := [.data, .data, .data, .handle, .sentinel, .sentinel, .sentinel, .sentinel, .sentinel, .sentinel, .sentinel, .sentinel, .sentinel, .sentinel, .sentinel, .sentinel, .sentinel, .sentinel, .sentinel, .sentinel, .sentinel, .sentinel, .sentinel], laidTests := true, laidLooks := .later }
def RoundsRanksCardSaid : Prop := Claim7.holds Tryz.pinned (.plain (OpenSpec.ofChange roundsRanksSpec)) roundsRanksCard

/-- THE TIED CARD OF 'semblancelaw10.RoundsLast'. -/
def roundsLastCard : Claim7 := { stood := { row := roundsLastRow, standIns := [], harness := (true, "6c652a4988b4ee3ea5e898de09133d004616e12f2b923b066a5a25bf5caa31e1"), looks := true }, kinds := [], alts := [], laidByText := true, laidKinds := [.data, .data, .data, .handle, .sentinel, .sentinel, .sentinel, .sentinel, .sentinel, .sentinel, .sentinel, .sentinel, .sentinel, .sentinel, .sentinel, .sentinel, .sentinel, .sentinel, .sentinel, .sentinel, .sentinel, .sentinel, .sentinel], laidTests := true, laidLooks := .later }
def RoundsLastCardSaid : Prop := Claim7.holds Tryz.pinned (.plain (OpenSpec.ofChange roundsLastSpec)) roundsLastCard

/-- THE SECOND FORM's CARD OF 'semblancelaw10.RoundsNext'. -/
def roundsNextUptoCard : Claim7 := { stood := { row := roundsNextUptoRow, standIns := [], harness := (true, "6c652a4988b4ee3ea5e898de09133d004616e12f2b923b066a5a25bf5caa31e1"), looks := true }, kinds := [], alts := [], laidByText := true, laidKinds := [.data, .data, .data, .handle, .sentinel, .sentinel], laidTests := true, laidLooks := .later }
def RoundsNextUptoCardSaid : Prop := Claim7.holds Tryz.pinned (.plain (OpenSpec.upto roundsNextSpec)) roundsNextUptoCard

/-- THE SECOND FORM's CARD OF 'semblancelaw10.RoundsFar'. -/
def roundsFarUptoCard : Claim7 := { stood := { row := roundsFarUptoRow, standIns := [], harness := (true, "6c652a4988b4ee3ea5e898de09133d004616e12f2b923b066a5a25bf5caa31e1"), looks := true }, kinds := [], alts := [], laidByText := true, laidKinds := [.data, .data, .data, .handle, .sentinel, .sentinel, .sentinel], laidTests := true, laidLooks := .later }
def RoundsFarUptoCardSaid : Prop := Claim7.holds Tryz.pinned (.plain (OpenSpec.upto roundsFarSpec)) roundsFarUptoCard

/-- THE SECOND FORM's CARD OF 'semblancelaw10.RoundsAll'. -/
def roundsAllUptoCard : Claim7 := { stood := { row := roundsAllUptoRow, standIns := [], harness := (true, "6c652a4988b4ee3ea5e898de09133d004616e12f2b923b066a5a25bf5caa31e1"), looks := true }, kinds := [], alts := [], laidByText := true, laidKinds := [.data, .data, .data, .handle, .sentinel, .sentinel, .sentinel, .sentinel, .sentinel, .sentinel, .sentinel, .sentinel, .sentinel, .sentinel, .sentinel, .sentinel, .sentinel, .sentinel, .sentinel, .sentinel, .sentinel, .sentinel, .sentinel], laidTests := true, laidLooks := .later }
def RoundsAllUptoCardSaid : Prop := Claim7.holds Tryz.pinned (.plain (OpenSpec.upto roundsAllSpec)) roundsAllUptoCard

/-- THE SECOND FORM's CARD OF 'semblancelaw10.RoundsRank'. -/
def roundsRankUptoCard : Claim7 := { stood := { row := roundsRankUptoRow, standIns := [], harness := (true, "6c652a4988b4ee3ea5e898de09133d004616e12f2b923b066a5a25bf5caa31e1"), looks := true }, kinds := [], alts := [], laidByText := true, laidKinds := [.data, .data, .data, .handle, .sentinel, .sentinel, .sentinel, .sentinel, .sentinel, .sentinel, .sentinel, .sentinel, .sentinel, .sentinel, .sentinel, .sentinel, .sentinel, .sentinel, .sentinel, .sentinel, .sentinel, .sentinel, .sentinel], laidTests := true, laidLooks := .later }
def RoundsRankUptoCardSaid : Prop := Claim7.holds Tryz.pinned (.plain (OpenSpec.upto roundsRankSpec)) roundsRankUptoCard

/-- THE SECOND FORM's CARD OF 'semblancelaw10.RoundsIs'. -/
def roundsIsUptoCard : Claim7 := { stood := { row := roundsIsUptoRow, standIns := [], harness := (true, "6c652a4988b4ee3ea5e898de09133d004616e12f2b923b066a5a25bf5caa31e1"), looks := true }, kinds := [], alts := [], laidByText := true, laidKinds := [.data, .data, .data, .handle, .sentinel, .sentinel, .sentinel, .sentinel, .sentinel, .sentinel, .sentinel, .sentinel, .sentinel, .sentinel, .sentinel, .sentinel, .sentinel, .sentinel, .sentinel, .sentinel, .sentinel, .sentinel, .sentinel], laidTests := true, laidLooks := .later }
def RoundsIsUptoCardSaid : Prop := Claim7.holds Tryz.pinned (.plain (OpenSpec.upto roundsIsSpec)) roundsIsUptoCard

/-- THE SECOND FORM's CARD OF 'semblancelaw10.RoundsRanks'. -/
def roundsRanksUptoCard : Claim7 := { stood := { row := roundsRanksUptoRow, standIns := [], harness := (true, "6c652a4988b4ee3ea5e898de09133d004616e12f2b923b066a5a25bf5caa31e1"), looks := true }, kinds := [], alts := [], laidByText := true, laidKinds := [.data, .data, .data, .handle, .sentinel, .sentinel, .sentinel, .sentinel, .sentinel, .sentinel, .sentinel, .sentinel, .sentinel, .sentinel, .sentinel, .sentinel, .sentinel, .sentinel, .sentinel, .sentinel, .sentinel, .sentinel, .sentinel], laidTests := true, laidLooks := .later }
def RoundsRanksUptoCardSaid : Prop := Claim7.holds Tryz.pinned (.plain (OpenSpec.upto roundsRanksSpec)) roundsRanksUptoCard

/-- THE SECOND FORM's CARD OF 'semblancelaw10.RoundsLast'. -/
def roundsLastUptoCard : Claim7 := { stood := { row := roundsLastUptoRow, standIns := [], harness := (true, "6c652a4988b4ee3ea5e898de09133d004616e12f2b923b066a5a25bf5caa31e1"), looks := true }, kinds := [], alts := [], laidByText := true, laidKinds := [.data, .data, .data, .handle, .sentinel, .sentinel, .sentinel, .sentinel, .sentinel, .sentinel, .sentinel, .sentinel, .sentinel, .sentinel, .sentinel, .sentinel, .sentinel, .sentinel, .sentinel, .sentinel, .sentinel, .sentinel, .sentinel], laidTests := true, laidLooks := .later }
def RoundsLastUptoCardSaid : Prop := Claim7.holds Tryz.pinned (.plain (OpenSpec.upto roundsLastSpec)) roundsLastUptoCard
end Rows
end Go.Proofs.YtpmdjicaefmbnaaGreatDoor
