/-
  DERIVED. GIVEN WITH THE SEED: THE CARDS: each row of YtbfonnoebbjenaaGreatDoorRows.lean that lists a variable, with what it lists TIED to the program's text (the seventh form; the later family's looks); each row that meets fmt, with fmt's text TOLD by the authors' own Lean function (tested against real Go, not proved from fmt's source: count such statements apart). THE CARD IS WHAT COUNTS. Prove the row's statement (the work); the ties are given (YtbfonnoebbjenaaGreatDoorTie.lean); close each card by the builder's one call (the guide's Derived/Test/ToyasCard.lean, 'card_holds'). Laid BY PROGRAM, IN A SANDBOX (cutbox-door.mjs). By AI agents, Wed Nov 11 2026. No macro, syntax, notation, axiom, sorry.
-/
import Derived.Test.YtbfonnoebbjenaaGreatDoorRows
import GoSem.ClaimSeven
namespace Go.Proofs.YtbfonnoebbjenaaGreatDoor
namespace Rows

/-- THE TIED CARD OF 'dugoutlaw09.SeasonTotals'. -/
def seasonTotalsCard : Claim7 := { stood := { row := seasonTotalsRow, standIns := [], harness := (true, "54bc7f06a043235b700d4102272d9bcbe39d0a4849f4e8ec154460d590aebe3e"), looks := true }, kinds := [], alts := [], laidByText := true, laidKinds := [.data, .data, .data, .widerDeep], laidTests := true, laidLooks := .later }
def SeasonTotalsCardSaid : Prop := Claim7.holds Tryz.pinned (.plain (OpenSpec.ofChange seasonTotalsSpec)) seasonTotalsCard

/-- THE TIED CARD OF 'dugoutlaw09.SeasonLeaders'. -/
def seasonLeadersCard : Claim7 := { stood := { row := seasonLeadersRow, standIns := [], harness := (true, "54bc7f06a043235b700d4102272d9bcbe39d0a4849f4e8ec154460d590aebe3e"), looks := true }, kinds := [], alts := [], laidByText := true, laidKinds := [.data, .data, .data, .widerDeep], laidTests := true, laidLooks := .later }
def SeasonLeadersCardSaid : Prop := Claim7.holds Tryz.pinned (.plain (OpenSpec.ofChange seasonLeadersSpec)) seasonLeadersCard

/-- THE TIED CARD OF 'dugoutlaw09.SeasonStreaks'. -/
def seasonStreaksCard : Claim7 := { stood := { row := seasonStreaksRow, standIns := [], harness := (true, "54bc7f06a043235b700d4102272d9bcbe39d0a4849f4e8ec154460d590aebe3e"), looks := true }, kinds := [], alts := [], laidByText := true, laidKinds := [.data, .data, .data, .widerDeep], laidTests := true, laidLooks := .later }
def SeasonStreaksCardSaid : Prop := Claim7.holds Tryz.pinned (.plain (OpenSpec.ofChange seasonStreaksSpec)) seasonStreaksCard

/-- THE TIED CARD OF 'dugoutlaw09.SeasonStandings'. -/
def seasonStandingsCard : Claim7 := { stood := { row := seasonStandingsRow, standIns := [], harness := (true, "54bc7f06a043235b700d4102272d9bcbe39d0a4849f4e8ec154460d590aebe3e"), looks := true }, kinds := [], alts := [], laidByText := true, laidKinds := [.data, .data, .data, .widerDeep], laidTests := true, laidLooks := .later }
def SeasonStandingsCardSaid : Prop := Claim7.holds Tryz.pinned (.plain (OpenSpec.ofChange seasonStandingsSpec)) seasonStandingsCard

/-- THE TIED CARD OF 'dugoutlaw09.SeasonMonoid'. -/
def seasonMonoidCard : Claim7 := { stood := { row := seasonMonoidRow, standIns := [], harness := (true, "54bc7f06a043235b700d4102272d9bcbe39d0a4849f4e8ec154460d590aebe3e"), looks := true }, kinds := [], alts := [], laidByText := true, laidKinds := [.data, .data, .data, .widerDeep], laidTests := true, laidLooks := .later }
def SeasonMonoidCardSaid : Prop := Claim7.holds Tryz.pinned (.plain (OpenSpec.ofChange seasonMonoidSpec)) seasonMonoidCard

/-- THE TIED CARD OF 'dugoutlaw09.SeasonZeros'. -/
def seasonZerosCard : Claim7 := { stood := { row := seasonZerosRow, standIns := [], harness := (true, "54bc7f06a043235b700d4102272d9bcbe39d0a4849f4e8ec154460d590aebe3e"), looks := true }, kinds := [], alts := [], laidByText := true, laidKinds := [.data, .data, .data, .widerDeep], laidTests := true, laidLooks := .later }
def SeasonZerosCardSaid : Prop := Claim7.holds Tryz.pinned (.plain (OpenSpec.ofChange seasonZerosSpec)) seasonZerosCard

/-- THE TIED CARD OF 'dugoutlaw09.SeasonGames'. -/
def seasonGamesCard : Claim7 := { stood := { row := seasonGamesRow, standIns := [], harness := (true, "54bc7f06a043235b700d4102272d9bcbe39d0a4849f4e8ec154460d590aebe3e"), looks := true }, kinds := [], alts := [], laidByText := true, laidKinds := [.data, .data, .data, .widerDeep], laidTests := true, laidLooks := .later }
def SeasonGamesCardSaid : Prop := Claim7.holds Tryz.pinned (.plain (OpenSpec.ofChange seasonGamesSpec)) seasonGamesCard

/-- THE TIED CARD OF 'dugoutlaw09.SeasonBooks'. -/
def seasonBooksCard : Claim7 := { stood := { row := seasonBooksRow, standIns := [], harness := (true, "54bc7f06a043235b700d4102272d9bcbe39d0a4849f4e8ec154460d590aebe3e"), looks := true }, kinds := [], alts := [], laidByText := true, laidKinds := [.data, .data, .data, .widerDeep], laidTests := true, laidLooks := .later }
def SeasonBooksCardSaid : Prop := Claim7.holds Tryz.pinned (.plain (OpenSpec.ofChange seasonBooksSpec)) seasonBooksCard

/-- THE TIED CARD OF 'dugoutlaw09.SeasonUpdates'. -/
def seasonUpdatesCard : Claim7 := { stood := { row := seasonUpdatesRow, standIns := [], harness := (true, "54bc7f06a043235b700d4102272d9bcbe39d0a4849f4e8ec154460d590aebe3e"), looks := true }, kinds := [], alts := [], laidByText := true, laidKinds := [.data, .data, .data, .widerDeep], laidTests := true, laidLooks := .later }
def SeasonUpdatesCardSaid : Prop := Claim7.holds Tryz.pinned (.plain (OpenSpec.ofChange seasonUpdatesSpec)) seasonUpdatesCard

/-- THE TIED CARD OF 'dugoutlaw09.SeasonKeeps'. -/
def seasonKeepsCard : Claim7 := { stood := { row := seasonKeepsRow, standIns := [], harness := (true, "54bc7f06a043235b700d4102272d9bcbe39d0a4849f4e8ec154460d590aebe3e"), looks := true }, kinds := [], alts := [], laidByText := true, laidKinds := [.data, .data, .data, .widerDeep], laidTests := true, laidLooks := .later }
def SeasonKeepsCardSaid : Prop := Claim7.holds Tryz.pinned (.plain (OpenSpec.ofChange seasonKeepsSpec)) seasonKeepsCard

/-- THE TIED CARD OF 'dugoutlaw09.SeasonMerges'. -/
def seasonMergesCard : Claim7 := { stood := { row := seasonMergesRow, standIns := [], harness := (true, "54bc7f06a043235b700d4102272d9bcbe39d0a4849f4e8ec154460d590aebe3e"), looks := true }, kinds := [], alts := [], laidByText := true, laidKinds := [.data, .data, .data, .widerDeep], laidTests := true, laidLooks := .later }
def SeasonMergesCardSaid : Prop := Claim7.holds Tryz.pinned (.plain (OpenSpec.ofChange seasonMergesSpec)) seasonMergesCard

/-- THE TIED CARD OF 'dugoutlaw09.SeasonUnites'. -/
def seasonUnitesCard : Claim7 := { stood := { row := seasonUnitesRow, standIns := [], harness := (true, "54bc7f06a043235b700d4102272d9bcbe39d0a4849f4e8ec154460d590aebe3e"), looks := true }, kinds := [], alts := [], laidByText := true, laidKinds := [.data, .data, .data, .data, .sentinel, .sentinel, .widerDeep, .pinned], laidTests := true, laidLooks := .later }
def SeasonUnitesCardSaid : Prop := Claim7.holds Tryz.pinned (.plain (OpenSpec.ofChange seasonUnitesSpec)) seasonUnitesCard

/-- THE SECOND FORM's CARD OF 'dugoutlaw09.SeasonTotals'. -/
def seasonTotalsUptoCard : Claim7 := { stood := { row := seasonTotalsUptoRow, standIns := [], harness := (true, "54bc7f06a043235b700d4102272d9bcbe39d0a4849f4e8ec154460d590aebe3e"), looks := true }, kinds := [], alts := [], laidByText := true, laidKinds := [.data, .data, .data, .widerDeep], laidTests := true, laidLooks := .later }
def SeasonTotalsUptoCardSaid : Prop := Claim7.holds Tryz.pinned (.plain (OpenSpec.upto seasonTotalsSpec)) seasonTotalsUptoCard

/-- THE SECOND FORM's CARD OF 'dugoutlaw09.SeasonLeaders'. -/
def seasonLeadersUptoCard : Claim7 := { stood := { row := seasonLeadersUptoRow, standIns := [], harness := (true, "54bc7f06a043235b700d4102272d9bcbe39d0a4849f4e8ec154460d590aebe3e"), looks := true }, kinds := [], alts := [], laidByText := true, laidKinds := [.data, .data, .data, .widerDeep], laidTests := true, laidLooks := .later }
def SeasonLeadersUptoCardSaid : Prop := Claim7.holds Tryz.pinned (.plain (OpenSpec.upto seasonLeadersSpec)) seasonLeadersUptoCard

/-- THE SECOND FORM's CARD OF 'dugoutlaw09.SeasonStreaks'. -/
def seasonStreaksUptoCard : Claim7 := { stood := { row := seasonStreaksUptoRow, standIns := [], harness := (true, "54bc7f06a043235b700d4102272d9bcbe39d0a4849f4e8ec154460d590aebe3e"), looks := true }, kinds := [], alts := [], laidByText := true, laidKinds := [.data, .data, .data, .widerDeep], laidTests := true, laidLooks := .later }
def SeasonStreaksUptoCardSaid : Prop := Claim7.holds Tryz.pinned (.plain (OpenSpec.upto seasonStreaksSpec)) seasonStreaksUptoCard

/-- THE SECOND FORM's CARD OF 'dugoutlaw09.SeasonStandings'. -/
def seasonStandingsUptoCard : Claim7 := { stood := { row := seasonStandingsUptoRow, standIns := [], harness := (true, "54bc7f06a043235b700d4102272d9bcbe39d0a4849f4e8ec154460d590aebe3e"), looks := true }, kinds := [], alts := [], laidByText := true, laidKinds := [.data, .data, .data, .widerDeep], laidTests := true, laidLooks := .later }
def SeasonStandingsUptoCardSaid : Prop := Claim7.holds Tryz.pinned (.plain (OpenSpec.upto seasonStandingsSpec)) seasonStandingsUptoCard

/-- THE SECOND FORM's CARD OF 'dugoutlaw09.SeasonMonoid'. -/
def seasonMonoidUptoCard : Claim7 := { stood := { row := seasonMonoidUptoRow, standIns := [], harness := (true, "54bc7f06a043235b700d4102272d9bcbe39d0a4849f4e8ec154460d590aebe3e"), looks := true }, kinds := [], alts := [], laidByText := true, laidKinds := [.data, .data, .data, .widerDeep], laidTests := true, laidLooks := .later }
def SeasonMonoidUptoCardSaid : Prop := Claim7.holds Tryz.pinned (.plain (OpenSpec.upto seasonMonoidSpec)) seasonMonoidUptoCard

/-- THE SECOND FORM's CARD OF 'dugoutlaw09.SeasonZeros'. -/
def seasonZerosUptoCard : Claim7 := { stood := { row := seasonZerosUptoRow, standIns := [], harness := (true, "54bc7f06a043235b700d4102272d9bcbe39d0a4849f4e8ec154460d590aebe3e"), looks := true }, kinds := [], alts := [], laidByText := true, laidKinds := [.data, .data, .data, .widerDeep], laidTests := true, laidLooks := .later }
def SeasonZerosUptoCardSaid : Prop := Claim7.holds Tryz.pinned (.plain (OpenSpec.upto seasonZerosSpec)) seasonZerosUptoCard

/-- THE SECOND FORM's CARD OF 'dugoutlaw09.SeasonGames'. -/
def seasonGamesUptoCard : Claim7 := { stood := { row := seasonGamesUptoRow, standIns := [], harness := (true, "54bc7f06a043235b700d4102272d9bcbe39d0a4849f4e8ec154460d590aebe3e"), looks := true }, kinds := [], alts := [], laidByText := true, laidKinds := [.data, .data, .data, .widerDeep], laidTests := true, laidLooks := .later }
def SeasonGamesUptoCardSaid : Prop := Claim7.holds Tryz.pinned (.plain (OpenSpec.upto seasonGamesSpec)) seasonGamesUptoCard

/-- THE SECOND FORM's CARD OF 'dugoutlaw09.SeasonBooks'. -/
def seasonBooksUptoCard : Claim7 := { stood := { row := seasonBooksUptoRow, standIns := [], harness := (true, "54bc7f06a043235b700d4102272d9bcbe39d0a4849f4e8ec154460d590aebe3e"), looks := true }, kinds := [], alts := [], laidByText := true, laidKinds := [.data, .data, .data, .widerDeep], laidTests := true, laidLooks := .later }
def SeasonBooksUptoCardSaid : Prop := Claim7.holds Tryz.pinned (.plain (OpenSpec.upto seasonBooksSpec)) seasonBooksUptoCard

/-- THE SECOND FORM's CARD OF 'dugoutlaw09.SeasonUpdates'. -/
def seasonUpdatesUptoCard : Claim7 := { stood := { row := seasonUpdatesUptoRow, standIns := [], harness := (true, "54bc7f06a043235b700d4102272d9bcbe39d0a4849f4e8ec154460d590aebe3e"), looks := true }, kinds := [], alts := [], laidByText := true, laidKinds := [.data, .data, .data, .widerDeep], laidTests := true, laidLooks := .later }
def SeasonUpdatesUptoCardSaid : Prop := Claim7.holds Tryz.pinned (.plain (OpenSpec.upto seasonUpdatesSpec)) seasonUpdatesUptoCard

/-- THE SECOND FORM's CARD OF 'dugoutlaw09.SeasonKeeps'. -/
def seasonKeepsUptoCard : Claim7 := { stood := { row := seasonKeepsUptoRow, standIns := [], harness := (true, "54bc7f06a043235b700d4102272d9bcbe39d0a4849f4e8ec154460d590aebe3e"), looks := true }, kinds := [], alts := [], laidByText := true, laidKinds := [.data, .data, .data, .widerDeep], laidTests := true, laidLooks := .later }
def SeasonKeepsUptoCardSaid : Prop := Claim7.holds Tryz.pinned (.plain (OpenSpec.upto seasonKeepsSpec)) seasonKeepsUptoCard

/-- THE SECOND FORM's CARD OF 'dugoutlaw09.SeasonMerges'. -/
def seasonMergesUptoCard : Claim7 := { stood := { row := seasonMergesUptoRow, standIns := [], harness := (true, "54bc7f06a043235b700d4102272d9bcbe39d0a4849f4e8ec154460d590aebe3e"), looks := true }, kinds := [], alts := [], laidByText := true, laidKinds := [.data, .data, .data, .widerDeep], laidTests := true, laidLooks := .later }
def SeasonMergesUptoCardSaid : Prop := Claim7.holds Tryz.pinned (.plain (OpenSpec.upto seasonMergesSpec)) seasonMergesUptoCard

/-- THE SECOND FORM's CARD OF 'dugoutlaw09.SeasonUnites'. -/
def seasonUnitesUptoCard : Claim7 := { stood := { row := seasonUnitesUptoRow, standIns := [], harness := (true, "54bc7f06a043235b700d4102272d9bcbe39d0a4849f4e8ec154460d590aebe3e"), looks := true }, kinds := [], alts := [], laidByText := true, laidKinds := [.data, .data, .data, .data, .sentinel, .sentinel, .widerDeep, .pinned], laidTests := true, laidLooks := .later }
def SeasonUnitesUptoCardSaid : Prop := Claim7.holds Tryz.pinned (.plain (OpenSpec.upto seasonUnitesSpec)) seasonUnitesUptoCard
end Rows
end Go.Proofs.YtbfonnoebbjenaaGreatDoor
