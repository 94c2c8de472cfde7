/-
  DERIVED. GIVEN WITH THE SEED: THE CARDS: each row of YtfnpmcbilejbbaaGreatDoorRows.lean that lists a variable, with what it lists TIED to the program's text (the seventh form; the later family's looks); each row that meets fmt, with fmt's text TOLD by the authors' own Lean function (tested against real Go, not proved from fmt's source: count such statements apart). THE CARD IS WHAT COUNTS. Prove the row's statement (the work); the ties are given (YtfnpmcbilejbbaaGreatDoorTie.lean); close each card by the builder's one call (the guide's Derived/Test/ToyasCard.lean, 'card_holds'). Laid BY PROGRAM, IN A SANDBOX (cutbox-door.mjs). By AI agents, Wed Nov 11 2026. No macro, syntax, notation, axiom, sorry.
-/
import Derived.Test.YtfnpmcbilejbbaaGreatDoorRows
import GoSem.ClaimSeven
namespace Go.Proofs.YtfnpmcbilejbbaaGreatDoor
namespace Rows

/-- THE TIED CARD OF 'dugoutlaw01.PlayRates'. -/
def playRatesCard : Claim7 := { stood := { row := playRatesRow, standIns := [], harness := (true, "d5d0d111f696f8f1e1e0b6d58550842d237d2a96111bf06fe1009cb1fda8ecd8"), looks := false }, kinds := [], alts := [], laidByText := true, laidKinds := [.data, .widerDeep, .widerDeep, .pinned], laidTests := true, laidLooks := .later }
def PlayRatesCardSaid : Prop := Claim7.holds Tryz.pinned (.plain (OpenSpec.ofChange playRatesSpec)) playRatesCard

/-- THE TIED CARD OF 'dugoutlaw01.PlayParts'. -/
def playPartsCard : Claim7 := { stood := { row := playPartsRow, standIns := [], harness := (true, "d5d0d111f696f8f1e1e0b6d58550842d237d2a96111bf06fe1009cb1fda8ecd8"), looks := false }, kinds := [], alts := [], laidByText := true, laidKinds := [.data, .widerDeep, .widerDeep, .pinned], laidTests := true, laidLooks := .later }
def PlayPartsCardSaid : Prop := Claim7.holds Tryz.pinned (.plain (OpenSpec.ofChange playPartsSpec)) playPartsCard

/-- THE TIED CARD OF 'dugoutlaw01.PlayOrders'. -/
def playOrdersCard : Claim7 := { stood := { row := playOrdersRow, standIns := [], harness := (true, "d5d0d111f696f8f1e1e0b6d58550842d237d2a96111bf06fe1009cb1fda8ecd8"), looks := false }, kinds := [], alts := [], laidByText := true, laidKinds := [.data, .widerDeep, .widerDeep, .pinned], laidTests := true, laidLooks := .later }
def PlayOrdersCardSaid : Prop := Claim7.holds Tryz.pinned (.plain (OpenSpec.ofChange playOrdersSpec)) playOrdersCard

/-- THE SECOND FORM's CARD OF 'dugoutlaw01.PlayRates'. -/
def playRatesUptoCard : Claim7 := { stood := { row := playRatesUptoRow, standIns := [], harness := (true, "d5d0d111f696f8f1e1e0b6d58550842d237d2a96111bf06fe1009cb1fda8ecd8"), looks := false }, kinds := [], alts := [], laidByText := true, laidKinds := [.data, .widerDeep, .widerDeep, .pinned], laidTests := true, laidLooks := .later }
def PlayRatesUptoCardSaid : Prop := Claim7.holds Tryz.pinned (.plain (OpenSpec.upto playRatesSpec)) playRatesUptoCard

/-- THE SECOND FORM's CARD OF 'dugoutlaw01.PlayParts'. -/
def playPartsUptoCard : Claim7 := { stood := { row := playPartsUptoRow, standIns := [], harness := (true, "d5d0d111f696f8f1e1e0b6d58550842d237d2a96111bf06fe1009cb1fda8ecd8"), looks := false }, kinds := [], alts := [], laidByText := true, laidKinds := [.data, .widerDeep, .widerDeep, .pinned], laidTests := true, laidLooks := .later }
def PlayPartsUptoCardSaid : Prop := Claim7.holds Tryz.pinned (.plain (OpenSpec.upto playPartsSpec)) playPartsUptoCard

/-- THE SECOND FORM's CARD OF 'dugoutlaw01.PlayOrders'. -/
def playOrdersUptoCard : Claim7 := { stood := { row := playOrdersUptoRow, standIns := [], harness := (true, "d5d0d111f696f8f1e1e0b6d58550842d237d2a96111bf06fe1009cb1fda8ecd8"), looks := false }, kinds := [], alts := [], laidByText := true, laidKinds := [.data, .widerDeep, .widerDeep, .pinned], laidTests := true, laidLooks := .later }
def PlayOrdersUptoCardSaid : Prop := Claim7.holds Tryz.pinned (.plain (OpenSpec.upto playOrdersSpec)) playOrdersUptoCard
end Rows
end Go.Proofs.YtfnpmcbilejbbaaGreatDoor
