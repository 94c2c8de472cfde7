/-
  DERIVED. GIVEN WITH THE SEED: THE CARDS: each row of YthlmjjdlmidnlaaGreatDoorRows.lean that lists a variable, with what it lists TIED to the program's text (the seventh form; the later family's looks); each row that meets fmt, with fmt's text TOLD by the authors' own Lean function (tested against real Go, not proved from fmt's source: count such statements apart). THE CARD IS WHAT COUNTS. Prove the row's statement (the work); the ties are given (YthlmjjdlmidnlaaGreatDoorTie.lean); close each card by the builder's one call (the guide's Derived/Test/ToyasCard.lean, 'card_holds'). Laid BY PROGRAM, IN A SANDBOX (cutbox-door.mjs). By AI agents, Wed Nov 11 2026. No macro, syntax, notation, axiom, sorry.
-/
import Derived.Test.YthlmjjdlmidnlaaGreatDoorRows
import GoSem.ClaimSeven
namespace Go.Proofs.YthlmjjdlmidnlaaGreatDoor
namespace Rows

/-- THE TIED CARD OF 'dugoutlaw01.PlayForms'. -/
def playFormsCard : Claim7 := { stood := { row := playFormsRow, standIns := [], harness := (true, "531036d3ee5cb7aff87b5cffaa980339396344aba1b56e1f63d95c5c501276f5"), looks := false }, kinds := [], alts := [], laidByText := true, laidKinds := [.data, .widerDeep, .widerDeep, .pinned], laidTests := true, laidLooks := .later }
def PlayFormsCardSaid : Prop := Claim7.holds Tryz.pinned (.plain (OpenSpec.ofChange playFormsSpec)) playFormsCard

/-- THE TIED CARD OF 'dugoutlaw01.PlayStrings'. -/
def playStringsCard : Claim7 := { stood := { row := playStringsRow, standIns := [], harness := (true, "531036d3ee5cb7aff87b5cffaa980339396344aba1b56e1f63d95c5c501276f5"), looks := false }, kinds := [], alts := [], laidByText := true, laidKinds := [.data, .widerDeep, .widerDeep, .pinned], laidTests := true, laidLooks := .later }
def PlayStringsCardSaid : Prop := Claim7.holds Tryz.pinned (.plain (OpenSpec.ofChange playStringsSpec)) playStringsCard

/-- THE TIED CARD OF 'dugoutlaw01.PlayFielders'. -/
def playFieldersCard : Claim7 := { stood := { row := playFieldersRow, standIns := [], harness := (true, "531036d3ee5cb7aff87b5cffaa980339396344aba1b56e1f63d95c5c501276f5"), looks := false }, kinds := [], alts := [], laidByText := true, laidKinds := [.data, .widerDeep, .widerDeep, .pinned], laidTests := true, laidLooks := .later }
def PlayFieldersCardSaid : Prop := Claim7.holds Tryz.pinned (.plain (OpenSpec.ofChange playFieldersSpec)) playFieldersCard

/-- THE TIED CARD OF 'dugoutlaw01.PlayNames'. -/
def playNamesCard : Claim7 := { stood := { row := playNamesRow, standIns := [], harness := (true, "531036d3ee5cb7aff87b5cffaa980339396344aba1b56e1f63d95c5c501276f5"), looks := false }, kinds := [], alts := [], laidByText := true, laidKinds := [.data, .widerDeep, .widerDeep, .pinned], laidTests := true, laidLooks := .later }
def PlayNamesCardSaid : Prop := Claim7.holds Tryz.pinned (.plain (OpenSpec.ofChange playNamesSpec)) playNamesCard

/-- THE TIED CARD OF 'dugoutlaw01.PlayCounts'. -/
def playCountsCard : Claim7 := { stood := { row := playCountsRow, standIns := [], harness := (true, "531036d3ee5cb7aff87b5cffaa980339396344aba1b56e1f63d95c5c501276f5"), looks := false }, kinds := [], alts := [], laidByText := true, laidKinds := [.data, .widerDeep, .widerDeep, .pinned], laidTests := true, laidLooks := .later }
def PlayCountsCardSaid : Prop := Claim7.holds Tryz.pinned (.plain (OpenSpec.ofChange playCountsSpec)) playCountsCard

/-- THE TIED CARD OF 'dugoutlaw01.PlaySums'. -/
def playSumsCard : Claim7 := { stood := { row := playSumsRow, standIns := [], harness := (true, "531036d3ee5cb7aff87b5cffaa980339396344aba1b56e1f63d95c5c501276f5"), looks := false }, kinds := [], alts := [], laidByText := true, laidKinds := [.data, .widerDeep, .widerDeep, .pinned], laidTests := true, laidLooks := .later }
def PlaySumsCardSaid : Prop := Claim7.holds Tryz.pinned (.plain (OpenSpec.ofChange playSumsSpec)) playSumsCard

/-- THE TIED CARD OF 'dugoutlaw01.PlayCanons'. -/
def playCanonsCard : Claim7 := { stood := { row := playCanonsRow, standIns := [], harness := (true, "531036d3ee5cb7aff87b5cffaa980339396344aba1b56e1f63d95c5c501276f5"), looks := false }, kinds := [], alts := [], laidByText := true, laidKinds := [.data, .widerDeep, .widerDeep, .pinned], laidTests := true, laidLooks := .later }
def PlayCanonsCardSaid : Prop := Claim7.holds Tryz.pinned (.plain (OpenSpec.ofChange playCanonsSpec)) playCanonsCard

/-- THE TIED CARD OF 'dugoutlaw01.PlayLoose'. -/
def playLooseCard : Claim7 := { stood := { row := playLooseRow, standIns := [], harness := (true, "531036d3ee5cb7aff87b5cffaa980339396344aba1b56e1f63d95c5c501276f5"), looks := false }, kinds := [], alts := [], laidByText := true, laidKinds := [.data, .widerDeep, .widerDeep, .pinned], laidTests := true, laidLooks := .later }
def PlayLooseCardSaid : Prop := Claim7.holds Tryz.pinned (.plain (OpenSpec.ofChange playLooseSpec)) playLooseCard

/-- THE TIED CARD OF 'dugoutlaw01.PlayTexts'. -/
def playTextsCard : Claim7 := { stood := { row := playTextsRow, standIns := [], harness := (true, "531036d3ee5cb7aff87b5cffaa980339396344aba1b56e1f63d95c5c501276f5"), looks := false }, kinds := [], alts := [], laidByText := true, laidKinds := [.data, .widerDeep, .widerDeep, .pinned], laidTests := true, laidLooks := .later }
def PlayTextsCardSaid : Prop := Claim7.holds Tryz.pinned (.plain (OpenSpec.ofChange playTextsSpec)) playTextsCard

/-- THE TIED CARD OF 'dugoutlaw01.PlayBack'. -/
def playBackCard : Claim7 := { stood := { row := playBackRow, standIns := [], harness := (true, "531036d3ee5cb7aff87b5cffaa980339396344aba1b56e1f63d95c5c501276f5"), looks := false }, kinds := [], alts := [], laidByText := true, laidKinds := [.data, .widerDeep, .widerDeep, .pinned], laidTests := true, laidLooks := .later }
def PlayBackCardSaid : Prop := Claim7.holds Tryz.pinned (.plain (OpenSpec.ofChange playBackSpec)) playBackCard

/-- THE SECOND FORM's CARD OF 'dugoutlaw01.PlayForms'. -/
def playFormsUptoCard : Claim7 := { stood := { row := playFormsUptoRow, standIns := [], harness := (true, "531036d3ee5cb7aff87b5cffaa980339396344aba1b56e1f63d95c5c501276f5"), looks := false }, kinds := [], alts := [], laidByText := true, laidKinds := [.data, .widerDeep, .widerDeep, .pinned], laidTests := true, laidLooks := .later }
def PlayFormsUptoCardSaid : Prop := Claim7.holds Tryz.pinned (.plain (OpenSpec.upto playFormsSpec)) playFormsUptoCard

/-- THE SECOND FORM's CARD OF 'dugoutlaw01.PlayStrings'. -/
def playStringsUptoCard : Claim7 := { stood := { row := playStringsUptoRow, standIns := [], harness := (true, "531036d3ee5cb7aff87b5cffaa980339396344aba1b56e1f63d95c5c501276f5"), looks := false }, kinds := [], alts := [], laidByText := true, laidKinds := [.data, .widerDeep, .widerDeep, .pinned], laidTests := true, laidLooks := .later }
def PlayStringsUptoCardSaid : Prop := Claim7.holds Tryz.pinned (.plain (OpenSpec.upto playStringsSpec)) playStringsUptoCard

/-- THE SECOND FORM's CARD OF 'dugoutlaw01.PlayFielders'. -/
def playFieldersUptoCard : Claim7 := { stood := { row := playFieldersUptoRow, standIns := [], harness := (true, "531036d3ee5cb7aff87b5cffaa980339396344aba1b56e1f63d95c5c501276f5"), looks := false }, kinds := [], alts := [], laidByText := true, laidKinds := [.data, .widerDeep, .widerDeep, .pinned], laidTests := true, laidLooks := .later }
def PlayFieldersUptoCardSaid : Prop := Claim7.holds Tryz.pinned (.plain (OpenSpec.upto playFieldersSpec)) playFieldersUptoCard

/-- THE SECOND FORM's CARD OF 'dugoutlaw01.PlayNames'. -/
def playNamesUptoCard : Claim7 := { stood := { row := playNamesUptoRow, standIns := [], harness := (true, "531036d3ee5cb7aff87b5cffaa980339396344aba1b56e1f63d95c5c501276f5"), looks := false }, kinds := [], alts := [], laidByText := true, laidKinds := [.data, .widerDeep, .widerDeep, .pinned], laidTests := true, laidLooks := .later }
def PlayNamesUptoCardSaid : Prop := Claim7.holds Tryz.pinned (.plain (OpenSpec.upto playNamesSpec)) playNamesUptoCard

/-- THE SECOND FORM's CARD OF 'dugoutlaw01.PlayCounts'. -/
def playCountsUptoCard : Claim7 := { stood := { row := playCountsUptoRow, standIns := [], harness := (true, "531036d3ee5cb7aff87b5cffaa980339396344aba1b56e1f63d95c5c501276f5"), looks := false }, kinds := [], alts := [], laidByText := true, laidKinds := [.data, .widerDeep, .widerDeep, .pinned], laidTests := true, laidLooks := .later }
def PlayCountsUptoCardSaid : Prop := Claim7.holds Tryz.pinned (.plain (OpenSpec.upto playCountsSpec)) playCountsUptoCard

/-- THE SECOND FORM's CARD OF 'dugoutlaw01.PlaySums'. -/
def playSumsUptoCard : Claim7 := { stood := { row := playSumsUptoRow, standIns := [], harness := (true, "531036d3ee5cb7aff87b5cffaa980339396344aba1b56e1f63d95c5c501276f5"), looks := false }, kinds := [], alts := [], laidByText := true, laidKinds := [.data, .widerDeep, .widerDeep, .pinned], laidTests := true, laidLooks := .later }
def PlaySumsUptoCardSaid : Prop := Claim7.holds Tryz.pinned (.plain (OpenSpec.upto playSumsSpec)) playSumsUptoCard

/-- THE SECOND FORM's CARD OF 'dugoutlaw01.PlayCanons'. -/
def playCanonsUptoCard : Claim7 := { stood := { row := playCanonsUptoRow, standIns := [], harness := (true, "531036d3ee5cb7aff87b5cffaa980339396344aba1b56e1f63d95c5c501276f5"), looks := false }, kinds := [], alts := [], laidByText := true, laidKinds := [.data, .widerDeep, .widerDeep, .pinned], laidTests := true, laidLooks := .later }
def PlayCanonsUptoCardSaid : Prop := Claim7.holds Tryz.pinned (.plain (OpenSpec.upto playCanonsSpec)) playCanonsUptoCard

/-- THE SECOND FORM's CARD OF 'dugoutlaw01.PlayLoose'. -/
def playLooseUptoCard : Claim7 := { stood := { row := playLooseUptoRow, standIns := [], harness := (true, "531036d3ee5cb7aff87b5cffaa980339396344aba1b56e1f63d95c5c501276f5"), looks := false }, kinds := [], alts := [], laidByText := true, laidKinds := [.data, .widerDeep, .widerDeep, .pinned], laidTests := true, laidLooks := .later }
def PlayLooseUptoCardSaid : Prop := Claim7.holds Tryz.pinned (.plain (OpenSpec.upto playLooseSpec)) playLooseUptoCard

/-- THE SECOND FORM's CARD OF 'dugoutlaw01.PlayTexts'. -/
def playTextsUptoCard : Claim7 := { stood := { row := playTextsUptoRow, standIns := [], harness := (true, "531036d3ee5cb7aff87b5cffaa980339396344aba1b56e1f63d95c5c501276f5"), looks := false }, kinds := [], alts := [], laidByText := true, laidKinds := [.data, .widerDeep, .widerDeep, .pinned], laidTests := true, laidLooks := .later }
def PlayTextsUptoCardSaid : Prop := Claim7.holds Tryz.pinned (.plain (OpenSpec.upto playTextsSpec)) playTextsUptoCard

/-- THE SECOND FORM's CARD OF 'dugoutlaw01.PlayBack'. -/
def playBackUptoCard : Claim7 := { stood := { row := playBackUptoRow, standIns := [], harness := (true, "531036d3ee5cb7aff87b5cffaa980339396344aba1b56e1f63d95c5c501276f5"), looks := false }, kinds := [], alts := [], laidByText := true, laidKinds := [.data, .widerDeep, .widerDeep, .pinned], laidTests := true, laidLooks := .later }
def PlayBackUptoCardSaid : Prop := Claim7.holds Tryz.pinned (.plain (OpenSpec.upto playBackSpec)) playBackUptoCard
end Rows
end Go.Proofs.YthlmjjdlmidnlaaGreatDoor
