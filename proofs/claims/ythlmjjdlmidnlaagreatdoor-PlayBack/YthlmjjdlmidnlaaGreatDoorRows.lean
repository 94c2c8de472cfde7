/-
  NARROWER THAN 'FOR EVERY INPUT', by the rows' own cells (each row's printed sentence says how): PlayForms: laid · PlayStrings: laid · PlayFielders: laid · PlayNames: laid · PlayCounts: laid · PlaySums: laid · PlayCanons: laid · PlayLoose: laid · PlayTexts: laid · PlayBack: laid.
  DERIVED. THE GIVEN ROWS OF THIS SEAT. 10 by the template 'for every input the law returns true; each argument reads behind the call as it read before'; 0 by the template 'total and deterministic' (their statements: YthlmjjdlmidnlaaGreatDoorTotals.lean).
  GIVEN WITH THE SEED: the statements are not yours to turn. If you find one false, say at which input.
  Laid BY PROGRAM, IN A SANDBOX (cutbox-rows.mjs): the forced cells as the released guide's own fill.sh prints them over the translation b9f0d06b4a6a860a… (all of the seat's roots in one cut). By AI agents, Wed Nov 11 2026. No macro, syntax, notation, axiom, sorry.
-/
import Derived.Test.YthlmjjdlmidnlaaGreatDoorChecked
import GoSem.PinnedTables
import GoSem.Claim
import GoSem.ClaimJoined
import GoSem.ClaimMapViews
import Derived.JoinedTies
import Derived.KernelRfl
namespace Go.Proofs.YthlmjjdlmidnlaaGreatDoor
/- THE CELL 'sum', in the pinned program and in every row, IS THE sha256 OF THE DUMP (.gsa) THAT YthlmjjdlmidnlaaGreatDoorProg.lean LOADS. Nothing in Lean hashes anything: it is a label: what it is worth is what the hold of that sum in a sandbox is worth. -/
noncomputable def Tryz.pinned : Pinned := { name := "ythlmjjdlmidnlaagreatdoor", sum := "b9f0d06b4a6a860a0c57b214abddbd85b89c1aa00fd0754ad3ecb65836df0aee", checked := Tryz.checked }
namespace Rows
def none {H : Type} : Left H := { results := [], args := [] }

/- WHAT THE LISTED PACKAGE-LEVEL VARIABLES READ AS WHEN THE CALL BEGINS. Each datum BY PROGRAM (the guide's laid-datum.mjs) off the statement by which the dump's own 'gosem.cut.vars' lays the variable. In a bare row this is a premise. The card (YthlmjjdlmidnlaaGreatDoorCards.lean) ties it to the program's text. -/
def laid_unicode_utf8_acceptRanges {H : Type} : DataW H := .agg [.agg [.lit (.int .u8 128), .lit (.int .u8 191)], .agg [.lit (.int .u8 160), .lit (.int .u8 191)], .agg [.lit (.int .u8 128), .lit (.int .u8 159)], .agg [.lit (.int .u8 144), .lit (.int .u8 191)], .agg [.lit (.int .u8 128), .lit (.int .u8 143)], .agg [.lit (.int .u8 0), .lit (.int .u8 0)], .agg [.lit (.int .u8 0), .lit (.int .u8 0)], .agg [.lit (.int .u8 0), .lit (.int .u8 0)], .agg [.lit (.int .u8 0), .lit (.int .u8 0)], .agg [.lit (.int .u8 0), .lit (.int .u8 0)], .agg [.lit (.int .u8 0), .lit (.int .u8 0)], .agg [.lit (.int .u8 0), .lit (.int .u8 0)], .agg [.lit (.int .u8 0), .lit (.int .u8 0)], .agg [.lit (.int .u8 0), .lit (.int .u8 0)], .agg [.lit (.int .u8 0), .lit (.int .u8 0)], .agg [.lit (.int .u8 0), .lit (.int .u8 0)]]
def laid_dugout_play_safe {H : Type} : DataW H := .agg [.agg [.lit (.int .u8 98), .lit (.int .i64 4), .lit (.int .i64 1), .lit (.int .i64 4)], .agg [.lit (.int .u8 97), .lit (.int .i64 4), .lit (.int .i64 1), .lit (.int .i64 4)], .agg [.lit (.int .u8 115), .lit (.int .i64 (-1)), .lit (.int .i64 1), .lit (.int .i64 4)], .agg [.lit (.int .u8 112), .lit (.int .i64 4), .lit (.int .i64 1), .lit (.int .i64 4)], .agg [.lit (.int .u8 107), .lit (.int .i64 (-1)), .lit (.int .i64 1), .lit (.int .i64 4)], .agg [.lit (.int .u8 116), .lit (.int .i64 4), .lit (.int .i64 1), .lit (.int .i64 4)], .agg [.lit (.int .u8 111), .lit (.int .i64 4), .lit (.int .i64 1), .lit (.int .i64 4)]]
def laid_dugout_play_outs {H : Type} : DataW H := .agg [.agg [.lit (.int .u8 102), .lit (.int .i64 1), .lit (.int .i64 1), .lit (.int .i64 1)], .agg [.lit (.int .u8 103), .lit (.int .i64 4), .lit (.int .i64 0), .lit (.int .i64 4)], .agg [.lit (.int .u8 99), .lit (.int .i64 1), .lit (.int .i64 0), .lit (.int .i64 (-1))], .agg [.lit (.int .u8 100), .lit (.int .i64 (-1)), .lit (.int .i64 0), .lit (.int .i64 0)], .agg [.lit (.int .u8 107), .lit (.int .i64 1), .lit (.int .i64 0), .lit (.int .i64 (-1))], .agg [.lit (.int .u8 110), .lit (.int .i64 1), .lit (.int .i64 1), .lit (.int .i64 4)], .agg [.lit (.int .u8 121), .lit (.int .i64 1), .lit (.int .i64 0), .lit (.int .i64 (-1))]]
/-- One of Go's own tables, pinned by name: the form's constant. -/
def laid_unicode_utf8_first : DataW Unit := Go.Pinned.utf8First

/-- 'dugoutlaw01.PlayForms': WHATEVER THE INPUT: true; the input reads as it did. -/
def playFormsSpec : ChangeSpec := { name := "playForms", fn := fun _ => fun
  | [d1, d2] => { results := [.lit (.bool true)], args := [d1, d2] }
  | _ => none }
def playFormsRow : OpenClaim := { program := "ythlmjjdlmidnlaagreatdoor", sum := "b9f0d06b4a6a860a0c57b214abddbd85b89c1aa00fd0754ad3ecb65836df0aee", func := "dugout/dugoutlaw01.PlayForms", spec := "playForms", inPlace := ["internal/bytealg.IndexByteString", "internal/bytealg.IndexString", "internal/abi.NoEscape", "internal/bytealg.MakeNoZero", "internal/bytealg.CountString"], unfollowed := true, recurses := true, named := ["internal/bytealg.MaxLen", "dugout/play.outs", "dugout/play.safe", "unicode/utf8.first", "unicode/utf8.acceptRanges"], apart := false, laid := [("unicode/utf8.acceptRanges", laid_unicode_utf8_acceptRanges), ("dugout/play.safe", laid_dugout_play_safe), ("dugout/play.outs", laid_dugout_play_outs), ("unicode/utf8.first", laid_unicode_utf8_first)] }
def PlayFormsSaid : Prop := playFormsRow.holds Tryz.pinned (OpenSpec.ofChange playFormsSpec)

/-- ITS FALSE NEIGHBOUR: 'it returns false'. Refute it at one input. -/
def playFormsWrong : ChangeSpec := { name := "playForms", fn := fun _ => fun
  | [d1, d2] => { results := [.lit (.bool false)], args := [d1, d2] }
  | _ => none }
def PlayFormsWrongFalsely : Prop := playFormsRow.holds Tryz.pinned (OpenSpec.ofChange playFormsWrong)

/-- 'dugoutlaw01.PlayStrings': WHATEVER THE INPUT: true; the input reads as it did. -/
def playStringsSpec : ChangeSpec := { name := "playStrings", fn := fun _ => fun
  | [d1, d2] => { results := [.lit (.bool true)], args := [d1, d2] }
  | _ => none }
def playStringsRow : OpenClaim := { program := "ythlmjjdlmidnlaagreatdoor", sum := "b9f0d06b4a6a860a0c57b214abddbd85b89c1aa00fd0754ad3ecb65836df0aee", func := "dugout/dugoutlaw01.PlayStrings", spec := "playStrings", inPlace := ["internal/bytealg.IndexByteString", "internal/bytealg.IndexString", "internal/abi.NoEscape", "internal/bytealg.MakeNoZero", "internal/bytealg.CountString"], unfollowed := true, recurses := true, named := ["internal/bytealg.MaxLen", "dugout/play.outs", "dugout/play.safe", "unicode/utf8.first", "unicode/utf8.acceptRanges"], apart := false, laid := [("unicode/utf8.acceptRanges", laid_unicode_utf8_acceptRanges), ("dugout/play.safe", laid_dugout_play_safe), ("dugout/play.outs", laid_dugout_play_outs), ("unicode/utf8.first", laid_unicode_utf8_first)] }
def PlayStringsSaid : Prop := playStringsRow.holds Tryz.pinned (OpenSpec.ofChange playStringsSpec)

/-- ITS FALSE NEIGHBOUR: 'it returns false'. Refute it at one input. -/
def playStringsWrong : ChangeSpec := { name := "playStrings", fn := fun _ => fun
  | [d1, d2] => { results := [.lit (.bool false)], args := [d1, d2] }
  | _ => none }
def PlayStringsWrongFalsely : Prop := playStringsRow.holds Tryz.pinned (OpenSpec.ofChange playStringsWrong)

/-- 'dugoutlaw01.PlayFielders': WHATEVER THE INPUT: true; the input reads as it did. -/
def playFieldersSpec : ChangeSpec := { name := "playFielders", fn := fun _ => fun
  | [d1, d2] => { results := [.lit (.bool true)], args := [d1, d2] }
  | _ => none }
def playFieldersRow : OpenClaim := { program := "ythlmjjdlmidnlaagreatdoor", sum := "b9f0d06b4a6a860a0c57b214abddbd85b89c1aa00fd0754ad3ecb65836df0aee", func := "dugout/dugoutlaw01.PlayFielders", spec := "playFielders", inPlace := ["internal/bytealg.IndexByteString", "internal/bytealg.IndexString", "internal/abi.NoEscape", "internal/bytealg.MakeNoZero", "internal/bytealg.CountString"], unfollowed := true, recurses := true, named := ["internal/bytealg.MaxLen", "dugout/play.outs", "dugout/play.safe", "unicode/utf8.first", "unicode/utf8.acceptRanges"], apart := false, laid := [("unicode/utf8.acceptRanges", laid_unicode_utf8_acceptRanges), ("dugout/play.safe", laid_dugout_play_safe), ("dugout/play.outs", laid_dugout_play_outs), ("unicode/utf8.first", laid_unicode_utf8_first)] }
def PlayFieldersSaid : Prop := playFieldersRow.holds Tryz.pinned (OpenSpec.ofChange playFieldersSpec)

/-- ITS FALSE NEIGHBOUR: 'it returns false'. Refute it at one input. -/
def playFieldersWrong : ChangeSpec := { name := "playFielders", fn := fun _ => fun
  | [d1, d2] => { results := [.lit (.bool false)], args := [d1, d2] }
  | _ => none }
def PlayFieldersWrongFalsely : Prop := playFieldersRow.holds Tryz.pinned (OpenSpec.ofChange playFieldersWrong)

/-- 'dugoutlaw01.PlayNames': WHATEVER THE INPUT: true; the input reads as it did. -/
def playNamesSpec : ChangeSpec := { name := "playNames", fn := fun _ => fun
  | [d1, d2, d3] => { results := [.lit (.bool true)], args := [d1, d2, d3] }
  | _ => none }
def playNamesRow : OpenClaim := { program := "ythlmjjdlmidnlaagreatdoor", sum := "b9f0d06b4a6a860a0c57b214abddbd85b89c1aa00fd0754ad3ecb65836df0aee", func := "dugout/dugoutlaw01.PlayNames", spec := "playNames", inPlace := ["internal/bytealg.IndexByteString", "internal/bytealg.IndexString", "internal/abi.NoEscape", "internal/bytealg.MakeNoZero", "internal/bytealg.CountString"], unfollowed := true, recurses := true, named := ["internal/bytealg.MaxLen", "dugout/play.outs", "dugout/play.safe", "unicode/utf8.first", "unicode/utf8.acceptRanges"], apart := false, laid := [("unicode/utf8.acceptRanges", laid_unicode_utf8_acceptRanges), ("dugout/play.safe", laid_dugout_play_safe), ("dugout/play.outs", laid_dugout_play_outs), ("unicode/utf8.first", laid_unicode_utf8_first)] }
def PlayNamesSaid : Prop := playNamesRow.holds Tryz.pinned (OpenSpec.ofChange playNamesSpec)

/-- ITS FALSE NEIGHBOUR: 'it returns false'. Refute it at one input. -/
def playNamesWrong : ChangeSpec := { name := "playNames", fn := fun _ => fun
  | [d1, d2, d3] => { results := [.lit (.bool false)], args := [d1, d2, d3] }
  | _ => none }
def PlayNamesWrongFalsely : Prop := playNamesRow.holds Tryz.pinned (OpenSpec.ofChange playNamesWrong)

/-- 'dugoutlaw01.PlayCounts': WHATEVER THE INPUT: true; the input reads as it did. -/
def playCountsSpec : ChangeSpec := { name := "playCounts", fn := fun _ => fun
  | [d1, d2, d3] => { results := [.lit (.bool true)], args := [d1, d2, d3] }
  | _ => none }
def playCountsRow : OpenClaim := { program := "ythlmjjdlmidnlaagreatdoor", sum := "b9f0d06b4a6a860a0c57b214abddbd85b89c1aa00fd0754ad3ecb65836df0aee", func := "dugout/dugoutlaw01.PlayCounts", spec := "playCounts", inPlace := ["internal/bytealg.IndexByteString", "internal/bytealg.IndexString", "internal/abi.NoEscape", "internal/bytealg.MakeNoZero", "internal/bytealg.CountString"], unfollowed := true, recurses := true, named := ["internal/bytealg.MaxLen", "dugout/play.outs", "dugout/play.safe", "unicode/utf8.first", "unicode/utf8.acceptRanges"], apart := false, laid := [("unicode/utf8.acceptRanges", laid_unicode_utf8_acceptRanges), ("dugout/play.safe", laid_dugout_play_safe), ("dugout/play.outs", laid_dugout_play_outs), ("unicode/utf8.first", laid_unicode_utf8_first)] }
def PlayCountsSaid : Prop := playCountsRow.holds Tryz.pinned (OpenSpec.ofChange playCountsSpec)

/-- ITS FALSE NEIGHBOUR: 'it returns false'. Refute it at one input. -/
def playCountsWrong : ChangeSpec := { name := "playCounts", fn := fun _ => fun
  | [d1, d2, d3] => { results := [.lit (.bool false)], args := [d1, d2, d3] }
  | _ => none }
def PlayCountsWrongFalsely : Prop := playCountsRow.holds Tryz.pinned (OpenSpec.ofChange playCountsWrong)

/-- 'dugoutlaw01.PlaySums': WHATEVER THE INPUT: true; the input reads as it did. -/
def playSumsSpec : ChangeSpec := { name := "playSums", fn := fun _ => fun
  | [d] => { results := [.lit (.bool true)], args := [d] }
  | _ => none }
def playSumsRow : OpenClaim := { program := "ythlmjjdlmidnlaagreatdoor", sum := "b9f0d06b4a6a860a0c57b214abddbd85b89c1aa00fd0754ad3ecb65836df0aee", func := "dugout/dugoutlaw01.PlaySums", spec := "playSums", inPlace := ["internal/bytealg.IndexByteString", "internal/bytealg.IndexString", "internal/abi.NoEscape", "internal/bytealg.MakeNoZero", "internal/bytealg.CountString"], unfollowed := true, recurses := true, named := ["internal/bytealg.MaxLen", "dugout/play.outs", "dugout/play.safe", "unicode/utf8.first", "unicode/utf8.acceptRanges"], apart := false, laid := [("unicode/utf8.acceptRanges", laid_unicode_utf8_acceptRanges), ("dugout/play.safe", laid_dugout_play_safe), ("dugout/play.outs", laid_dugout_play_outs), ("unicode/utf8.first", laid_unicode_utf8_first)] }
def PlaySumsSaid : Prop := playSumsRow.holds Tryz.pinned (OpenSpec.ofChange playSumsSpec)

/-- ITS FALSE NEIGHBOUR: 'it returns false'. Refute it at one input. -/
def playSumsWrong : ChangeSpec := { name := "playSums", fn := fun _ => fun
  | [d] => { results := [.lit (.bool false)], args := [d] }
  | _ => none }
def PlaySumsWrongFalsely : Prop := playSumsRow.holds Tryz.pinned (OpenSpec.ofChange playSumsWrong)

/-- 'dugoutlaw01.PlayCanons': WHATEVER THE INPUT: true; the input reads as it did. -/
def playCanonsSpec : ChangeSpec := { name := "playCanons", fn := fun _ => fun
  | [d1, d2] => { results := [.lit (.bool true)], args := [d1, d2] }
  | _ => none }
def playCanonsRow : OpenClaim := { program := "ythlmjjdlmidnlaagreatdoor", sum := "b9f0d06b4a6a860a0c57b214abddbd85b89c1aa00fd0754ad3ecb65836df0aee", func := "dugout/dugoutlaw01.PlayCanons", spec := "playCanons", inPlace := ["internal/bytealg.IndexByteString", "internal/bytealg.IndexString", "internal/abi.NoEscape", "internal/bytealg.MakeNoZero", "internal/bytealg.CountString"], unfollowed := true, recurses := true, named := ["internal/bytealg.MaxLen", "dugout/play.outs", "dugout/play.safe", "unicode/utf8.first", "unicode/utf8.acceptRanges"], apart := false, laid := [("unicode/utf8.acceptRanges", laid_unicode_utf8_acceptRanges), ("dugout/play.safe", laid_dugout_play_safe), ("dugout/play.outs", laid_dugout_play_outs), ("unicode/utf8.first", laid_unicode_utf8_first)] }
def PlayCanonsSaid : Prop := playCanonsRow.holds Tryz.pinned (OpenSpec.ofChange playCanonsSpec)

/-- ITS FALSE NEIGHBOUR: 'it returns false'. Refute it at one input. -/
def playCanonsWrong : ChangeSpec := { name := "playCanons", fn := fun _ => fun
  | [d1, d2] => { results := [.lit (.bool false)], args := [d1, d2] }
  | _ => none }
def PlayCanonsWrongFalsely : Prop := playCanonsRow.holds Tryz.pinned (OpenSpec.ofChange playCanonsWrong)

/-- 'dugoutlaw01.PlayLoose': WHATEVER THE INPUT: true; the input reads as it did. -/
def playLooseSpec : ChangeSpec := { name := "playLoose", fn := fun _ => fun
  | [d1, d2, d3] => { results := [.lit (.bool true)], args := [d1, d2, d3] }
  | _ => none }
def playLooseRow : OpenClaim := { program := "ythlmjjdlmidnlaagreatdoor", sum := "b9f0d06b4a6a860a0c57b214abddbd85b89c1aa00fd0754ad3ecb65836df0aee", func := "dugout/dugoutlaw01.PlayLoose", spec := "playLoose", inPlace := ["internal/bytealg.IndexByteString", "internal/bytealg.IndexString", "internal/abi.NoEscape", "internal/bytealg.MakeNoZero", "internal/bytealg.CountString"], unfollowed := true, recurses := true, named := ["internal/bytealg.MaxLen", "dugout/play.outs", "dugout/play.safe", "unicode/utf8.first", "unicode/utf8.acceptRanges"], apart := false, laid := [("unicode/utf8.acceptRanges", laid_unicode_utf8_acceptRanges), ("dugout/play.safe", laid_dugout_play_safe), ("dugout/play.outs", laid_dugout_play_outs), ("unicode/utf8.first", laid_unicode_utf8_first)] }
def PlayLooseSaid : Prop := playLooseRow.holds Tryz.pinned (OpenSpec.ofChange playLooseSpec)

/-- ITS FALSE NEIGHBOUR: 'it returns false'. Refute it at one input. -/
def playLooseWrong : ChangeSpec := { name := "playLoose", fn := fun _ => fun
  | [d1, d2, d3] => { results := [.lit (.bool false)], args := [d1, d2, d3] }
  | _ => none }
def PlayLooseWrongFalsely : Prop := playLooseRow.holds Tryz.pinned (OpenSpec.ofChange playLooseWrong)

/-- 'dugoutlaw01.PlayTexts': WHATEVER THE INPUT: true; the input reads as it did. -/
def playTextsSpec : ChangeSpec := { name := "playTexts", fn := fun _ => fun
  | [d1, d2] => { results := [.lit (.bool true)], args := [d1, d2] }
  | _ => none }
def playTextsRow : OpenClaim := { program := "ythlmjjdlmidnlaagreatdoor", sum := "b9f0d06b4a6a860a0c57b214abddbd85b89c1aa00fd0754ad3ecb65836df0aee", func := "dugout/dugoutlaw01.PlayTexts", spec := "playTexts", inPlace := ["internal/bytealg.IndexByteString", "internal/bytealg.IndexString", "internal/abi.NoEscape", "internal/bytealg.MakeNoZero", "internal/bytealg.CountString"], unfollowed := true, recurses := true, named := ["internal/bytealg.MaxLen", "dugout/play.outs", "dugout/play.safe", "unicode/utf8.first", "unicode/utf8.acceptRanges"], apart := false, laid := [("unicode/utf8.acceptRanges", laid_unicode_utf8_acceptRanges), ("dugout/play.safe", laid_dugout_play_safe), ("dugout/play.outs", laid_dugout_play_outs), ("unicode/utf8.first", laid_unicode_utf8_first)] }
def PlayTextsSaid : Prop := playTextsRow.holds Tryz.pinned (OpenSpec.ofChange playTextsSpec)

/-- ITS FALSE NEIGHBOUR: 'it returns false'. Refute it at one input. -/
def playTextsWrong : ChangeSpec := { name := "playTexts", fn := fun _ => fun
  | [d1, d2] => { results := [.lit (.bool false)], args := [d1, d2] }
  | _ => none }
def PlayTextsWrongFalsely : Prop := playTextsRow.holds Tryz.pinned (OpenSpec.ofChange playTextsWrong)

/-- 'dugoutlaw01.PlayBack': WHATEVER THE INPUT: true; the input reads as it did. -/
def playBackSpec : ChangeSpec := { name := "playBack", fn := fun _ => fun
  | [d1, d2, d3] => { results := [.lit (.bool true)], args := [d1, d2, d3] }
  | _ => none }
def playBackRow : OpenClaim := { program := "ythlmjjdlmidnlaagreatdoor", sum := "b9f0d06b4a6a860a0c57b214abddbd85b89c1aa00fd0754ad3ecb65836df0aee", func := "dugout/dugoutlaw01.PlayBack", spec := "playBack", inPlace := ["internal/bytealg.IndexByteString", "internal/bytealg.IndexString", "internal/abi.NoEscape", "internal/bytealg.MakeNoZero", "internal/bytealg.CountString"], unfollowed := true, recurses := true, named := ["internal/bytealg.MaxLen", "dugout/play.outs", "dugout/play.safe", "unicode/utf8.first", "unicode/utf8.acceptRanges"], apart := false, laid := [("unicode/utf8.acceptRanges", laid_unicode_utf8_acceptRanges), ("dugout/play.safe", laid_dugout_play_safe), ("dugout/play.outs", laid_dugout_play_outs), ("unicode/utf8.first", laid_unicode_utf8_first)] }
def PlayBackSaid : Prop := playBackRow.holds Tryz.pinned (OpenSpec.ofChange playBackSpec)

/-- ITS FALSE NEIGHBOUR: 'it returns false'. Refute it at one input. -/
def playBackWrong : ChangeSpec := { name := "playBack", fn := fun _ => fun
  | [d1, d2, d3] => { results := [.lit (.bool false)], args := [d1, d2, d3] }
  | _ => none }
def PlayBackWrongFalsely : Prop := playBackRow.holds Tryz.pinned (OpenSpec.ofChange playBackWrong)

/- THE SECOND FORM. 'bulk': how many values and letters a reading holds, each counted each time it is reached (what is shared counts as often as it is met; a slice's spare places count too). A statement '..UptoSaid' is the law's where the arguments, and the package variables that the reading takes, are together of bulk at most 1048576: NARROWER than '..Said'. Prove '..Said' where nothing that the law and all that it calls make is longer than what came in: it says more and counts as full. Else prove '..UptoSaid'. A law counts once. -/
mutual
def uptoBulk {H : Type} : DataW H → Nat
  | .lit (.string bytes) => bytes.length + 1
  | .lit _ => 1
  | .nil => 1
  | .ptr d => uptoBulk d + 1
  | .slice elems spare => uptoBulkAll elems + uptoBulkAll spare + 1
  | .agg parts => uptoBulkAll parts + 1
  | .iface _ d => uptoBulk d + 1
  | .map entries => uptoBulkEntries entries + 1
  | .held _ => 1
def uptoBulkAll {H : Type} : List (DataW H) → Nat
  | [] => 0
  | d :: r => uptoBulk d + uptoBulkAll r
def uptoBulkEntries {H : Type} : List (Lit × DataW H) → Nat
  | [] => 0
  | x :: r => uptoBulkEntry x + uptoBulkEntries r
def uptoBulkEntry {H : Type} : Lit × DataW H → Nat
  | (.string bytes, d) => bytes.length + uptoBulk d + 1
  | (_, d) => uptoBulk d + 1
 end
def uptoSmall : (H : Type) → List (DataW H) → Bool := fun _ ds => decide (uptoBulkAll ds ≤ 1048576)
def OpenSpec.upto (s : _root_.Go.ChangeSpec) : _root_.Go.OpenSpec := { _root_.Go.OpenSpec.ofChange s with cond := some uptoSmall }

/-- 'dugoutlaw01.PlayForms', WHERE WHAT IT READS IS OF BULK AT MOST 1048576: true; the input reads as it did. -/
def playFormsUptoRow : OpenClaim := { program := "ythlmjjdlmidnlaagreatdoor", sum := "b9f0d06b4a6a860a0c57b214abddbd85b89c1aa00fd0754ad3ecb65836df0aee", func := "dugout/dugoutlaw01.PlayForms", spec := "playForms", inPlace := ["internal/bytealg.IndexByteString", "internal/bytealg.IndexString", "internal/abi.NoEscape", "internal/bytealg.MakeNoZero", "internal/bytealg.CountString"], unfollowed := true, recurses := true, named := ["internal/bytealg.MaxLen", "dugout/play.outs", "dugout/play.safe", "unicode/utf8.first", "unicode/utf8.acceptRanges"], apart := false, laid := [("unicode/utf8.acceptRanges", laid_unicode_utf8_acceptRanges), ("dugout/play.safe", laid_dugout_play_safe), ("dugout/play.outs", laid_dugout_play_outs), ("unicode/utf8.first", laid_unicode_utf8_first)], narrowed := true }
def PlayFormsUptoSaid : Prop := playFormsUptoRow.holds Tryz.pinned (OpenSpec.upto playFormsSpec)

/-- 'dugoutlaw01.PlayStrings', WHERE WHAT IT READS IS OF BULK AT MOST 1048576: true; the input reads as it did. -/
def playStringsUptoRow : OpenClaim := { program := "ythlmjjdlmidnlaagreatdoor", sum := "b9f0d06b4a6a860a0c57b214abddbd85b89c1aa00fd0754ad3ecb65836df0aee", func := "dugout/dugoutlaw01.PlayStrings", spec := "playStrings", inPlace := ["internal/bytealg.IndexByteString", "internal/bytealg.IndexString", "internal/abi.NoEscape", "internal/bytealg.MakeNoZero", "internal/bytealg.CountString"], unfollowed := true, recurses := true, named := ["internal/bytealg.MaxLen", "dugout/play.outs", "dugout/play.safe", "unicode/utf8.first", "unicode/utf8.acceptRanges"], apart := false, laid := [("unicode/utf8.acceptRanges", laid_unicode_utf8_acceptRanges), ("dugout/play.safe", laid_dugout_play_safe), ("dugout/play.outs", laid_dugout_play_outs), ("unicode/utf8.first", laid_unicode_utf8_first)], narrowed := true }
def PlayStringsUptoSaid : Prop := playStringsUptoRow.holds Tryz.pinned (OpenSpec.upto playStringsSpec)

/-- 'dugoutlaw01.PlayFielders', WHERE WHAT IT READS IS OF BULK AT MOST 1048576: true; the input reads as it did. -/
def playFieldersUptoRow : OpenClaim := { program := "ythlmjjdlmidnlaagreatdoor", sum := "b9f0d06b4a6a860a0c57b214abddbd85b89c1aa00fd0754ad3ecb65836df0aee", func := "dugout/dugoutlaw01.PlayFielders", spec := "playFielders", inPlace := ["internal/bytealg.IndexByteString", "internal/bytealg.IndexString", "internal/abi.NoEscape", "internal/bytealg.MakeNoZero", "internal/bytealg.CountString"], unfollowed := true, recurses := true, named := ["internal/bytealg.MaxLen", "dugout/play.outs", "dugout/play.safe", "unicode/utf8.first", "unicode/utf8.acceptRanges"], apart := false, laid := [("unicode/utf8.acceptRanges", laid_unicode_utf8_acceptRanges), ("dugout/play.safe", laid_dugout_play_safe), ("dugout/play.outs", laid_dugout_play_outs), ("unicode/utf8.first", laid_unicode_utf8_first)], narrowed := true }
def PlayFieldersUptoSaid : Prop := playFieldersUptoRow.holds Tryz.pinned (OpenSpec.upto playFieldersSpec)

/-- 'dugoutlaw01.PlayNames', WHERE WHAT IT READS IS OF BULK AT MOST 1048576: true; the input reads as it did. -/
def playNamesUptoRow : OpenClaim := { program := "ythlmjjdlmidnlaagreatdoor", sum := "b9f0d06b4a6a860a0c57b214abddbd85b89c1aa00fd0754ad3ecb65836df0aee", func := "dugout/dugoutlaw01.PlayNames", spec := "playNames", inPlace := ["internal/bytealg.IndexByteString", "internal/bytealg.IndexString", "internal/abi.NoEscape", "internal/bytealg.MakeNoZero", "internal/bytealg.CountString"], unfollowed := true, recurses := true, named := ["internal/bytealg.MaxLen", "dugout/play.outs", "dugout/play.safe", "unicode/utf8.first", "unicode/utf8.acceptRanges"], apart := false, laid := [("unicode/utf8.acceptRanges", laid_unicode_utf8_acceptRanges), ("dugout/play.safe", laid_dugout_play_safe), ("dugout/play.outs", laid_dugout_play_outs), ("unicode/utf8.first", laid_unicode_utf8_first)], narrowed := true }
def PlayNamesUptoSaid : Prop := playNamesUptoRow.holds Tryz.pinned (OpenSpec.upto playNamesSpec)

/-- 'dugoutlaw01.PlayCounts', WHERE WHAT IT READS IS OF BULK AT MOST 1048576: true; the input reads as it did. -/
def playCountsUptoRow : OpenClaim := { program := "ythlmjjdlmidnlaagreatdoor", sum := "b9f0d06b4a6a860a0c57b214abddbd85b89c1aa00fd0754ad3ecb65836df0aee", func := "dugout/dugoutlaw01.PlayCounts", spec := "playCounts", inPlace := ["internal/bytealg.IndexByteString", "internal/bytealg.IndexString", "internal/abi.NoEscape", "internal/bytealg.MakeNoZero", "internal/bytealg.CountString"], unfollowed := true, recurses := true, named := ["internal/bytealg.MaxLen", "dugout/play.outs", "dugout/play.safe", "unicode/utf8.first", "unicode/utf8.acceptRanges"], apart := false, laid := [("unicode/utf8.acceptRanges", laid_unicode_utf8_acceptRanges), ("dugout/play.safe", laid_dugout_play_safe), ("dugout/play.outs", laid_dugout_play_outs), ("unicode/utf8.first", laid_unicode_utf8_first)], narrowed := true }
def PlayCountsUptoSaid : Prop := playCountsUptoRow.holds Tryz.pinned (OpenSpec.upto playCountsSpec)

/-- 'dugoutlaw01.PlaySums', WHERE WHAT IT READS IS OF BULK AT MOST 1048576: true; the input reads as it did. -/
def playSumsUptoRow : OpenClaim := { program := "ythlmjjdlmidnlaagreatdoor", sum := "b9f0d06b4a6a860a0c57b214abddbd85b89c1aa00fd0754ad3ecb65836df0aee", func := "dugout/dugoutlaw01.PlaySums", spec := "playSums", inPlace := ["internal/bytealg.IndexByteString", "internal/bytealg.IndexString", "internal/abi.NoEscape", "internal/bytealg.MakeNoZero", "internal/bytealg.CountString"], unfollowed := true, recurses := true, named := ["internal/bytealg.MaxLen", "dugout/play.outs", "dugout/play.safe", "unicode/utf8.first", "unicode/utf8.acceptRanges"], apart := false, laid := [("unicode/utf8.acceptRanges", laid_unicode_utf8_acceptRanges), ("dugout/play.safe", laid_dugout_play_safe), ("dugout/play.outs", laid_dugout_play_outs), ("unicode/utf8.first", laid_unicode_utf8_first)], narrowed := true }
def PlaySumsUptoSaid : Prop := playSumsUptoRow.holds Tryz.pinned (OpenSpec.upto playSumsSpec)

/-- 'dugoutlaw01.PlayCanons', WHERE WHAT IT READS IS OF BULK AT MOST 1048576: true; the input reads as it did. -/
def playCanonsUptoRow : OpenClaim := { program := "ythlmjjdlmidnlaagreatdoor", sum := "b9f0d06b4a6a860a0c57b214abddbd85b89c1aa00fd0754ad3ecb65836df0aee", func := "dugout/dugoutlaw01.PlayCanons", spec := "playCanons", inPlace := ["internal/bytealg.IndexByteString", "internal/bytealg.IndexString", "internal/abi.NoEscape", "internal/bytealg.MakeNoZero", "internal/bytealg.CountString"], unfollowed := true, recurses := true, named := ["internal/bytealg.MaxLen", "dugout/play.outs", "dugout/play.safe", "unicode/utf8.first", "unicode/utf8.acceptRanges"], apart := false, laid := [("unicode/utf8.acceptRanges", laid_unicode_utf8_acceptRanges), ("dugout/play.safe", laid_dugout_play_safe), ("dugout/play.outs", laid_dugout_play_outs), ("unicode/utf8.first", laid_unicode_utf8_first)], narrowed := true }
def PlayCanonsUptoSaid : Prop := playCanonsUptoRow.holds Tryz.pinned (OpenSpec.upto playCanonsSpec)

/-- 'dugoutlaw01.PlayLoose', WHERE WHAT IT READS IS OF BULK AT MOST 1048576: true; the input reads as it did. -/
def playLooseUptoRow : OpenClaim := { program := "ythlmjjdlmidnlaagreatdoor", sum := "b9f0d06b4a6a860a0c57b214abddbd85b89c1aa00fd0754ad3ecb65836df0aee", func := "dugout/dugoutlaw01.PlayLoose", spec := "playLoose", inPlace := ["internal/bytealg.IndexByteString", "internal/bytealg.IndexString", "internal/abi.NoEscape", "internal/bytealg.MakeNoZero", "internal/bytealg.CountString"], unfollowed := true, recurses := true, named := ["internal/bytealg.MaxLen", "dugout/play.outs", "dugout/play.safe", "unicode/utf8.first", "unicode/utf8.acceptRanges"], apart := false, laid := [("unicode/utf8.acceptRanges", laid_unicode_utf8_acceptRanges), ("dugout/play.safe", laid_dugout_play_safe), ("dugout/play.outs", laid_dugout_play_outs), ("unicode/utf8.first", laid_unicode_utf8_first)], narrowed := true }
def PlayLooseUptoSaid : Prop := playLooseUptoRow.holds Tryz.pinned (OpenSpec.upto playLooseSpec)

/-- 'dugoutlaw01.PlayTexts', WHERE WHAT IT READS IS OF BULK AT MOST 1048576: true; the input reads as it did. -/
def playTextsUptoRow : OpenClaim := { program := "ythlmjjdlmidnlaagreatdoor", sum := "b9f0d06b4a6a860a0c57b214abddbd85b89c1aa00fd0754ad3ecb65836df0aee", func := "dugout/dugoutlaw01.PlayTexts", spec := "playTexts", inPlace := ["internal/bytealg.IndexByteString", "internal/bytealg.IndexString", "internal/abi.NoEscape", "internal/bytealg.MakeNoZero", "internal/bytealg.CountString"], unfollowed := true, recurses := true, named := ["internal/bytealg.MaxLen", "dugout/play.outs", "dugout/play.safe", "unicode/utf8.first", "unicode/utf8.acceptRanges"], apart := false, laid := [("unicode/utf8.acceptRanges", laid_unicode_utf8_acceptRanges), ("dugout/play.safe", laid_dugout_play_safe), ("dugout/play.outs", laid_dugout_play_outs), ("unicode/utf8.first", laid_unicode_utf8_first)], narrowed := true }
def PlayTextsUptoSaid : Prop := playTextsUptoRow.holds Tryz.pinned (OpenSpec.upto playTextsSpec)

/-- 'dugoutlaw01.PlayBack', WHERE WHAT IT READS IS OF BULK AT MOST 1048576: true; the input reads as it did. -/
def playBackUptoRow : OpenClaim := { program := "ythlmjjdlmidnlaagreatdoor", sum := "b9f0d06b4a6a860a0c57b214abddbd85b89c1aa00fd0754ad3ecb65836df0aee", func := "dugout/dugoutlaw01.PlayBack", spec := "playBack", inPlace := ["internal/bytealg.IndexByteString", "internal/bytealg.IndexString", "internal/abi.NoEscape", "internal/bytealg.MakeNoZero", "internal/bytealg.CountString"], unfollowed := true, recurses := true, named := ["internal/bytealg.MaxLen", "dugout/play.outs", "dugout/play.safe", "unicode/utf8.first", "unicode/utf8.acceptRanges"], apart := false, laid := [("unicode/utf8.acceptRanges", laid_unicode_utf8_acceptRanges), ("dugout/play.safe", laid_dugout_play_safe), ("dugout/play.outs", laid_dugout_play_outs), ("unicode/utf8.first", laid_unicode_utf8_first)], narrowed := true }
def PlayBackUptoSaid : Prop := playBackUptoRow.holds Tryz.pinned (OpenSpec.upto playBackSpec)

end Rows
end Go.Proofs.YthlmjjdlmidnlaaGreatDoor
