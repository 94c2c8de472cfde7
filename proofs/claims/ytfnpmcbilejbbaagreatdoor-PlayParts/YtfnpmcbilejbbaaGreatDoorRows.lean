/-
  NARROWER THAN 'FOR EVERY INPUT', by the rows' own cells (each row's printed sentence says how): PlayRates: laid · PlayParts: laid · PlayOrders: laid.
  DERIVED. THE GIVEN ROWS OF THIS SEAT. 3 by the template 'for every input the law returns true; each argument reads behind the call as it read before'; 0 by the template 'total and deterministic' (their statements: YtfnpmcbilejbbaaGreatDoorTotals.lean).
  GIVEN WITH THE SEED: the statements are not yours to turn. If you find one false, say at which input.
  Laid BY PROGRAM, IN A SANDBOX (cutbox-rows.mjs): the forced cells as the released guide's own fill.sh prints them over the translation 37bcd01155a1ab15… (all of the seat's roots in one cut). By AI agents, Wed Nov 11 2026. No macro, syntax, notation, axiom, sorry.
-/
import Derived.Test.YtfnpmcbilejbbaaGreatDoorChecked
import GoSem.PinnedTables
import GoSem.Claim
import GoSem.ClaimJoined
import GoSem.ClaimMapViews
import Derived.JoinedTies
import Derived.KernelRfl
namespace Go.Proofs.YtfnpmcbilejbbaaGreatDoor
/- THE CELL 'sum', in the pinned program and in every row, IS THE sha256 OF THE DUMP (.gsa) THAT YtfnpmcbilejbbaaGreatDoorProg.lean LOADS. Nothing in Lean hashes anything: it is a label: what it is worth is what the hold of that sum in a sandbox is worth. -/
noncomputable def Tryz.pinned : Pinned := { name := "ytfnpmcbilejbbaagreatdoor", sum := "37bcd01155a1ab155f2c6f67e50a00d5d51c82144ffac2a46fd9e9f61f792db8", checked := Tryz.checked }
namespace Rows
def none {H : Type} : Left H := { results := [], args := [] }

/- WHAT THE LISTED PACKAGE-LEVEL VARIABLES READ AS WHEN THE CALL BEGINS. Each datum BY PROGRAM (the guide's laid-datum.mjs) off the statement by which the dump's own 'gosem.cut.vars' lays the variable. In a bare row this is a premise. The card (YtfnpmcbilejbbaaGreatDoorCards.lean) ties it to the program's text. -/
def laid_unicode_utf8_acceptRanges {H : Type} : DataW H := .agg [.agg [.lit (.int .u8 128), .lit (.int .u8 191)], .agg [.lit (.int .u8 160), .lit (.int .u8 191)], .agg [.lit (.int .u8 128), .lit (.int .u8 159)], .agg [.lit (.int .u8 144), .lit (.int .u8 191)], .agg [.lit (.int .u8 128), .lit (.int .u8 143)], .agg [.lit (.int .u8 0), .lit (.int .u8 0)], .agg [.lit (.int .u8 0), .lit (.int .u8 0)], .agg [.lit (.int .u8 0), .lit (.int .u8 0)], .agg [.lit (.int .u8 0), .lit (.int .u8 0)], .agg [.lit (.int .u8 0), .lit (.int .u8 0)], .agg [.lit (.int .u8 0), .lit (.int .u8 0)], .agg [.lit (.int .u8 0), .lit (.int .u8 0)], .agg [.lit (.int .u8 0), .lit (.int .u8 0)], .agg [.lit (.int .u8 0), .lit (.int .u8 0)], .agg [.lit (.int .u8 0), .lit (.int .u8 0)], .agg [.lit (.int .u8 0), .lit (.int .u8 0)]]
def laid_dugout_play_safe {H : Type} : DataW H := .agg [.agg [.lit (.int .u8 98), .lit (.int .i64 4), .lit (.int .i64 1), .lit (.int .i64 4)], .agg [.lit (.int .u8 97), .lit (.int .i64 4), .lit (.int .i64 1), .lit (.int .i64 4)], .agg [.lit (.int .u8 115), .lit (.int .i64 (-1)), .lit (.int .i64 1), .lit (.int .i64 4)], .agg [.lit (.int .u8 112), .lit (.int .i64 4), .lit (.int .i64 1), .lit (.int .i64 4)], .agg [.lit (.int .u8 107), .lit (.int .i64 (-1)), .lit (.int .i64 1), .lit (.int .i64 4)], .agg [.lit (.int .u8 116), .lit (.int .i64 4), .lit (.int .i64 1), .lit (.int .i64 4)], .agg [.lit (.int .u8 111), .lit (.int .i64 4), .lit (.int .i64 1), .lit (.int .i64 4)]]
def laid_dugout_play_outs {H : Type} : DataW H := .agg [.agg [.lit (.int .u8 102), .lit (.int .i64 1), .lit (.int .i64 1), .lit (.int .i64 1)], .agg [.lit (.int .u8 103), .lit (.int .i64 4), .lit (.int .i64 0), .lit (.int .i64 4)], .agg [.lit (.int .u8 99), .lit (.int .i64 1), .lit (.int .i64 0), .lit (.int .i64 (-1))], .agg [.lit (.int .u8 100), .lit (.int .i64 (-1)), .lit (.int .i64 0), .lit (.int .i64 0)], .agg [.lit (.int .u8 107), .lit (.int .i64 1), .lit (.int .i64 0), .lit (.int .i64 (-1))], .agg [.lit (.int .u8 110), .lit (.int .i64 1), .lit (.int .i64 1), .lit (.int .i64 4)], .agg [.lit (.int .u8 121), .lit (.int .i64 1), .lit (.int .i64 0), .lit (.int .i64 (-1))]]
/-- One of Go's own tables, pinned by name: the form's constant. -/
def laid_unicode_utf8_first : DataW Unit := Go.Pinned.utf8First

/-- 'dugoutlaw01.PlayRates': WHATEVER THE INPUT: true; the input reads as it did. -/
def playRatesSpec : ChangeSpec := { name := "playRates", fn := fun _ => fun
  | [d1, d2] => { results := [.lit (.bool true)], args := [d1, d2] }
  | _ => none }
def playRatesRow : OpenClaim := { program := "ytfnpmcbilejbbaagreatdoor", sum := "37bcd01155a1ab155f2c6f67e50a00d5d51c82144ffac2a46fd9e9f61f792db8", func := "dugout/dugoutlaw01.PlayRates", spec := "playRates", inPlace := ["internal/bytealg.IndexByteString", "internal/bytealg.IndexString", "internal/abi.NoEscape", "internal/bytealg.MakeNoZero", "internal/bytealg.CountString"], unfollowed := true, recurses := true, named := ["internal/bytealg.MaxLen", "dugout/play.outs", "dugout/play.safe", "unicode/utf8.first", "unicode/utf8.acceptRanges"], apart := false, laid := [("unicode/utf8.acceptRanges", laid_unicode_utf8_acceptRanges), ("dugout/play.safe", laid_dugout_play_safe), ("dugout/play.outs", laid_dugout_play_outs), ("unicode/utf8.first", laid_unicode_utf8_first)] }
def PlayRatesSaid : Prop := playRatesRow.holds Tryz.pinned (OpenSpec.ofChange playRatesSpec)

/-- ITS FALSE NEIGHBOUR: 'it returns false'. Refute it at one input. -/
def playRatesWrong : ChangeSpec := { name := "playRates", fn := fun _ => fun
  | [d1, d2] => { results := [.lit (.bool false)], args := [d1, d2] }
  | _ => none }
def PlayRatesWrongFalsely : Prop := playRatesRow.holds Tryz.pinned (OpenSpec.ofChange playRatesWrong)

/-- 'dugoutlaw01.PlayParts': WHATEVER THE INPUT: true; the input reads as it did. -/
def playPartsSpec : ChangeSpec := { name := "playParts", fn := fun _ => fun
  | [d1, d2, d3] => { results := [.lit (.bool true)], args := [d1, d2, d3] }
  | _ => none }
def playPartsRow : OpenClaim := { program := "ytfnpmcbilejbbaagreatdoor", sum := "37bcd01155a1ab155f2c6f67e50a00d5d51c82144ffac2a46fd9e9f61f792db8", func := "dugout/dugoutlaw01.PlayParts", spec := "playParts", inPlace := ["internal/bytealg.IndexByteString", "internal/bytealg.IndexString", "internal/abi.NoEscape", "internal/bytealg.MakeNoZero", "internal/bytealg.CountString"], unfollowed := true, recurses := true, named := ["internal/bytealg.MaxLen", "dugout/play.outs", "dugout/play.safe", "unicode/utf8.first", "unicode/utf8.acceptRanges"], apart := false, laid := [("unicode/utf8.acceptRanges", laid_unicode_utf8_acceptRanges), ("dugout/play.safe", laid_dugout_play_safe), ("dugout/play.outs", laid_dugout_play_outs), ("unicode/utf8.first", laid_unicode_utf8_first)] }
def PlayPartsSaid : Prop := playPartsRow.holds Tryz.pinned (OpenSpec.ofChange playPartsSpec)

/-- ITS FALSE NEIGHBOUR: 'it returns false'. Refute it at one input. -/
def playPartsWrong : ChangeSpec := { name := "playParts", fn := fun _ => fun
  | [d1, d2, d3] => { results := [.lit (.bool false)], args := [d1, d2, d3] }
  | _ => none }
def PlayPartsWrongFalsely : Prop := playPartsRow.holds Tryz.pinned (OpenSpec.ofChange playPartsWrong)

/-- 'dugoutlaw01.PlayOrders': WHATEVER THE INPUT: true; the input reads as it did. -/
def playOrdersSpec : ChangeSpec := { name := "playOrders", fn := fun _ => fun
  | [d1, d2, d3] => { results := [.lit (.bool true)], args := [d1, d2, d3] }
  | _ => none }
def playOrdersRow : OpenClaim := { program := "ytfnpmcbilejbbaagreatdoor", sum := "37bcd01155a1ab155f2c6f67e50a00d5d51c82144ffac2a46fd9e9f61f792db8", func := "dugout/dugoutlaw01.PlayOrders", spec := "playOrders", inPlace := ["internal/bytealg.IndexByteString", "internal/bytealg.IndexString", "internal/abi.NoEscape", "internal/bytealg.MakeNoZero", "internal/bytealg.CountString"], unfollowed := true, recurses := true, named := ["internal/bytealg.MaxLen", "dugout/play.outs", "dugout/play.safe", "unicode/utf8.first", "unicode/utf8.acceptRanges"], apart := false, laid := [("unicode/utf8.acceptRanges", laid_unicode_utf8_acceptRanges), ("dugout/play.safe", laid_dugout_play_safe), ("dugout/play.outs", laid_dugout_play_outs), ("unicode/utf8.first", laid_unicode_utf8_first)] }
def PlayOrdersSaid : Prop := playOrdersRow.holds Tryz.pinned (OpenSpec.ofChange playOrdersSpec)

/-- ITS FALSE NEIGHBOUR: 'it returns false'. Refute it at one input. -/
def playOrdersWrong : ChangeSpec := { name := "playOrders", fn := fun _ => fun
  | [d1, d2, d3] => { results := [.lit (.bool false)], args := [d1, d2, d3] }
  | _ => none }
def PlayOrdersWrongFalsely : Prop := playOrdersRow.holds Tryz.pinned (OpenSpec.ofChange playOrdersWrong)

/- THE SECOND FORM. 'bulk': how many values and letters a reading holds, each counted each time it is reached (what is shared counts as often as it is met; a slice's spare places count too). A statement '..UptoSaid' is the law's where the arguments, and the package variables that the reading takes, are together of bulk at most 1048576: NARROWER than '..Said'. Prove '..Said' where nothing that the law and all that it calls make is longer than what came in: it says more and counts as full. Else prove '..UptoSaid'. A law counts once. -/
mutual
def uptoBulk {H : Type} : DataW H → Nat
  | .lit (.string bytes) => bytes.length + 1
  | .lit _ => 1
  | .nil => 1
  | .ptr d => uptoBulk d + 1
  | .slice elems spare => uptoBulkAll elems + uptoBulkAll spare + 1
  | .agg parts => uptoBulkAll parts + 1
  | .iface _ d => uptoBulk d + 1
  | .map entries => uptoBulkEntries entries + 1
  | .held _ => 1
def uptoBulkAll {H : Type} : List (DataW H) → Nat
  | [] => 0
  | d :: r => uptoBulk d + uptoBulkAll r
def uptoBulkEntries {H : Type} : List (Lit × DataW H) → Nat
  | [] => 0
  | x :: r => uptoBulkEntry x + uptoBulkEntries r
def uptoBulkEntry {H : Type} : Lit × DataW H → Nat
  | (.string bytes, d) => bytes.length + uptoBulk d + 1
  | (_, d) => uptoBulk d + 1
 end
def uptoSmall : (H : Type) → List (DataW H) → Bool := fun _ ds => decide (uptoBulkAll ds ≤ 1048576)
def OpenSpec.upto (s : _root_.Go.ChangeSpec) : _root_.Go.OpenSpec := { _root_.Go.OpenSpec.ofChange s with cond := some uptoSmall }

/-- 'dugoutlaw01.PlayRates', WHERE WHAT IT READS IS OF BULK AT MOST 1048576: true; the input reads as it did. -/
def playRatesUptoRow : OpenClaim := { program := "ytfnpmcbilejbbaagreatdoor", sum := "37bcd01155a1ab155f2c6f67e50a00d5d51c82144ffac2a46fd9e9f61f792db8", func := "dugout/dugoutlaw01.PlayRates", spec := "playRates", inPlace := ["internal/bytealg.IndexByteString", "internal/bytealg.IndexString", "internal/abi.NoEscape", "internal/bytealg.MakeNoZero", "internal/bytealg.CountString"], unfollowed := true, recurses := true, named := ["internal/bytealg.MaxLen", "dugout/play.outs", "dugout/play.safe", "unicode/utf8.first", "unicode/utf8.acceptRanges"], apart := false, laid := [("unicode/utf8.acceptRanges", laid_unicode_utf8_acceptRanges), ("dugout/play.safe", laid_dugout_play_safe), ("dugout/play.outs", laid_dugout_play_outs), ("unicode/utf8.first", laid_unicode_utf8_first)], narrowed := true }
def PlayRatesUptoSaid : Prop := playRatesUptoRow.holds Tryz.pinned (OpenSpec.upto playRatesSpec)

/-- 'dugoutlaw01.PlayParts', WHERE WHAT IT READS IS OF BULK AT MOST 1048576: true; the input reads as it did. -/
def playPartsUptoRow : OpenClaim := { program := "ytfnpmcbilejbbaagreatdoor", sum := "37bcd01155a1ab155f2c6f67e50a00d5d51c82144ffac2a46fd9e9f61f792db8", func := "dugout/dugoutlaw01.PlayParts", spec := "playParts", inPlace := ["internal/bytealg.IndexByteString", "internal/bytealg.IndexString", "internal/abi.NoEscape", "internal/bytealg.MakeNoZero", "internal/bytealg.CountString"], unfollowed := true, recurses := true, named := ["internal/bytealg.MaxLen", "dugout/play.outs", "dugout/play.safe", "unicode/utf8.first", "unicode/utf8.acceptRanges"], apart := false, laid := [("unicode/utf8.acceptRanges", laid_unicode_utf8_acceptRanges), ("dugout/play.safe", laid_dugout_play_safe), ("dugout/play.outs", laid_dugout_play_outs), ("unicode/utf8.first", laid_unicode_utf8_first)], narrowed := true }
def PlayPartsUptoSaid : Prop := playPartsUptoRow.holds Tryz.pinned (OpenSpec.upto playPartsSpec)

/-- 'dugoutlaw01.PlayOrders', WHERE WHAT IT READS IS OF BULK AT MOST 1048576: true; the input reads as it did. -/
def playOrdersUptoRow : OpenClaim := { program := "ytfnpmcbilejbbaagreatdoor", sum := "37bcd01155a1ab155f2c6f67e50a00d5d51c82144ffac2a46fd9e9f61f792db8", func := "dugout/dugoutlaw01.PlayOrders", spec := "playOrders", inPlace := ["internal/bytealg.IndexByteString", "internal/bytealg.IndexString", "internal/abi.NoEscape", "internal/bytealg.MakeNoZero", "internal/bytealg.CountString"], unfollowed := true, recurses := true, named := ["internal/bytealg.MaxLen", "dugout/play.outs", "dugout/play.safe", "unicode/utf8.first", "unicode/utf8.acceptRanges"], apart := false, laid := [("unicode/utf8.acceptRanges", laid_unicode_utf8_acceptRanges), ("dugout/play.safe", laid_dugout_play_safe), ("dugout/play.outs", laid_dugout_play_outs), ("unicode/utf8.first", laid_unicode_utf8_first)], narrowed := true }
def PlayOrdersUptoSaid : Prop := playOrdersUptoRow.holds Tryz.pinned (OpenSpec.upto playOrdersSpec)

end Rows
end Go.Proofs.YtfnpmcbilejbbaaGreatDoor
