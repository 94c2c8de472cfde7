/-
  NARROWER THAN 'FOR EVERY INPUT', by the rows' own cells (each row's printed sentence says how): SeasonTotals: laid · SeasonLeaders: laid · SeasonStreaks: laid · SeasonStandings: laid · SeasonMonoid: laid · SeasonZeros: laid · SeasonGames: laid · SeasonBooks: laid · SeasonUpdates: laid · SeasonKeeps: laid · SeasonMerges: laid · SeasonUnites: laid.
  DERIVED. THE GIVEN ROWS OF THIS SEAT. 12 by the template 'for every input the law returns true; each argument reads behind the call as it read before'; 0 by the template 'total and deterministic' (their statements: YtbfonnoebbjenaaGreatDoorTotals.lean).
  GIVEN WITH THE SEED: the statements are not yours to turn. If you find one false, say at which input.
  Laid BY PROGRAM, IN A SANDBOX (cutbox-rows.mjs): the forced cells as the released guide's own fill.sh prints them over the translation 75e2355c2b809d3d… (all of the seat's roots in one cut). By AI agents, Wed Nov 11 2026. No macro, syntax, notation, axiom, sorry.
-/
import Derived.Test.YtbfonnoebbjenaaGreatDoorChecked
import GoSem.PinnedTables
import GoSem.Claim
import GoSem.ClaimJoined
import GoSem.ClaimMapViews
import Derived.JoinedTies
import Derived.KernelRfl
namespace Go.Proofs.YtbfonnoebbjenaaGreatDoor
/- THE CELL 'sum', in the pinned program and in every row, IS THE sha256 OF THE DUMP (.gsa) THAT YtbfonnoebbjenaaGreatDoorProg.lean LOADS. Nothing in Lean hashes anything: it is a label: what it is worth is what the hold of that sum in a sandbox is worth. -/
noncomputable def Tryz.pinned : Pinned := { name := "ytbfonnoebbjenaagreatdoor", sum := "75e2355c2b809d3d29eb66c2b55daa450e35beb1b1a31329b8741364f522e6e1", checked := Tryz.checked }
namespace Rows
def none {H : Type} : Left H := { results := [], args := [] }

/- WHAT THE LISTED PACKAGE-LEVEL VARIABLES READ AS WHEN THE CALL BEGINS. Each datum BY PROGRAM (the guide's laid-datum.mjs) off the statement by which the dump's own 'gosem.cut.vars' lays the variable. In a bare row this is a premise. The card (YtbfonnoebbjenaaGreatDoorCards.lean) ties it to the program's text. -/
def laid_math_bits_deBruijn32tab {H : Type} : DataW H := .agg [.lit (.int .u8 0), .lit (.int .u8 1), .lit (.int .u8 28), .lit (.int .u8 2), .lit (.int .u8 29), .lit (.int .u8 14), .lit (.int .u8 24), .lit (.int .u8 3), .lit (.int .u8 30), .lit (.int .u8 22), .lit (.int .u8 20), .lit (.int .u8 15), .lit (.int .u8 25), .lit (.int .u8 17), .lit (.int .u8 4), .lit (.int .u8 8), .lit (.int .u8 31), .lit (.int .u8 27), .lit (.int .u8 13), .lit (.int .u8 23), .lit (.int .u8 21), .lit (.int .u8 19), .lit (.int .u8 16), .lit (.int .u8 7), .lit (.int .u8 26), .lit (.int .u8 12), .lit (.int .u8 18), .lit (.int .u8 6), .lit (.int .u8 11), .lit (.int .u8 5), .lit (.int .u8 10), .lit (.int .u8 9)]
def laid_math_bits_deBruijn64tab {H : Type} : DataW H := .agg [.lit (.int .u8 0), .lit (.int .u8 1), .lit (.int .u8 56), .lit (.int .u8 2), .lit (.int .u8 57), .lit (.int .u8 49), .lit (.int .u8 28), .lit (.int .u8 3), .lit (.int .u8 61), .lit (.int .u8 58), .lit (.int .u8 42), .lit (.int .u8 50), .lit (.int .u8 38), .lit (.int .u8 29), .lit (.int .u8 17), .lit (.int .u8 4), .lit (.int .u8 62), .lit (.int .u8 47), .lit (.int .u8 59), .lit (.int .u8 36), .lit (.int .u8 45), .lit (.int .u8 43), .lit (.int .u8 51), .lit (.int .u8 22), .lit (.int .u8 53), .lit (.int .u8 39), .lit (.int .u8 33), .lit (.int .u8 30), .lit (.int .u8 24), .lit (.int .u8 18), .lit (.int .u8 12), .lit (.int .u8 5), .lit (.int .u8 63), .lit (.int .u8 55), .lit (.int .u8 48), .lit (.int .u8 27), .lit (.int .u8 60), .lit (.int .u8 41), .lit (.int .u8 37), .lit (.int .u8 16), .lit (.int .u8 46), .lit (.int .u8 35), .lit (.int .u8 44), .lit (.int .u8 21), .lit (.int .u8 52), .lit (.int .u8 32), .lit (.int .u8 23), .lit (.int .u8 11), .lit (.int .u8 54), .lit (.int .u8 26), .lit (.int .u8 40), .lit (.int .u8 15), .lit (.int .u8 34), .lit (.int .u8 20), .lit (.int .u8 31), .lit (.int .u8 10), .lit (.int .u8 25), .lit (.int .u8 14), .lit (.int .u8 19), .lit (.int .u8 9), .lit (.int .u8 13), .lit (.int .u8 8), .lit (.int .u8 7), .lit (.int .u8 6)]
def laid_internal_strconv_uint64pow10 {H : Type} : DataW H := .agg [.lit (.int .u64 1), .lit (.int .u64 10), .lit (.int .u64 100), .lit (.int .u64 1000), .lit (.int .u64 10000), .lit (.int .u64 100000), .lit (.int .u64 1000000), .lit (.int .u64 10000000), .lit (.int .u64 100000000), .lit (.int .u64 1000000000), .lit (.int .u64 10000000000), .lit (.int .u64 100000000000), .lit (.int .u64 1000000000000), .lit (.int .u64 10000000000000), .lit (.int .u64 100000000000000), .lit (.int .u64 1000000000000000), .lit (.int .u64 10000000000000000), .lit (.int .u64 100000000000000000), .lit (.int .u64 1000000000000000000), .lit (.int .u64 10000000000000000000)]
def laid_dugout_season_kinds {H : Type} : DataW H := .agg [.lit (.string [97, 98]), .lit (.string [104]), .lit (.string [100]), .lit (.string [116]), .lit (.string [104, 114]), .lit (.string [114]), .lit (.string [114, 98, 105]), .lit (.string [119]), .lit (.string [107]), .lit (.string [115, 98]), .lit (.string [112, 111]), .lit (.string [101])]
def laid_unicode_utf8_acceptRanges {H : Type} : DataW H := .agg [.agg [.lit (.int .u8 128), .lit (.int .u8 191)], .agg [.lit (.int .u8 160), .lit (.int .u8 191)], .agg [.lit (.int .u8 128), .lit (.int .u8 159)], .agg [.lit (.int .u8 144), .lit (.int .u8 191)], .agg [.lit (.int .u8 128), .lit (.int .u8 143)], .agg [.lit (.int .u8 0), .lit (.int .u8 0)], .agg [.lit (.int .u8 0), .lit (.int .u8 0)], .agg [.lit (.int .u8 0), .lit (.int .u8 0)], .agg [.lit (.int .u8 0), .lit (.int .u8 0)], .agg [.lit (.int .u8 0), .lit (.int .u8 0)], .agg [.lit (.int .u8 0), .lit (.int .u8 0)], .agg [.lit (.int .u8 0), .lit (.int .u8 0)], .agg [.lit (.int .u8 0), .lit (.int .u8 0)], .agg [.lit (.int .u8 0), .lit (.int .u8 0)], .agg [.lit (.int .u8 0), .lit (.int .u8 0)], .agg [.lit (.int .u8 0), .lit (.int .u8 0)]]
def laid_strconv_ErrRange {H : Type} : DataW H := .iface "*errors.errorString" (.ptr (.agg [.lit (.string [118, 97, 108, 117, 101, 32, 111, 117, 116, 32, 111, 102, 32, 114, 97, 110, 103, 101])]))
def laid_strconv_ErrSyntax {H : Type} : DataW H := .iface "*errors.errorString" (.ptr (.agg [.lit (.string [105, 110, 118, 97, 108, 105, 100, 32, 115, 121, 110, 116, 97, 120])]))
/-- One of Go's own tables, pinned by name: the form's constant. -/
def laid_unicode_utf8_first : DataW Unit := Go.Pinned.utf8First

/-- 'dugoutlaw09.SeasonTotals': WHATEVER THE INPUT: true; the input reads as it did. -/
def seasonTotalsSpec : ChangeSpec := { name := "seasonTotals", fn := fun _ => fun
  | [d1, d2] => { results := [.lit (.bool true)], args := [d1, d2] }
  | _ => none }
def seasonTotalsRow : OpenClaim := { program := "ytbfonnoebbjenaagreatdoor", sum := "75e2355c2b809d3d29eb66c2b55daa450e35beb1b1a31329b8741364f522e6e1", func := "dugout/dugoutlaw09.SeasonTotals", spec := "seasonTotals", inPlace := ["internal/abi.NoEscape", "internal/bytealg.MakeNoZero"], unfollowed := true, recurses := true, named := ["dugout/season.kinds", "internal/strconv.uint64pow10", "math/bits.deBruijn32tab", "math/bits.deBruijn64tab"], apart := false, laid := [("math/bits.deBruijn32tab", laid_math_bits_deBruijn32tab), ("math/bits.deBruijn64tab", laid_math_bits_deBruijn64tab), ("internal/strconv.uint64pow10", laid_internal_strconv_uint64pow10), ("dugout/season.kinds", laid_dugout_season_kinds)] }
def SeasonTotalsSaid : Prop := seasonTotalsRow.holds Tryz.pinned (OpenSpec.ofChange seasonTotalsSpec)

/-- ITS FALSE NEIGHBOUR: 'it returns false'. Refute it at one input. -/
def seasonTotalsWrong : ChangeSpec := { name := "seasonTotals", fn := fun _ => fun
  | [d1, d2] => { results := [.lit (.bool false)], args := [d1, d2] }
  | _ => none }
def SeasonTotalsWrongFalsely : Prop := seasonTotalsRow.holds Tryz.pinned (OpenSpec.ofChange seasonTotalsWrong)

/-- 'dugoutlaw09.SeasonLeaders': WHATEVER THE INPUT: true; the input reads as it did. -/
def seasonLeadersSpec : ChangeSpec := { name := "seasonLeaders", fn := fun _ => fun
  | [d1, d2] => { results := [.lit (.bool true)], args := [d1, d2] }
  | _ => none }
def seasonLeadersRow : OpenClaim := { program := "ytbfonnoebbjenaagreatdoor", sum := "75e2355c2b809d3d29eb66c2b55daa450e35beb1b1a31329b8741364f522e6e1", func := "dugout/dugoutlaw09.SeasonLeaders", spec := "seasonLeaders", inPlace := ["internal/abi.NoEscape", "internal/bytealg.MakeNoZero"], unfollowed := true, recurses := true, named := ["dugout/season.kinds", "internal/strconv.uint64pow10", "math/bits.deBruijn32tab", "math/bits.deBruijn64tab"], apart := false, laid := [("math/bits.deBruijn32tab", laid_math_bits_deBruijn32tab), ("math/bits.deBruijn64tab", laid_math_bits_deBruijn64tab), ("internal/strconv.uint64pow10", laid_internal_strconv_uint64pow10), ("dugout/season.kinds", laid_dugout_season_kinds)] }
def SeasonLeadersSaid : Prop := seasonLeadersRow.holds Tryz.pinned (OpenSpec.ofChange seasonLeadersSpec)

/-- ITS FALSE NEIGHBOUR: 'it returns false'. Refute it at one input. -/
def seasonLeadersWrong : ChangeSpec := { name := "seasonLeaders", fn := fun _ => fun
  | [d1, d2] => { results := [.lit (.bool false)], args := [d1, d2] }
  | _ => none }
def SeasonLeadersWrongFalsely : Prop := seasonLeadersRow.holds Tryz.pinned (OpenSpec.ofChange seasonLeadersWrong)

/-- 'dugoutlaw09.SeasonStreaks': WHATEVER THE INPUT: true; the input reads as it did. -/
def seasonStreaksSpec : ChangeSpec := { name := "seasonStreaks", fn := fun _ => fun
  | [d1, d2, d3] => { results := [.lit (.bool true)], args := [d1, d2, d3] }
  | _ => none }
def seasonStreaksRow : OpenClaim := { program := "ytbfonnoebbjenaagreatdoor", sum := "75e2355c2b809d3d29eb66c2b55daa450e35beb1b1a31329b8741364f522e6e1", func := "dugout/dugoutlaw09.SeasonStreaks", spec := "seasonStreaks", inPlace := ["internal/abi.NoEscape", "internal/bytealg.MakeNoZero"], unfollowed := true, recurses := true, named := ["dugout/season.kinds", "internal/strconv.uint64pow10", "math/bits.deBruijn32tab", "math/bits.deBruijn64tab"], apart := false, laid := [("math/bits.deBruijn32tab", laid_math_bits_deBruijn32tab), ("math/bits.deBruijn64tab", laid_math_bits_deBruijn64tab), ("internal/strconv.uint64pow10", laid_internal_strconv_uint64pow10), ("dugout/season.kinds", laid_dugout_season_kinds)] }
def SeasonStreaksSaid : Prop := seasonStreaksRow.holds Tryz.pinned (OpenSpec.ofChange seasonStreaksSpec)

/-- ITS FALSE NEIGHBOUR: 'it returns false'. Refute it at one input. -/
def seasonStreaksWrong : ChangeSpec := { name := "seasonStreaks", fn := fun _ => fun
  | [d1, d2, d3] => { results := [.lit (.bool false)], args := [d1, d2, d3] }
  | _ => none }
def SeasonStreaksWrongFalsely : Prop := seasonStreaksRow.holds Tryz.pinned (OpenSpec.ofChange seasonStreaksWrong)

/-- 'dugoutlaw09.SeasonStandings': WHATEVER THE INPUT: true; the input reads as it did. -/
def seasonStandingsSpec : ChangeSpec := { name := "seasonStandings", fn := fun _ => fun
  | [d1, d2, d3] => { results := [.lit (.bool true)], args := [d1, d2, d3] }
  | _ => none }
def seasonStandingsRow : OpenClaim := { program := "ytbfonnoebbjenaagreatdoor", sum := "75e2355c2b809d3d29eb66c2b55daa450e35beb1b1a31329b8741364f522e6e1", func := "dugout/dugoutlaw09.SeasonStandings", spec := "seasonStandings", inPlace := ["internal/abi.NoEscape", "internal/bytealg.MakeNoZero"], unfollowed := true, recurses := true, named := ["dugout/season.kinds", "internal/strconv.uint64pow10", "math/bits.deBruijn32tab", "math/bits.deBruijn64tab"], apart := false, laid := [("math/bits.deBruijn32tab", laid_math_bits_deBruijn32tab), ("math/bits.deBruijn64tab", laid_math_bits_deBruijn64tab), ("internal/strconv.uint64pow10", laid_internal_strconv_uint64pow10), ("dugout/season.kinds", laid_dugout_season_kinds)] }
def SeasonStandingsSaid : Prop := seasonStandingsRow.holds Tryz.pinned (OpenSpec.ofChange seasonStandingsSpec)

/-- ITS FALSE NEIGHBOUR: 'it returns false'. Refute it at one input. -/
def seasonStandingsWrong : ChangeSpec := { name := "seasonStandings", fn := fun _ => fun
  | [d1, d2, d3] => { results := [.lit (.bool false)], args := [d1, d2, d3] }
  | _ => none }
def SeasonStandingsWrongFalsely : Prop := seasonStandingsRow.holds Tryz.pinned (OpenSpec.ofChange seasonStandingsWrong)

/-- 'dugoutlaw09.SeasonMonoid': WHATEVER THE INPUT: true; the input reads as it did. -/
def seasonMonoidSpec : ChangeSpec := { name := "seasonMonoid", fn := fun _ => fun
  | [d1, d2] => { results := [.lit (.bool true)], args := [d1, d2] }
  | _ => none }
def seasonMonoidRow : OpenClaim := { program := "ytbfonnoebbjenaagreatdoor", sum := "75e2355c2b809d3d29eb66c2b55daa450e35beb1b1a31329b8741364f522e6e1", func := "dugout/dugoutlaw09.SeasonMonoid", spec := "seasonMonoid", inPlace := ["internal/abi.NoEscape", "internal/bytealg.MakeNoZero"], unfollowed := true, recurses := true, named := ["dugout/season.kinds", "internal/strconv.uint64pow10", "math/bits.deBruijn32tab", "math/bits.deBruijn64tab"], apart := false, laid := [("math/bits.deBruijn32tab", laid_math_bits_deBruijn32tab), ("math/bits.deBruijn64tab", laid_math_bits_deBruijn64tab), ("internal/strconv.uint64pow10", laid_internal_strconv_uint64pow10), ("dugout/season.kinds", laid_dugout_season_kinds)] }
def SeasonMonoidSaid : Prop := seasonMonoidRow.holds Tryz.pinned (OpenSpec.ofChange seasonMonoidSpec)

/-- ITS FALSE NEIGHBOUR: 'it returns false'. Refute it at one input. -/
def seasonMonoidWrong : ChangeSpec := { name := "seasonMonoid", fn := fun _ => fun
  | [d1, d2] => { results := [.lit (.bool false)], args := [d1, d2] }
  | _ => none }
def SeasonMonoidWrongFalsely : Prop := seasonMonoidRow.holds Tryz.pinned (OpenSpec.ofChange seasonMonoidWrong)

/-- 'dugoutlaw09.SeasonZeros': WHATEVER THE INPUT: true; the input reads as it did. -/
def seasonZerosSpec : ChangeSpec := { name := "seasonZeros", fn := fun _ => fun
  | [d] => { results := [.lit (.bool true)], args := [d] }
  | _ => none }
def seasonZerosRow : OpenClaim := { program := "ytbfonnoebbjenaagreatdoor", sum := "75e2355c2b809d3d29eb66c2b55daa450e35beb1b1a31329b8741364f522e6e1", func := "dugout/dugoutlaw09.SeasonZeros", spec := "seasonZeros", inPlace := ["internal/abi.NoEscape", "internal/bytealg.MakeNoZero"], unfollowed := true, recurses := true, named := ["dugout/season.kinds", "internal/strconv.uint64pow10", "math/bits.deBruijn32tab", "math/bits.deBruijn64tab"], apart := false, laid := [("math/bits.deBruijn32tab", laid_math_bits_deBruijn32tab), ("math/bits.deBruijn64tab", laid_math_bits_deBruijn64tab), ("internal/strconv.uint64pow10", laid_internal_strconv_uint64pow10), ("dugout/season.kinds", laid_dugout_season_kinds)] }
def SeasonZerosSaid : Prop := seasonZerosRow.holds Tryz.pinned (OpenSpec.ofChange seasonZerosSpec)

/-- ITS FALSE NEIGHBOUR: 'it returns false'. Refute it at one input. -/
def seasonZerosWrong : ChangeSpec := { name := "seasonZeros", fn := fun _ => fun
  | [d] => { results := [.lit (.bool false)], args := [d] }
  | _ => none }
def SeasonZerosWrongFalsely : Prop := seasonZerosRow.holds Tryz.pinned (OpenSpec.ofChange seasonZerosWrong)

/-- 'dugoutlaw09.SeasonGames': WHATEVER THE INPUT: true; the input reads as it did. -/
def seasonGamesSpec : ChangeSpec := { name := "seasonGames", fn := fun _ => fun
  | [d1, d2] => { results := [.lit (.bool true)], args := [d1, d2] }
  | _ => none }
def seasonGamesRow : OpenClaim := { program := "ytbfonnoebbjenaagreatdoor", sum := "75e2355c2b809d3d29eb66c2b55daa450e35beb1b1a31329b8741364f522e6e1", func := "dugout/dugoutlaw09.SeasonGames", spec := "seasonGames", inPlace := ["internal/abi.NoEscape", "internal/bytealg.MakeNoZero"], unfollowed := true, recurses := true, named := ["dugout/season.kinds", "internal/strconv.uint64pow10", "math/bits.deBruijn32tab", "math/bits.deBruijn64tab"], apart := false, laid := [("math/bits.deBruijn32tab", laid_math_bits_deBruijn32tab), ("math/bits.deBruijn64tab", laid_math_bits_deBruijn64tab), ("internal/strconv.uint64pow10", laid_internal_strconv_uint64pow10), ("dugout/season.kinds", laid_dugout_season_kinds)] }
def SeasonGamesSaid : Prop := seasonGamesRow.holds Tryz.pinned (OpenSpec.ofChange seasonGamesSpec)

/-- ITS FALSE NEIGHBOUR: 'it returns false'. Refute it at one input. -/
def seasonGamesWrong : ChangeSpec := { name := "seasonGames", fn := fun _ => fun
  | [d1, d2] => { results := [.lit (.bool false)], args := [d1, d2] }
  | _ => none }
def SeasonGamesWrongFalsely : Prop := seasonGamesRow.holds Tryz.pinned (OpenSpec.ofChange seasonGamesWrong)

/-- 'dugoutlaw09.SeasonBooks': WHATEVER THE INPUT: true; the input reads as it did. -/
def seasonBooksSpec : ChangeSpec := { name := "seasonBooks", fn := fun _ => fun
  | [d1, d2, d3] => { results := [.lit (.bool true)], args := [d1, d2, d3] }
  | _ => none }
def seasonBooksRow : OpenClaim := { program := "ytbfonnoebbjenaagreatdoor", sum := "75e2355c2b809d3d29eb66c2b55daa450e35beb1b1a31329b8741364f522e6e1", func := "dugout/dugoutlaw09.SeasonBooks", spec := "seasonBooks", inPlace := ["internal/abi.NoEscape", "internal/bytealg.MakeNoZero"], unfollowed := true, recurses := true, named := ["dugout/season.kinds", "internal/strconv.uint64pow10", "math/bits.deBruijn32tab", "math/bits.deBruijn64tab"], apart := false, laid := [("math/bits.deBruijn32tab", laid_math_bits_deBruijn32tab), ("math/bits.deBruijn64tab", laid_math_bits_deBruijn64tab), ("internal/strconv.uint64pow10", laid_internal_strconv_uint64pow10), ("dugout/season.kinds", laid_dugout_season_kinds)] }
def SeasonBooksSaid : Prop := seasonBooksRow.holds Tryz.pinned (OpenSpec.ofChange seasonBooksSpec)

/-- ITS FALSE NEIGHBOUR: 'it returns false'. Refute it at one input. -/
def seasonBooksWrong : ChangeSpec := { name := "seasonBooks", fn := fun _ => fun
  | [d1, d2, d3] => { results := [.lit (.bool false)], args := [d1, d2, d3] }
  | _ => none }
def SeasonBooksWrongFalsely : Prop := seasonBooksRow.holds Tryz.pinned (OpenSpec.ofChange seasonBooksWrong)

/-- 'dugoutlaw09.SeasonUpdates': WHATEVER THE INPUT: true; the input reads as it did. -/
def seasonUpdatesSpec : ChangeSpec := { name := "seasonUpdates", fn := fun _ => fun
  | [d1, d2] => { results := [.lit (.bool true)], args := [d1, d2] }
  | _ => none }
def seasonUpdatesRow : OpenClaim := { program := "ytbfonnoebbjenaagreatdoor", sum := "75e2355c2b809d3d29eb66c2b55daa450e35beb1b1a31329b8741364f522e6e1", func := "dugout/dugoutlaw09.SeasonUpdates", spec := "seasonUpdates", inPlace := ["internal/abi.NoEscape", "internal/bytealg.MakeNoZero"], unfollowed := true, recurses := true, named := ["dugout/season.kinds", "internal/strconv.uint64pow10", "math/bits.deBruijn32tab", "math/bits.deBruijn64tab"], apart := false, laid := [("math/bits.deBruijn32tab", laid_math_bits_deBruijn32tab), ("math/bits.deBruijn64tab", laid_math_bits_deBruijn64tab), ("internal/strconv.uint64pow10", laid_internal_strconv_uint64pow10), ("dugout/season.kinds", laid_dugout_season_kinds)] }
def SeasonUpdatesSaid : Prop := seasonUpdatesRow.holds Tryz.pinned (OpenSpec.ofChange seasonUpdatesSpec)

/-- ITS FALSE NEIGHBOUR: 'it returns false'. Refute it at one input. -/
def seasonUpdatesWrong : ChangeSpec := { name := "seasonUpdates", fn := fun _ => fun
  | [d1, d2] => { results := [.lit (.bool false)], args := [d1, d2] }
  | _ => none }
def SeasonUpdatesWrongFalsely : Prop := seasonUpdatesRow.holds Tryz.pinned (OpenSpec.ofChange seasonUpdatesWrong)

/-- 'dugoutlaw09.SeasonKeeps': WHATEVER THE INPUT: true; the input reads as it did. -/
def seasonKeepsSpec : ChangeSpec := { name := "seasonKeeps", fn := fun _ => fun
  | [d1, d2, d3] => { results := [.lit (.bool true)], args := [d1, d2, d3] }
  | _ => none }
def seasonKeepsRow : OpenClaim := { program := "ytbfonnoebbjenaagreatdoor", sum := "75e2355c2b809d3d29eb66c2b55daa450e35beb1b1a31329b8741364f522e6e1", func := "dugout/dugoutlaw09.SeasonKeeps", spec := "seasonKeeps", inPlace := ["internal/abi.NoEscape", "internal/bytealg.MakeNoZero"], unfollowed := true, recurses := true, named := ["dugout/season.kinds", "internal/strconv.uint64pow10", "math/bits.deBruijn32tab", "math/bits.deBruijn64tab"], apart := false, laid := [("math/bits.deBruijn32tab", laid_math_bits_deBruijn32tab), ("math/bits.deBruijn64tab", laid_math_bits_deBruijn64tab), ("internal/strconv.uint64pow10", laid_internal_strconv_uint64pow10), ("dugout/season.kinds", laid_dugout_season_kinds)] }
def SeasonKeepsSaid : Prop := seasonKeepsRow.holds Tryz.pinned (OpenSpec.ofChange seasonKeepsSpec)

/-- ITS FALSE NEIGHBOUR: 'it returns false'. Refute it at one input. -/
def seasonKeepsWrong : ChangeSpec := { name := "seasonKeeps", fn := fun _ => fun
  | [d1, d2, d3] => { results := [.lit (.bool false)], args := [d1, d2, d3] }
  | _ => none }
def SeasonKeepsWrongFalsely : Prop := seasonKeepsRow.holds Tryz.pinned (OpenSpec.ofChange seasonKeepsWrong)

/-- 'dugoutlaw09.SeasonMerges': WHATEVER THE INPUT: true; the input reads as it did. -/
def seasonMergesSpec : ChangeSpec := { name := "seasonMerges", fn := fun _ => fun
  | [d1, d2, d3] => { results := [.lit (.bool true)], args := [d1, d2, d3] }
  | _ => none }
def seasonMergesRow : OpenClaim := { program := "ytbfonnoebbjenaagreatdoor", sum := "75e2355c2b809d3d29eb66c2b55daa450e35beb1b1a31329b8741364f522e6e1", func := "dugout/dugoutlaw09.SeasonMerges", spec := "seasonMerges", inPlace := ["internal/abi.NoEscape", "internal/bytealg.MakeNoZero"], unfollowed := true, recurses := true, named := ["dugout/season.kinds", "internal/strconv.uint64pow10", "math/bits.deBruijn32tab", "math/bits.deBruijn64tab"], apart := false, laid := [("math/bits.deBruijn32tab", laid_math_bits_deBruijn32tab), ("math/bits.deBruijn64tab", laid_math_bits_deBruijn64tab), ("internal/strconv.uint64pow10", laid_internal_strconv_uint64pow10), ("dugout/season.kinds", laid_dugout_season_kinds)] }
def SeasonMergesSaid : Prop := seasonMergesRow.holds Tryz.pinned (OpenSpec.ofChange seasonMergesSpec)

/-- ITS FALSE NEIGHBOUR: 'it returns false'. Refute it at one input. -/
def seasonMergesWrong : ChangeSpec := { name := "seasonMerges", fn := fun _ => fun
  | [d1, d2, d3] => { results := [.lit (.bool false)], args := [d1, d2, d3] }
  | _ => none }
def SeasonMergesWrongFalsely : Prop := seasonMergesRow.holds Tryz.pinned (OpenSpec.ofChange seasonMergesWrong)

/-- 'dugoutlaw09.SeasonUnites': WHATEVER THE INPUT: true; the input reads as it did. -/
def seasonUnitesSpec : ChangeSpec := { name := "seasonUnites", fn := fun _ => fun
  | [d1, d2] => { results := [.lit (.bool true)], args := [d1, d2] }
  | _ => none }
def seasonUnitesRow : OpenClaim := { program := "ytbfonnoebbjenaagreatdoor", sum := "75e2355c2b809d3d29eb66c2b55daa450e35beb1b1a31329b8741364f522e6e1", func := "dugout/dugoutlaw09.SeasonUnites", spec := "seasonUnites", inPlace := ["internal/abi.NoEscape", "internal/bytealg.MakeNoZero", "internal/bytealg.IndexByteString", "internal/bytealg.CountString", "internal/bytealg.IndexString"], unfollowed := true, recurses := true, named := ["dugout/season.kinds", "internal/strconv.uint64pow10", "math/bits.deBruijn32tab", "math/bits.deBruijn64tab", "unicode/utf8.first", "unicode/utf8.acceptRanges", "internal/bytealg.MaxLen", "strconv.ErrSyntax", "strconv.ErrRange"], apart := false, laid := [("math/bits.deBruijn32tab", laid_math_bits_deBruijn32tab), ("math/bits.deBruijn64tab", laid_math_bits_deBruijn64tab), ("internal/strconv.uint64pow10", laid_internal_strconv_uint64pow10), ("unicode/utf8.acceptRanges", laid_unicode_utf8_acceptRanges), ("strconv.ErrRange", laid_strconv_ErrRange), ("strconv.ErrSyntax", laid_strconv_ErrSyntax), ("dugout/season.kinds", laid_dugout_season_kinds), ("unicode/utf8.first", laid_unicode_utf8_first)] }
def SeasonUnitesSaid : Prop := seasonUnitesRow.holds Tryz.pinned (OpenSpec.ofChange seasonUnitesSpec)

/-- ITS FALSE NEIGHBOUR: 'it returns false'. Refute it at one input. -/
def seasonUnitesWrong : ChangeSpec := { name := "seasonUnites", fn := fun _ => fun
  | [d1, d2] => { results := [.lit (.bool false)], args := [d1, d2] }
  | _ => none }
def SeasonUnitesWrongFalsely : Prop := seasonUnitesRow.holds Tryz.pinned (OpenSpec.ofChange seasonUnitesWrong)

/- THE SECOND FORM. 'bulk': how many values and letters a reading holds, each counted each time it is reached (what is shared counts as often as it is met; a slice's spare places count too). A statement '..UptoSaid' is the law's where the arguments, and the package variables that the reading takes, are together of bulk at most 1048576: NARROWER than '..Said'. Prove '..Said' where nothing that the law and all that it calls make is longer than what came in: it says more and counts as full. Else prove '..UptoSaid'. A law counts once. -/
mutual
def uptoBulk {H : Type} : DataW H → Nat
  | .lit (.string bytes) => bytes.length + 1
  | .lit _ => 1
  | .nil => 1
  | .ptr d => uptoBulk d + 1
  | .slice elems spare => uptoBulkAll elems + uptoBulkAll spare + 1
  | .agg parts => uptoBulkAll parts + 1
  | .iface _ d => uptoBulk d + 1
  | .map entries => uptoBulkEntries entries + 1
  | .held _ => 1
def uptoBulkAll {H : Type} : List (DataW H) → Nat
  | [] => 0
  | d :: r => uptoBulk d + uptoBulkAll r
def uptoBulkEntries {H : Type} : List (Lit × DataW H) → Nat
  | [] => 0
  | x :: r => uptoBulkEntry x + uptoBulkEntries r
def uptoBulkEntry {H : Type} : Lit × DataW H → Nat
  | (.string bytes, d) => bytes.length + uptoBulk d + 1
  | (_, d) => uptoBulk d + 1
 end
def uptoSmall : (H : Type) → List (DataW H) → Bool := fun _ ds => decide (uptoBulkAll ds ≤ 1048576)
def OpenSpec.upto (s : _root_.Go.ChangeSpec) : _root_.Go.OpenSpec := { _root_.Go.OpenSpec.ofChange s with cond := some uptoSmall }

/-- 'dugoutlaw09.SeasonTotals', WHERE WHAT IT READS IS OF BULK AT MOST 1048576: true; the input reads as it did. -/
def seasonTotalsUptoRow : OpenClaim := { program := "ytbfonnoebbjenaagreatdoor", sum := "75e2355c2b809d3d29eb66c2b55daa450e35beb1b1a31329b8741364f522e6e1", func := "dugout/dugoutlaw09.SeasonTotals", spec := "seasonTotals", inPlace := ["internal/abi.NoEscape", "internal/bytealg.MakeNoZero"], unfollowed := true, recurses := true, named := ["dugout/season.kinds", "internal/strconv.uint64pow10", "math/bits.deBruijn32tab", "math/bits.deBruijn64tab"], apart := false, laid := [("math/bits.deBruijn32tab", laid_math_bits_deBruijn32tab), ("math/bits.deBruijn64tab", laid_math_bits_deBruijn64tab), ("internal/strconv.uint64pow10", laid_internal_strconv_uint64pow10), ("dugout/season.kinds", laid_dugout_season_kinds)], narrowed := true }
def SeasonTotalsUptoSaid : Prop := seasonTotalsUptoRow.holds Tryz.pinned (OpenSpec.upto seasonTotalsSpec)

/-- 'dugoutlaw09.SeasonLeaders', WHERE WHAT IT READS IS OF BULK AT MOST 1048576: true; the input reads as it did. -/
def seasonLeadersUptoRow : OpenClaim := { program := "ytbfonnoebbjenaagreatdoor", sum := "75e2355c2b809d3d29eb66c2b55daa450e35beb1b1a31329b8741364f522e6e1", func := "dugout/dugoutlaw09.SeasonLeaders", spec := "seasonLeaders", inPlace := ["internal/abi.NoEscape", "internal/bytealg.MakeNoZero"], unfollowed := true, recurses := true, named := ["dugout/season.kinds", "internal/strconv.uint64pow10", "math/bits.deBruijn32tab", "math/bits.deBruijn64tab"], apart := false, laid := [("math/bits.deBruijn32tab", laid_math_bits_deBruijn32tab), ("math/bits.deBruijn64tab", laid_math_bits_deBruijn64tab), ("internal/strconv.uint64pow10", laid_internal_strconv_uint64pow10), ("dugout/season.kinds", laid_dugout_season_kinds)], narrowed := true }
def SeasonLeadersUptoSaid : Prop := seasonLeadersUptoRow.holds Tryz.pinned (OpenSpec.upto seasonLeadersSpec)

/-- 'dugoutlaw09.SeasonStreaks', WHERE WHAT IT READS IS OF BULK AT MOST 1048576: true; the input reads as it did. -/
def seasonStreaksUptoRow : OpenClaim := { program := "ytbfonnoebbjenaagreatdoor", sum := "75e2355c2b809d3d29eb66c2b55daa450e35beb1b1a31329b8741364f522e6e1", func := "dugout/dugoutlaw09.SeasonStreaks", spec := "seasonStreaks", inPlace := ["internal/abi.NoEscape", "internal/bytealg.MakeNoZero"], unfollowed := true, recurses := true, named := ["dugout/season.kinds", "internal/strconv.uint64pow10", "math/bits.deBruijn32tab", "math/bits.deBruijn64tab"], apart := false, laid := [("math/bits.deBruijn32tab", laid_math_bits_deBruijn32tab), ("math/bits.deBruijn64tab", laid_math_bits_deBruijn64tab), ("internal/strconv.uint64pow10", laid_internal_strconv_uint64pow10), ("dugout/season.kinds", laid_dugout_season_kinds)], narrowed := true }
def SeasonStreaksUptoSaid : Prop := seasonStreaksUptoRow.holds Tryz.pinned (OpenSpec.upto seasonStreaksSpec)

/-- 'dugoutlaw09.SeasonStandings', WHERE WHAT IT READS IS OF BULK AT MOST 1048576: true; the input reads as it did. -/
def seasonStandingsUptoRow : OpenClaim := { program := "ytbfonnoebbjenaagreatdoor", sum := "75e2355c2b809d3d29eb66c2b55daa450e35beb1b1a31329b8741364f522e6e1", func := "dugout/dugoutlaw09.SeasonStandings", spec := "seasonStandings", inPlace := ["internal/abi.NoEscape", "internal/bytealg.MakeNoZero"], unfollowed := true, recurses := true, named := ["dugout/season.kinds", "internal/strconv.uint64pow10", "math/bits.deBruijn32tab", "math/bits.deBruijn64tab"], apart := false, laid := [("math/bits.deBruijn32tab", laid_math_bits_deBruijn32tab), ("math/bits.deBruijn64tab", laid_math_bits_deBruijn64tab), ("internal/strconv.uint64pow10", laid_internal_strconv_uint64pow10), ("dugout/season.kinds", laid_dugout_season_kinds)], narrowed := true }
def SeasonStandingsUptoSaid : Prop := seasonStandingsUptoRow.holds Tryz.pinned (OpenSpec.upto seasonStandingsSpec)

/-- 'dugoutlaw09.SeasonMonoid', WHERE WHAT IT READS IS OF BULK AT MOST 1048576: true; the input reads as it did. -/
def seasonMonoidUptoRow : OpenClaim := { program := "ytbfonnoebbjenaagreatdoor", sum := "75e2355c2b809d3d29eb66c2b55daa450e35beb1b1a31329b8741364f522e6e1", func := "dugout/dugoutlaw09.SeasonMonoid", spec := "seasonMonoid", inPlace := ["internal/abi.NoEscape", "internal/bytealg.MakeNoZero"], unfollowed := true, recurses := true, named := ["dugout/season.kinds", "internal/strconv.uint64pow10", "math/bits.deBruijn32tab", "math/bits.deBruijn64tab"], apart := false, laid := [("math/bits.deBruijn32tab", laid_math_bits_deBruijn32tab), ("math/bits.deBruijn64tab", laid_math_bits_deBruijn64tab), ("internal/strconv.uint64pow10", laid_internal_strconv_uint64pow10), ("dugout/season.kinds", laid_dugout_season_kinds)], narrowed := true }
def SeasonMonoidUptoSaid : Prop := seasonMonoidUptoRow.holds Tryz.pinned (OpenSpec.upto seasonMonoidSpec)

/-- 'dugoutlaw09.SeasonZeros', WHERE WHAT IT READS IS OF BULK AT MOST 1048576: true; the input reads as it did. -/
def seasonZerosUptoRow : OpenClaim := { program := "ytbfonnoebbjenaagreatdoor", sum := "75e2355c2b809d3d29eb66c2b55daa450e35beb1b1a31329b8741364f522e6e1", func := "dugout/dugoutlaw09.SeasonZeros", spec := "seasonZeros", inPlace := ["internal/abi.NoEscape", "internal/bytealg.MakeNoZero"], unfollowed := true, recurses := true, named := ["dugout/season.kinds", "internal/strconv.uint64pow10", "math/bits.deBruijn32tab", "math/bits.deBruijn64tab"], apart := false, laid := [("math/bits.deBruijn32tab", laid_math_bits_deBruijn32tab), ("math/bits.deBruijn64tab", laid_math_bits_deBruijn64tab), ("internal/strconv.uint64pow10", laid_internal_strconv_uint64pow10), ("dugout/season.kinds", laid_dugout_season_kinds)], narrowed := true }
def SeasonZerosUptoSaid : Prop := seasonZerosUptoRow.holds Tryz.pinned (OpenSpec.upto seasonZerosSpec)

/-- 'dugoutlaw09.SeasonGames', WHERE WHAT IT READS IS OF BULK AT MOST 1048576: true; the input reads as it did. -/
def seasonGamesUptoRow : OpenClaim := { program := "ytbfonnoebbjenaagreatdoor", sum := "75e2355c2b809d3d29eb66c2b55daa450e35beb1b1a31329b8741364f522e6e1", func := "dugout/dugoutlaw09.SeasonGames", spec := "seasonGames", inPlace := ["internal/abi.NoEscape", "internal/bytealg.MakeNoZero"], unfollowed := true, recurses := true, named := ["dugout/season.kinds", "internal/strconv.uint64pow10", "math/bits.deBruijn32tab", "math/bits.deBruijn64tab"], apart := false, laid := [("math/bits.deBruijn32tab", laid_math_bits_deBruijn32tab), ("math/bits.deBruijn64tab", laid_math_bits_deBruijn64tab), ("internal/strconv.uint64pow10", laid_internal_strconv_uint64pow10), ("dugout/season.kinds", laid_dugout_season_kinds)], narrowed := true }
def SeasonGamesUptoSaid : Prop := seasonGamesUptoRow.holds Tryz.pinned (OpenSpec.upto seasonGamesSpec)

/-- 'dugoutlaw09.SeasonBooks', WHERE WHAT IT READS IS OF BULK AT MOST 1048576: true; the input reads as it did. -/
def seasonBooksUptoRow : OpenClaim := { program := "ytbfonnoebbjenaagreatdoor", sum := "75e2355c2b809d3d29eb66c2b55daa450e35beb1b1a31329b8741364f522e6e1", func := "dugout/dugoutlaw09.SeasonBooks", spec := "seasonBooks", inPlace := ["internal/abi.NoEscape", "internal/bytealg.MakeNoZero"], unfollowed := true, recurses := true, named := ["dugout/season.kinds", "internal/strconv.uint64pow10", "math/bits.deBruijn32tab", "math/bits.deBruijn64tab"], apart := false, laid := [("math/bits.deBruijn32tab", laid_math_bits_deBruijn32tab), ("math/bits.deBruijn64tab", laid_math_bits_deBruijn64tab), ("internal/strconv.uint64pow10", laid_internal_strconv_uint64pow10), ("dugout/season.kinds", laid_dugout_season_kinds)], narrowed := true }
def SeasonBooksUptoSaid : Prop := seasonBooksUptoRow.holds Tryz.pinned (OpenSpec.upto seasonBooksSpec)

/-- 'dugoutlaw09.SeasonUpdates', WHERE WHAT IT READS IS OF BULK AT MOST 1048576: true; the input reads as it did. -/
def seasonUpdatesUptoRow : OpenClaim := { program := "ytbfonnoebbjenaagreatdoor", sum := "75e2355c2b809d3d29eb66c2b55daa450e35beb1b1a31329b8741364f522e6e1", func := "dugout/dugoutlaw09.SeasonUpdates", spec := "seasonUpdates", inPlace := ["internal/abi.NoEscape", "internal/bytealg.MakeNoZero"], unfollowed := true, recurses := true, named := ["dugout/season.kinds", "internal/strconv.uint64pow10", "math/bits.deBruijn32tab", "math/bits.deBruijn64tab"], apart := false, laid := [("math/bits.deBruijn32tab", laid_math_bits_deBruijn32tab), ("math/bits.deBruijn64tab", laid_math_bits_deBruijn64tab), ("internal/strconv.uint64pow10", laid_internal_strconv_uint64pow10), ("dugout/season.kinds", laid_dugout_season_kinds)], narrowed := true }
def SeasonUpdatesUptoSaid : Prop := seasonUpdatesUptoRow.holds Tryz.pinned (OpenSpec.upto seasonUpdatesSpec)

/-- 'dugoutlaw09.SeasonKeeps', WHERE WHAT IT READS IS OF BULK AT MOST 1048576: true; the input reads as it did. -/
def seasonKeepsUptoRow : OpenClaim := { program := "ytbfonnoebbjenaagreatdoor", sum := "75e2355c2b809d3d29eb66c2b55daa450e35beb1b1a31329b8741364f522e6e1", func := "dugout/dugoutlaw09.SeasonKeeps", spec := "seasonKeeps", inPlace := ["internal/abi.NoEscape", "internal/bytealg.MakeNoZero"], unfollowed := true, recurses := true, named := ["dugout/season.kinds", "internal/strconv.uint64pow10", "math/bits.deBruijn32tab", "math/bits.deBruijn64tab"], apart := false, laid := [("math/bits.deBruijn32tab", laid_math_bits_deBruijn32tab), ("math/bits.deBruijn64tab", laid_math_bits_deBruijn64tab), ("internal/strconv.uint64pow10", laid_internal_strconv_uint64pow10), ("dugout/season.kinds", laid_dugout_season_kinds)], narrowed := true }
def SeasonKeepsUptoSaid : Prop := seasonKeepsUptoRow.holds Tryz.pinned (OpenSpec.upto seasonKeepsSpec)

/-- 'dugoutlaw09.SeasonMerges', WHERE WHAT IT READS IS OF BULK AT MOST 1048576: true; the input reads as it did. -/
def seasonMergesUptoRow : OpenClaim := { program := "ytbfonnoebbjenaagreatdoor", sum := "75e2355c2b809d3d29eb66c2b55daa450e35beb1b1a31329b8741364f522e6e1", func := "dugout/dugoutlaw09.SeasonMerges", spec := "seasonMerges", inPlace := ["internal/abi.NoEscape", "internal/bytealg.MakeNoZero"], unfollowed := true, recurses := true, named := ["dugout/season.kinds", "internal/strconv.uint64pow10", "math/bits.deBruijn32tab", "math/bits.deBruijn64tab"], apart := false, laid := [("math/bits.deBruijn32tab", laid_math_bits_deBruijn32tab), ("math/bits.deBruijn64tab", laid_math_bits_deBruijn64tab), ("internal/strconv.uint64pow10", laid_internal_strconv_uint64pow10), ("dugout/season.kinds", laid_dugout_season_kinds)], narrowed := true }
def SeasonMergesUptoSaid : Prop := seasonMergesUptoRow.holds Tryz.pinned (OpenSpec.upto seasonMergesSpec)

/-- 'dugoutlaw09.SeasonUnites', WHERE WHAT IT READS IS OF BULK AT MOST 1048576: true; the input reads as it did. -/
def seasonUnitesUptoRow : OpenClaim := { program := "ytbfonnoebbjenaagreatdoor", sum := "75e2355c2b809d3d29eb66c2b55daa450e35beb1b1a31329b8741364f522e6e1", func := "dugout/dugoutlaw09.SeasonUnites", spec := "seasonUnites", inPlace := ["internal/abi.NoEscape", "internal/bytealg.MakeNoZero", "internal/bytealg.IndexByteString", "internal/bytealg.CountString", "internal/bytealg.IndexString"], unfollowed := true, recurses := true, named := ["dugout/season.kinds", "internal/strconv.uint64pow10", "math/bits.deBruijn32tab", "math/bits.deBruijn64tab", "unicode/utf8.first", "unicode/utf8.acceptRanges", "internal/bytealg.MaxLen", "strconv.ErrSyntax", "strconv.ErrRange"], apart := false, laid := [("math/bits.deBruijn32tab", laid_math_bits_deBruijn32tab), ("math/bits.deBruijn64tab", laid_math_bits_deBruijn64tab), ("internal/strconv.uint64pow10", laid_internal_strconv_uint64pow10), ("unicode/utf8.acceptRanges", laid_unicode_utf8_acceptRanges), ("strconv.ErrRange", laid_strconv_ErrRange), ("strconv.ErrSyntax", laid_strconv_ErrSyntax), ("dugout/season.kinds", laid_dugout_season_kinds), ("unicode/utf8.first", laid_unicode_utf8_first)], narrowed := true }
def SeasonUnitesUptoSaid : Prop := seasonUnitesUptoRow.holds Tryz.pinned (OpenSpec.upto seasonUnitesSpec)

end Rows
end Go.Proofs.YtbfonnoebbjenaaGreatDoor
