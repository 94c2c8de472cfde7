/- On the season seat: what the row of SeasonStandings asks of the program's text. -/
import Derived.Test.YtbfonnoebbjenaaGreatDoorAxA
namespace Go.Proofs.Tryz
open Go Go.Am Go.ChangeShapes Go.WideShapes Go.ChangeAt Go.RowKit
open YtbfonnoebbjenaaGreatDoor
set_option maxRecDepth 100000

theorem f6_named : checked.prog.funcNamed Rows.seasonStandingsRow.func = some 6 := by kernel_rfl
theorem f6_c0 : (Rows.seasonStandingsRow.wf (OpenSpec.ofChange Rows.seasonStandingsSpec)) = true := by kernel_rfl
theorem f6_c1 : (laidOutB checked.prog) = true := by kernel_rfl
theorem f6_c2 : (mapsRowed checked.prog) = true := by kernel_rfl
theorem f6_c3 : (f6.params.all (checked.prog.readableRec ·)) = true := by kernel_rfl
theorem f6_c4 : (namedTie checked.prog Rows.seasonStandingsRow.named Rows.seasonStandingsSpec.vars) = true := by kernel_rfl
theorem f6_c5 : ((Rows.seasonStandingsRow.stops == [])) = true := by kernel_rfl
theorem f6_c6 : ((checked.prog.stops == [])) = true := by kernel_rfl
theorem f6_c7 : ((Rows.seasonStandingsRow.knobs == [])) = true := by kernel_rfl
theorem f6_c8 : ((checked.prog.stopKnobs == [])) = true := by kernel_rfl
theorem f6_c9 : ((Rows.seasonStandingsRow.inPlace == checked.prog.inPlace 6)) = true := by kernel_rfl
theorem f6_c10 : ((Rows.seasonStandingsRow.unfollowed == checked.prog.unfollowed 6)) = true := by kernel_rfl
theorem f6_c11 : ((Rows.seasonStandingsRow.recurses == checked.prog.recurses 6)) = true := by kernel_rfl
theorem f6_c12 : ((Rows.seasonStandingsRow.named == checked.prog.varsNamed 6)) = true := by kernel_rfl
theorem f6_c13 : ((Rows.seasonStandingsRow.maps == (f6.params.toList ++ Rows.seasonStandingsSpec.plain.varTypes checked.prog).any (checked.prog.mapsRec ·))) = true := by kernel_rfl
theorem f6_c14 : ((Rows.seasonStandingsRow.ifaces == (f6.params.toList ++ Rows.seasonStandingsSpec.plain.varTypes checked.prog).any (checked.prog.ifacesRec ·))) = true := by kernel_rfl
theorem f6_c15 : ((Rows.seasonStandingsRow.mapsOut == checked.prog.mapsAmong f6.resultTypes.toList)) = true := by kernel_rfl
theorem f6_c16 : ((Rows.seasonStandingsRow.loops == (f6.params.toList ++ Rows.seasonStandingsSpec.plain.varTypes checked.prog).any (checked.prog.loopsFrom ·))) = true := by kernel_rfl
theorem f6_c17 : ((Rows.seasonStandingsRow.wideKeys == (f6.params.toList ++ Rows.seasonStandingsSpec.plain.varTypes checked.prog ++ f6.resultTypes.toList).any (checked.prog.wideKeysFrom ·))) = true := by kernel_rfl
theorem f6_c18 : (Rows.seasonStandingsSpec.vars.all (checked.prog.varReadable ·)) = true := by kernel_rfl
theorem f6_c19 : (f6.resultTypes.all (fun t => checked.prog.readableRec t && decide (t < checked.prog.types.size))) = true := by kernel_rfl
theorem f6_c20 : ((Rows.seasonStandingsRow.ifacesOut == f6.resultTypes.toList.any (checked.prog.ifacesRec ·))) = true := by kernel_rfl
theorem f6_c21 : ((Rows.seasonStandingsRow.loopsOut == f6.resultTypes.toList.any (checked.prog.loopsFrom ·))) = true := by kernel_rfl
theorem f6_c22 : ((Rows.seasonStandingsRow.plainKeys == checked.prog.plainKeys)) = true := by kernel_rfl
theorem f6_c23 : (Rows.seasonStandingsRow.shortTexts.isNone) = true := by kernel_rfl
theorem f6_c24 : (checked.prog.stopsHeard) = true := by kernel_rfl
theorem f6_c25 : (checked.prog.mayEnter) = true := by kernel_rfl
theorem f6_c26 : ((Rows.seasonStandingsRow.lifted == checked.prog.liftsFinal)) = true := by kernel_rfl
theorem f6_c27 : ((checked.prog.make == some Rows.seasonStandingsRow.make)) = true := by kernel_rfl
theorem f6_c29 : ((Rows.seasonStandingsRow.pinned == Rows.seasonStandingsRow.pinnedBy)) = true := by kernel_rfl
theorem f6_c30 : ((Rows.seasonStandingsRow.veiled == (f6.params.toList ++ Rows.seasonStandingsSpec.plain.varTypes checked.prog ++ f6.resultTypes.toList).any (checked.prog.veiledRec ·))) = true := by kernel_rfl
theorem f6_c31 : (Rows.seasonStandingsRow.veiledFits checked.prog f6.params.toList (f6.params.toList ++ Rows.seasonStandingsSpec.plain.varTypes checked.prog ++ f6.resultTypes.toList)) = true := by kernel_rfl
theorem f6_facts : joinedFacts checked.prog 6 f6 Rows.seasonStandingsSpec Rows.seasonStandingsRow = true := by
  simp only [joinedFacts, f6_c0, f6_c1, f6_c2, f6_c3, f6_c4, f6_c5, f6_c6, f6_c7, f6_c8, f6_c9, f6_c10, f6_c11, f6_c12, f6_c13, f6_c14, f6_c15, f6_c16, f6_c17, f6_c18, f6_c19, f6_c20, f6_c21, f6_c22, f6_c23, f6_c24, f6_c25, f6_c26, f6_c27, f6_c29, f6_c30, f6_c31, Bool.and_self]
  kernel_rfl
theorem f6_inst : f6.isInstance checked.prog Rows.seasonStandingsRow.origin Rows.seasonStandingsRow.targs := of_decide_eq_true (by kernel_rfl)
theorem f6_wrap : f6.isWrapper checked.prog Rows.seasonStandingsRow.wrapper Rows.seasonStandingsRow.mainSum := by
  unfold Func.isWrapper; first | (rw [if_pos (by decide +kernel)]; kernel_rfl) | (rw [if_neg (by decide +kernel)]; exact ⟨rfl, rfl⟩)
end Go.Proofs.Tryz
