/- On the season seat: what the row of SeasonGames asks of the program's text. -/
import Derived.Test.YtbfonnoebbjenaaGreatDoorAxB
namespace Go.Proofs.Tryz
open Go Go.Am Go.ChangeShapes Go.WideShapes Go.ChangeAt Go.RowKit
open YtbfonnoebbjenaaGreatDoor
set_option maxRecDepth 100000

theorem f9_named : checked.prog.funcNamed Rows.seasonGamesRow.func = some 9 := by kernel_rfl
theorem f9_c0 : (Rows.seasonGamesRow.wf (OpenSpec.ofChange Rows.seasonGamesSpec)) = true := by kernel_rfl
theorem f9_c1 : (laidOutB checked.prog) = true := by kernel_rfl
theorem f9_c2 : (mapsRowed checked.prog) = true := by kernel_rfl
theorem f9_c3 : (f9.params.all (checked.prog.readableRec ·)) = true := by kernel_rfl
theorem f9_c4 : (namedTie checked.prog Rows.seasonGamesRow.named Rows.seasonGamesSpec.vars) = true := by kernel_rfl
theorem f9_c5 : ((Rows.seasonGamesRow.stops == [])) = true := by kernel_rfl
theorem f9_c6 : ((checked.prog.stops == [])) = true := by kernel_rfl
theorem f9_c7 : ((Rows.seasonGamesRow.knobs == [])) = true := by kernel_rfl
theorem f9_c8 : ((checked.prog.stopKnobs == [])) = true := by kernel_rfl
theorem f9_c9 : ((Rows.seasonGamesRow.inPlace == checked.prog.inPlace 9)) = true := by kernel_rfl
theorem f9_c10 : ((Rows.seasonGamesRow.unfollowed == checked.prog.unfollowed 9)) = true := by kernel_rfl
theorem f9_c11 : ((Rows.seasonGamesRow.recurses == checked.prog.recurses 9)) = true := by kernel_rfl
theorem f9_c12 : ((Rows.seasonGamesRow.named == checked.prog.varsNamed 9)) = true := by kernel_rfl
theorem f9_c13 : ((Rows.seasonGamesRow.maps == (f9.params.toList ++ Rows.seasonGamesSpec.plain.varTypes checked.prog).any (checked.prog.mapsRec ·))) = true := by kernel_rfl
theorem f9_c14 : ((Rows.seasonGamesRow.ifaces == (f9.params.toList ++ Rows.seasonGamesSpec.plain.varTypes checked.prog).any (checked.prog.ifacesRec ·))) = true := by kernel_rfl
theorem f9_c15 : ((Rows.seasonGamesRow.mapsOut == checked.prog.mapsAmong f9.resultTypes.toList)) = true := by kernel_rfl
theorem f9_c16 : ((Rows.seasonGamesRow.loops == (f9.params.toList ++ Rows.seasonGamesSpec.plain.varTypes checked.prog).any (checked.prog.loopsFrom ·))) = true := by kernel_rfl
theorem f9_c17 : ((Rows.seasonGamesRow.wideKeys == (f9.params.toList ++ Rows.seasonGamesSpec.plain.varTypes checked.prog ++ f9.resultTypes.toList).any (checked.prog.wideKeysFrom ·))) = true := by kernel_rfl
theorem f9_c18 : (Rows.seasonGamesSpec.vars.all (checked.prog.varReadable ·)) = true := by kernel_rfl
theorem f9_c19 : (f9.resultTypes.all (fun t => checked.prog.readableRec t && decide (t < checked.prog.types.size))) = true := by kernel_rfl
theorem f9_c20 : ((Rows.seasonGamesRow.ifacesOut == f9.resultTypes.toList.any (checked.prog.ifacesRec ·))) = true := by kernel_rfl
theorem f9_c21 : ((Rows.seasonGamesRow.loopsOut == f9.resultTypes.toList.any (checked.prog.loopsFrom ·))) = true := by kernel_rfl
theorem f9_c22 : ((Rows.seasonGamesRow.plainKeys == checked.prog.plainKeys)) = true := by kernel_rfl
theorem f9_c23 : (Rows.seasonGamesRow.shortTexts.isNone) = true := by kernel_rfl
theorem f9_c24 : (checked.prog.stopsHeard) = true := by kernel_rfl
theorem f9_c25 : (checked.prog.mayEnter) = true := by kernel_rfl
theorem f9_c26 : ((Rows.seasonGamesRow.lifted == checked.prog.liftsFinal)) = true := by kernel_rfl
theorem f9_c27 : ((checked.prog.make == some Rows.seasonGamesRow.make)) = true := by kernel_rfl
theorem f9_c29 : ((Rows.seasonGamesRow.pinned == Rows.seasonGamesRow.pinnedBy)) = true := by kernel_rfl
theorem f9_c30 : ((Rows.seasonGamesRow.veiled == (f9.params.toList ++ Rows.seasonGamesSpec.plain.varTypes checked.prog ++ f9.resultTypes.toList).any (checked.prog.veiledRec ·))) = true := by kernel_rfl
theorem f9_c31 : (Rows.seasonGamesRow.veiledFits checked.prog f9.params.toList (f9.params.toList ++ Rows.seasonGamesSpec.plain.varTypes checked.prog ++ f9.resultTypes.toList)) = true := by kernel_rfl
theorem f9_facts : joinedFacts checked.prog 9 f9 Rows.seasonGamesSpec Rows.seasonGamesRow = true := by
  simp only [joinedFacts, f9_c0, f9_c1, f9_c2, f9_c3, f9_c4, f9_c5, f9_c6, f9_c7, f9_c8, f9_c9, f9_c10, f9_c11, f9_c12, f9_c13, f9_c14, f9_c15, f9_c16, f9_c17, f9_c18, f9_c19, f9_c20, f9_c21, f9_c22, f9_c23, f9_c24, f9_c25, f9_c26, f9_c27, f9_c29, f9_c30, f9_c31, Bool.and_self]
  kernel_rfl
theorem f9_inst : f9.isInstance checked.prog Rows.seasonGamesRow.origin Rows.seasonGamesRow.targs := of_decide_eq_true (by kernel_rfl)
theorem f9_wrap : f9.isWrapper checked.prog Rows.seasonGamesRow.wrapper Rows.seasonGamesRow.mainSum := by
  unfold Func.isWrapper; first | (rw [if_pos (by decide +kernel)]; kernel_rfl) | (rw [if_neg (by decide +kernel)]; exact ⟨rfl, rfl⟩)
end Go.Proofs.Tryz
