/- On the season seat: what the row of SeasonUpdates asks of the program's text. -/
import Derived.Test.YtbfonnoebbjenaaGreatDoorAxA
namespace Go.Proofs.Tryz
open Go Go.Am Go.ChangeShapes Go.WideShapes Go.ChangeAt Go.RowKit
open YtbfonnoebbjenaaGreatDoor
set_option maxRecDepth 100000

theorem f11_named : checked.prog.funcNamed Rows.seasonUpdatesRow.func = some 11 := by kernel_rfl
theorem f11_c0 : (Rows.seasonUpdatesRow.wf (OpenSpec.ofChange Rows.seasonUpdatesSpec)) = true := by kernel_rfl
theorem f11_c1 : (laidOutB checked.prog) = true := by kernel_rfl
theorem f11_c2 : (mapsRowed checked.prog) = true := by kernel_rfl
theorem f11_c3 : (f11.params.all (checked.prog.readableRec ·)) = true := by kernel_rfl
theorem f11_c4 : (namedTie checked.prog Rows.seasonUpdatesRow.named Rows.seasonUpdatesSpec.vars) = true := by kernel_rfl
theorem f11_c5 : ((Rows.seasonUpdatesRow.stops == [])) = true := by kernel_rfl
theorem f11_c6 : ((checked.prog.stops == [])) = true := by kernel_rfl
theorem f11_c7 : ((Rows.seasonUpdatesRow.knobs == [])) = true := by kernel_rfl
theorem f11_c8 : ((checked.prog.stopKnobs == [])) = true := by kernel_rfl
theorem f11_c9 : ((Rows.seasonUpdatesRow.inPlace == checked.prog.inPlace 11)) = true := by kernel_rfl
theorem f11_c10 : ((Rows.seasonUpdatesRow.unfollowed == checked.prog.unfollowed 11)) = true := by kernel_rfl
theorem f11_c11 : ((Rows.seasonUpdatesRow.recurses == checked.prog.recurses 11)) = true := by kernel_rfl
theorem f11_c12 : ((Rows.seasonUpdatesRow.named == checked.prog.varsNamed 11)) = true := by kernel_rfl
theorem f11_c13 : ((Rows.seasonUpdatesRow.maps == (f11.params.toList ++ Rows.seasonUpdatesSpec.plain.varTypes checked.prog).any (checked.prog.mapsRec ·))) = true := by kernel_rfl
theorem f11_c14 : ((Rows.seasonUpdatesRow.ifaces == (f11.params.toList ++ Rows.seasonUpdatesSpec.plain.varTypes checked.prog).any (checked.prog.ifacesRec ·))) = true := by kernel_rfl
theorem f11_c15 : ((Rows.seasonUpdatesRow.mapsOut == checked.prog.mapsAmong f11.resultTypes.toList)) = true := by kernel_rfl
theorem f11_c16 : ((Rows.seasonUpdatesRow.loops == (f11.params.toList ++ Rows.seasonUpdatesSpec.plain.varTypes checked.prog).any (checked.prog.loopsFrom ·))) = true := by kernel_rfl
theorem f11_c17 : ((Rows.seasonUpdatesRow.wideKeys == (f11.params.toList ++ Rows.seasonUpdatesSpec.plain.varTypes checked.prog ++ f11.resultTypes.toList).any (checked.prog.wideKeysFrom ·))) = true := by kernel_rfl
theorem f11_c18 : (Rows.seasonUpdatesSpec.vars.all (checked.prog.varReadable ·)) = true := by kernel_rfl
theorem f11_c19 : (f11.resultTypes.all (fun t => checked.prog.readableRec t && decide (t < checked.prog.types.size))) = true := by kernel_rfl
theorem f11_c20 : ((Rows.seasonUpdatesRow.ifacesOut == f11.resultTypes.toList.any (checked.prog.ifacesRec ·))) = true := by kernel_rfl
theorem f11_c21 : ((Rows.seasonUpdatesRow.loopsOut == f11.resultTypes.toList.any (checked.prog.loopsFrom ·))) = true := by kernel_rfl
theorem f11_c22 : ((Rows.seasonUpdatesRow.plainKeys == checked.prog.plainKeys)) = true := by kernel_rfl
theorem f11_c23 : (Rows.seasonUpdatesRow.shortTexts.isNone) = true := by kernel_rfl
theorem f11_c24 : (checked.prog.stopsHeard) = true := by kernel_rfl
theorem f11_c25 : (checked.prog.mayEnter) = true := by kernel_rfl
theorem f11_c26 : ((Rows.seasonUpdatesRow.lifted == checked.prog.liftsFinal)) = true := by kernel_rfl
theorem f11_c27 : ((checked.prog.make == some Rows.seasonUpdatesRow.make)) = true := by kernel_rfl
theorem f11_c29 : ((Rows.seasonUpdatesRow.pinned == Rows.seasonUpdatesRow.pinnedBy)) = true := by kernel_rfl
theorem f11_c30 : ((Rows.seasonUpdatesRow.veiled == (f11.params.toList ++ Rows.seasonUpdatesSpec.plain.varTypes checked.prog ++ f11.resultTypes.toList).any (checked.prog.veiledRec ·))) = true := by kernel_rfl
theorem f11_c31 : (Rows.seasonUpdatesRow.veiledFits checked.prog f11.params.toList (f11.params.toList ++ Rows.seasonUpdatesSpec.plain.varTypes checked.prog ++ f11.resultTypes.toList)) = true := by kernel_rfl
theorem f11_facts : joinedFacts checked.prog 11 f11 Rows.seasonUpdatesSpec Rows.seasonUpdatesRow = true := by
  simp only [joinedFacts, f11_c0, f11_c1, f11_c2, f11_c3, f11_c4, f11_c5, f11_c6, f11_c7, f11_c8, f11_c9, f11_c10, f11_c11, f11_c12, f11_c13, f11_c14, f11_c15, f11_c16, f11_c17, f11_c18, f11_c19, f11_c20, f11_c21, f11_c22, f11_c23, f11_c24, f11_c25, f11_c26, f11_c27, f11_c29, f11_c30, f11_c31, Bool.and_self]
  kernel_rfl
theorem f11_inst : f11.isInstance checked.prog Rows.seasonUpdatesRow.origin Rows.seasonUpdatesRow.targs := of_decide_eq_true (by kernel_rfl)
theorem f11_wrap : f11.isWrapper checked.prog Rows.seasonUpdatesRow.wrapper Rows.seasonUpdatesRow.mainSum := by
  unfold Func.isWrapper; first | (rw [if_pos (by decide +kernel)]; kernel_rfl) | (rw [if_neg (by decide +kernel)]; exact ⟨rfl, rfl⟩)
end Go.Proofs.Tryz
