/- On the season seat: what the row of SeasonTotals asks of the program's text. -/
import Derived.Test.YtbfonnoebbjenaaGreatDoorAxB
namespace Go.Proofs.Tryz
open Go Go.Am Go.ChangeShapes Go.WideShapes Go.ChangeAt Go.RowKit
open YtbfonnoebbjenaaGreatDoor
set_option maxRecDepth 100000

theorem f3_named : checked.prog.funcNamed Rows.seasonTotalsRow.func = some 3 := by kernel_rfl
theorem f3_c0 : (Rows.seasonTotalsRow.wf (OpenSpec.ofChange Rows.seasonTotalsSpec)) = true := by kernel_rfl
theorem f3_c1 : (laidOutB checked.prog) = true := by kernel_rfl
theorem f3_c2 : (mapsRowed checked.prog) = true := by kernel_rfl
theorem f3_c3 : (f3.params.all (checked.prog.readableRec ·)) = true := by kernel_rfl
theorem f3_c4 : (namedTie checked.prog Rows.seasonTotalsRow.named Rows.seasonTotalsSpec.vars) = true := by kernel_rfl
theorem f3_c5 : ((Rows.seasonTotalsRow.stops == [])) = true := by kernel_rfl
theorem f3_c6 : ((checked.prog.stops == [])) = true := by kernel_rfl
theorem f3_c7 : ((Rows.seasonTotalsRow.knobs == [])) = true := by kernel_rfl
theorem f3_c8 : ((checked.prog.stopKnobs == [])) = true := by kernel_rfl
theorem f3_c9 : ((Rows.seasonTotalsRow.inPlace == checked.prog.inPlace 3)) = true := by kernel_rfl
theorem f3_c10 : ((Rows.seasonTotalsRow.unfollowed == checked.prog.unfollowed 3)) = true := by kernel_rfl
theorem f3_c11 : ((Rows.seasonTotalsRow.recurses == checked.prog.recurses 3)) = true := by kernel_rfl
theorem f3_c12 : ((Rows.seasonTotalsRow.named == checked.prog.varsNamed 3)) = true := by kernel_rfl
theorem f3_c13 : ((Rows.seasonTotalsRow.maps == (f3.params.toList ++ Rows.seasonTotalsSpec.plain.varTypes checked.prog).any (checked.prog.mapsRec ·))) = true := by kernel_rfl
theorem f3_c14 : ((Rows.seasonTotalsRow.ifaces == (f3.params.toList ++ Rows.seasonTotalsSpec.plain.varTypes checked.prog).any (checked.prog.ifacesRec ·))) = true := by kernel_rfl
theorem f3_c15 : ((Rows.seasonTotalsRow.mapsOut == checked.prog.mapsAmong f3.resultTypes.toList)) = true := by kernel_rfl
theorem f3_c16 : ((Rows.seasonTotalsRow.loops == (f3.params.toList ++ Rows.seasonTotalsSpec.plain.varTypes checked.prog).any (checked.prog.loopsFrom ·))) = true := by kernel_rfl
theorem f3_c17 : ((Rows.seasonTotalsRow.wideKeys == (f3.params.toList ++ Rows.seasonTotalsSpec.plain.varTypes checked.prog ++ f3.resultTypes.toList).any (checked.prog.wideKeysFrom ·))) = true := by kernel_rfl
theorem f3_c18 : (Rows.seasonTotalsSpec.vars.all (checked.prog.varReadable ·)) = true := by kernel_rfl
theorem f3_c19 : (f3.resultTypes.all (fun t => checked.prog.readableRec t && decide (t < checked.prog.types.size))) = true := by kernel_rfl
theorem f3_c20 : ((Rows.seasonTotalsRow.ifacesOut == f3.resultTypes.toList.any (checked.prog.ifacesRec ·))) = true := by kernel_rfl
theorem f3_c21 : ((Rows.seasonTotalsRow.loopsOut == f3.resultTypes.toList.any (checked.prog.loopsFrom ·))) = true := by kernel_rfl
theorem f3_c22 : ((Rows.seasonTotalsRow.plainKeys == checked.prog.plainKeys)) = true := by kernel_rfl
theorem f3_c23 : (Rows.seasonTotalsRow.shortTexts.isNone) = true := by kernel_rfl
theorem f3_c24 : (checked.prog.stopsHeard) = true := by kernel_rfl
theorem f3_c25 : (checked.prog.mayEnter) = true := by kernel_rfl
theorem f3_c26 : ((Rows.seasonTotalsRow.lifted == checked.prog.liftsFinal)) = true := by kernel_rfl
theorem f3_c27 : ((checked.prog.make == some Rows.seasonTotalsRow.make)) = true := by kernel_rfl
theorem f3_c29 : ((Rows.seasonTotalsRow.pinned == Rows.seasonTotalsRow.pinnedBy)) = true := by kernel_rfl
theorem f3_c30 : ((Rows.seasonTotalsRow.veiled == (f3.params.toList ++ Rows.seasonTotalsSpec.plain.varTypes checked.prog ++ f3.resultTypes.toList).any (checked.prog.veiledRec ·))) = true := by kernel_rfl
theorem f3_c31 : (Rows.seasonTotalsRow.veiledFits checked.prog f3.params.toList (f3.params.toList ++ Rows.seasonTotalsSpec.plain.varTypes checked.prog ++ f3.resultTypes.toList)) = true := by kernel_rfl
theorem f3_facts : joinedFacts checked.prog 3 f3 Rows.seasonTotalsSpec Rows.seasonTotalsRow = true := by
  simp only [joinedFacts, f3_c0, f3_c1, f3_c2, f3_c3, f3_c4, f3_c5, f3_c6, f3_c7, f3_c8, f3_c9, f3_c10, f3_c11, f3_c12, f3_c13, f3_c14, f3_c15, f3_c16, f3_c17, f3_c18, f3_c19, f3_c20, f3_c21, f3_c22, f3_c23, f3_c24, f3_c25, f3_c26, f3_c27, f3_c29, f3_c30, f3_c31, Bool.and_self]
  kernel_rfl
theorem f3_inst : f3.isInstance checked.prog Rows.seasonTotalsRow.origin Rows.seasonTotalsRow.targs := of_decide_eq_true (by kernel_rfl)
theorem f3_wrap : f3.isWrapper checked.prog Rows.seasonTotalsRow.wrapper Rows.seasonTotalsRow.mainSum := by
  unfold Func.isWrapper; first | (rw [if_pos (by decide +kernel)]; kernel_rfl) | (rw [if_neg (by decide +kernel)]; exact ⟨rfl, rfl⟩)
end Go.Proofs.Tryz
