/- On the season seat: what the row of SeasonBooks asks of the program's text. -/
import Derived.Test.YtbfonnoebbjenaaGreatDoorAxA
namespace Go.Proofs.Tryz
open Go Go.Am Go.ChangeShapes Go.WideShapes Go.ChangeAt Go.RowKit
open YtbfonnoebbjenaaGreatDoor
set_option maxRecDepth 100000

theorem f10_named : checked.prog.funcNamed Rows.seasonBooksRow.func = some 10 := by kernel_rfl
theorem f10_c0 : (Rows.seasonBooksRow.wf (OpenSpec.ofChange Rows.seasonBooksSpec)) = true := by kernel_rfl
theorem f10_c1 : (laidOutB checked.prog) = true := by kernel_rfl
theorem f10_c2 : (mapsRowed checked.prog) = true := by kernel_rfl
theorem f10_c3 : (f10.params.all (checked.prog.readableRec ·)) = true := by kernel_rfl
theorem f10_c4 : (namedTie checked.prog Rows.seasonBooksRow.named Rows.seasonBooksSpec.vars) = true := by kernel_rfl
theorem f10_c5 : ((Rows.seasonBooksRow.stops == [])) = true := by kernel_rfl
theorem f10_c6 : ((checked.prog.stops == [])) = true := by kernel_rfl
theorem f10_c7 : ((Rows.seasonBooksRow.knobs == [])) = true := by kernel_rfl
theorem f10_c8 : ((checked.prog.stopKnobs == [])) = true := by kernel_rfl
theorem f10_c9 : ((Rows.seasonBooksRow.inPlace == checked.prog.inPlace 10)) = true := by kernel_rfl
theorem f10_c10 : ((Rows.seasonBooksRow.unfollowed == checked.prog.unfollowed 10)) = true := by kernel_rfl
theorem f10_c11 : ((Rows.seasonBooksRow.recurses == checked.prog.recurses 10)) = true := by kernel_rfl
theorem f10_c12 : ((Rows.seasonBooksRow.named == checked.prog.varsNamed 10)) = true := by kernel_rfl
theorem f10_c13 : ((Rows.seasonBooksRow.maps == (f10.params.toList ++ Rows.seasonBooksSpec.plain.varTypes checked.prog).any (checked.prog.mapsRec ·))) = true := by kernel_rfl
theorem f10_c14 : ((Rows.seasonBooksRow.ifaces == (f10.params.toList ++ Rows.seasonBooksSpec.plain.varTypes checked.prog).any (checked.prog.ifacesRec ·))) = true := by kernel_rfl
theorem f10_c15 : ((Rows.seasonBooksRow.mapsOut == checked.prog.mapsAmong f10.resultTypes.toList)) = true := by kernel_rfl
theorem f10_c16 : ((Rows.seasonBooksRow.loops == (f10.params.toList ++ Rows.seasonBooksSpec.plain.varTypes checked.prog).any (checked.prog.loopsFrom ·))) = true := by kernel_rfl
theorem f10_c17 : ((Rows.seasonBooksRow.wideKeys == (f10.params.toList ++ Rows.seasonBooksSpec.plain.varTypes checked.prog ++ f10.resultTypes.toList).any (checked.prog.wideKeysFrom ·))) = true := by kernel_rfl
theorem f10_c18 : (Rows.seasonBooksSpec.vars.all (checked.prog.varReadable ·)) = true := by kernel_rfl
theorem f10_c19 : (f10.resultTypes.all (fun t => checked.prog.readableRec t && decide (t < checked.prog.types.size))) = true := by kernel_rfl
theorem f10_c20 : ((Rows.seasonBooksRow.ifacesOut == f10.resultTypes.toList.any (checked.prog.ifacesRec ·))) = true := by kernel_rfl
theorem f10_c21 : ((Rows.seasonBooksRow.loopsOut == f10.resultTypes.toList.any (checked.prog.loopsFrom ·))) = true := by kernel_rfl
theorem f10_c22 : ((Rows.seasonBooksRow.plainKeys == checked.prog.plainKeys)) = true := by kernel_rfl
theorem f10_c23 : (Rows.seasonBooksRow.shortTexts.isNone) = true := by kernel_rfl
theorem f10_c24 : (checked.prog.stopsHeard) = true := by kernel_rfl
theorem f10_c25 : (checked.prog.mayEnter) = true := by kernel_rfl
theorem f10_c26 : ((Rows.seasonBooksRow.lifted == checked.prog.liftsFinal)) = true := by kernel_rfl
theorem f10_c27 : ((checked.prog.make == some Rows.seasonBooksRow.make)) = true := by kernel_rfl
theorem f10_c29 : ((Rows.seasonBooksRow.pinned == Rows.seasonBooksRow.pinnedBy)) = true := by kernel_rfl
theorem f10_c30 : ((Rows.seasonBooksRow.veiled == (f10.params.toList ++ Rows.seasonBooksSpec.plain.varTypes checked.prog ++ f10.resultTypes.toList).any (checked.prog.veiledRec ·))) = true := by kernel_rfl
theorem f10_c31 : (Rows.seasonBooksRow.veiledFits checked.prog f10.params.toList (f10.params.toList ++ Rows.seasonBooksSpec.plain.varTypes checked.prog ++ f10.resultTypes.toList)) = true := by kernel_rfl
theorem f10_facts : joinedFacts checked.prog 10 f10 Rows.seasonBooksSpec Rows.seasonBooksRow = true := by
  simp only [joinedFacts, f10_c0, f10_c1, f10_c2, f10_c3, f10_c4, f10_c5, f10_c6, f10_c7, f10_c8, f10_c9, f10_c10, f10_c11, f10_c12, f10_c13, f10_c14, f10_c15, f10_c16, f10_c17, f10_c18, f10_c19, f10_c20, f10_c21, f10_c22, f10_c23, f10_c24, f10_c25, f10_c26, f10_c27, f10_c29, f10_c30, f10_c31, Bool.and_self]
  kernel_rfl
theorem f10_inst : f10.isInstance checked.prog Rows.seasonBooksRow.origin Rows.seasonBooksRow.targs := of_decide_eq_true (by kernel_rfl)
theorem f10_wrap : f10.isWrapper checked.prog Rows.seasonBooksRow.wrapper Rows.seasonBooksRow.mainSum := by
  unfold Func.isWrapper; first | (rw [if_pos (by decide +kernel)]; kernel_rfl) | (rw [if_neg (by decide +kernel)]; exact ⟨rfl, rfl⟩)
end Go.Proofs.Tryz
