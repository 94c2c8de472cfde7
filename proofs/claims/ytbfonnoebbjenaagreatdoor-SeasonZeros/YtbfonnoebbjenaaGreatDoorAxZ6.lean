/- On the season seat: what the row of SeasonZeros asks of the program's text. -/
import Derived.Test.YtbfonnoebbjenaaGreatDoorAxB
namespace Go.Proofs.Tryz
open Go Go.Am Go.ChangeShapes Go.WideShapes Go.ChangeAt Go.RowKit
open YtbfonnoebbjenaaGreatDoor
set_option maxRecDepth 100000

theorem f8_named : checked.prog.funcNamed Rows.seasonZerosRow.func = some 8 := by kernel_rfl
theorem f8_c0 : (Rows.seasonZerosRow.wf (OpenSpec.ofChange Rows.seasonZerosSpec)) = true := by kernel_rfl
theorem f8_c1 : (laidOutB checked.prog) = true := by kernel_rfl
theorem f8_c2 : (mapsRowed checked.prog) = true := by kernel_rfl
theorem f8_c3 : (f8.params.all (checked.prog.readableRec ·)) = true := by kernel_rfl
theorem f8_c4 : (namedTie checked.prog Rows.seasonZerosRow.named Rows.seasonZerosSpec.vars) = true := by kernel_rfl
theorem f8_c5 : ((Rows.seasonZerosRow.stops == [])) = true := by kernel_rfl
theorem f8_c6 : ((checked.prog.stops == [])) = true := by kernel_rfl
theorem f8_c7 : ((Rows.seasonZerosRow.knobs == [])) = true := by kernel_rfl
theorem f8_c8 : ((checked.prog.stopKnobs == [])) = true := by kernel_rfl
theorem f8_c9 : ((Rows.seasonZerosRow.inPlace == checked.prog.inPlace 8)) = true := by kernel_rfl
theorem f8_c10 : ((Rows.seasonZerosRow.unfollowed == checked.prog.unfollowed 8)) = true := by kernel_rfl
theorem f8_c11 : ((Rows.seasonZerosRow.recurses == checked.prog.recurses 8)) = true := by kernel_rfl
theorem f8_c12 : ((Rows.seasonZerosRow.named == checked.prog.varsNamed 8)) = true := by kernel_rfl
theorem f8_c13 : ((Rows.seasonZerosRow.maps == (f8.params.toList ++ Rows.seasonZerosSpec.plain.varTypes checked.prog).any (checked.prog.mapsRec ·))) = true := by kernel_rfl
theorem f8_c14 : ((Rows.seasonZerosRow.ifaces == (f8.params.toList ++ Rows.seasonZerosSpec.plain.varTypes checked.prog).any (checked.prog.ifacesRec ·))) = true := by kernel_rfl
theorem f8_c15 : ((Rows.seasonZerosRow.mapsOut == checked.prog.mapsAmong f8.resultTypes.toList)) = true := by kernel_rfl
theorem f8_c16 : ((Rows.seasonZerosRow.loops == (f8.params.toList ++ Rows.seasonZerosSpec.plain.varTypes checked.prog).any (checked.prog.loopsFrom ·))) = true := by kernel_rfl
theorem f8_c17 : ((Rows.seasonZerosRow.wideKeys == (f8.params.toList ++ Rows.seasonZerosSpec.plain.varTypes checked.prog ++ f8.resultTypes.toList).any (checked.prog.wideKeysFrom ·))) = true := by kernel_rfl
theorem f8_c18 : (Rows.seasonZerosSpec.vars.all (checked.prog.varReadable ·)) = true := by kernel_rfl
theorem f8_c19 : (f8.resultTypes.all (fun t => checked.prog.readableRec t && decide (t < checked.prog.types.size))) = true := by kernel_rfl
theorem f8_c20 : ((Rows.seasonZerosRow.ifacesOut == f8.resultTypes.toList.any (checked.prog.ifacesRec ·))) = true := by kernel_rfl
theorem f8_c21 : ((Rows.seasonZerosRow.loopsOut == f8.resultTypes.toList.any (checked.prog.loopsFrom ·))) = true := by kernel_rfl
theorem f8_c22 : ((Rows.seasonZerosRow.plainKeys == checked.prog.plainKeys)) = true := by kernel_rfl
theorem f8_c23 : (Rows.seasonZerosRow.shortTexts.isNone) = true := by kernel_rfl
theorem f8_c24 : (checked.prog.stopsHeard) = true := by kernel_rfl
theorem f8_c25 : (checked.prog.mayEnter) = true := by kernel_rfl
theorem f8_c26 : ((Rows.seasonZerosRow.lifted == checked.prog.liftsFinal)) = true := by kernel_rfl
theorem f8_c27 : ((checked.prog.make == some Rows.seasonZerosRow.make)) = true := by kernel_rfl
theorem f8_c29 : ((Rows.seasonZerosRow.pinned == Rows.seasonZerosRow.pinnedBy)) = true := by kernel_rfl
theorem f8_c30 : ((Rows.seasonZerosRow.veiled == (f8.params.toList ++ Rows.seasonZerosSpec.plain.varTypes checked.prog ++ f8.resultTypes.toList).any (checked.prog.veiledRec ·))) = true := by kernel_rfl
theorem f8_c31 : (Rows.seasonZerosRow.veiledFits checked.prog f8.params.toList (f8.params.toList ++ Rows.seasonZerosSpec.plain.varTypes checked.prog ++ f8.resultTypes.toList)) = true := by kernel_rfl
theorem f8_facts : joinedFacts checked.prog 8 f8 Rows.seasonZerosSpec Rows.seasonZerosRow = true := by
  simp only [joinedFacts, f8_c0, f8_c1, f8_c2, f8_c3, f8_c4, f8_c5, f8_c6, f8_c7, f8_c8, f8_c9, f8_c10, f8_c11, f8_c12, f8_c13, f8_c14, f8_c15, f8_c16, f8_c17, f8_c18, f8_c19, f8_c20, f8_c21, f8_c22, f8_c23, f8_c24, f8_c25, f8_c26, f8_c27, f8_c29, f8_c30, f8_c31, Bool.and_self]
  kernel_rfl
theorem f8_inst : f8.isInstance checked.prog Rows.seasonZerosRow.origin Rows.seasonZerosRow.targs := of_decide_eq_true (by kernel_rfl)
theorem f8_wrap : f8.isWrapper checked.prog Rows.seasonZerosRow.wrapper Rows.seasonZerosRow.mainSum := by
  unfold Func.isWrapper; first | (rw [if_pos (by decide +kernel)]; kernel_rfl) | (rw [if_neg (by decide +kernel)]; exact ⟨rfl, rfl⟩)
end Go.Proofs.Tryz
