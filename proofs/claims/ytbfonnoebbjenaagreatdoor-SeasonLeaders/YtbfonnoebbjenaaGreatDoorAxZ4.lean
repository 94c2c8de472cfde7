/- On the season seat: what the row of SeasonLeaders asks of the program's text. -/
import Derived.Test.YtbfonnoebbjenaaGreatDoorAxA
namespace Go.Proofs.Tryz
open Go Go.Am Go.ChangeShapes Go.WideShapes Go.ChangeAt Go.RowKit
open YtbfonnoebbjenaaGreatDoor
set_option maxRecDepth 100000

theorem f4_named : checked.prog.funcNamed Rows.seasonLeadersRow.func = some 4 := by kernel_rfl
theorem f4_c0 : (Rows.seasonLeadersRow.wf (OpenSpec.ofChange Rows.seasonLeadersSpec)) = true := by kernel_rfl
theorem f4_c1 : (laidOutB checked.prog) = true := by kernel_rfl
theorem f4_c2 : (mapsRowed checked.prog) = true := by kernel_rfl
theorem f4_c3 : (f4.params.all (checked.prog.readableRec ·)) = true := by kernel_rfl
theorem f4_c4 : (namedTie checked.prog Rows.seasonLeadersRow.named Rows.seasonLeadersSpec.vars) = true := by kernel_rfl
theorem f4_c5 : ((Rows.seasonLeadersRow.stops == [])) = true := by kernel_rfl
theorem f4_c6 : ((checked.prog.stops == [])) = true := by kernel_rfl
theorem f4_c7 : ((Rows.seasonLeadersRow.knobs == [])) = true := by kernel_rfl
theorem f4_c8 : ((checked.prog.stopKnobs == [])) = true := by kernel_rfl
theorem f4_c9 : ((Rows.seasonLeadersRow.inPlace == checked.prog.inPlace 4)) = true := by kernel_rfl
theorem f4_c10 : ((Rows.seasonLeadersRow.unfollowed == checked.prog.unfollowed 4)) = true := by kernel_rfl
theorem f4_c11 : ((Rows.seasonLeadersRow.recurses == checked.prog.recurses 4)) = true := by kernel_rfl
theorem f4_c12 : ((Rows.seasonLeadersRow.named == checked.prog.varsNamed 4)) = true := by kernel_rfl
theorem f4_c13 : ((Rows.seasonLeadersRow.maps == (f4.params.toList ++ Rows.seasonLeadersSpec.plain.varTypes checked.prog).any (checked.prog.mapsRec ·))) = true := by kernel_rfl
theorem f4_c14 : ((Rows.seasonLeadersRow.ifaces == (f4.params.toList ++ Rows.seasonLeadersSpec.plain.varTypes checked.prog).any (checked.prog.ifacesRec ·))) = true := by kernel_rfl
theorem f4_c15 : ((Rows.seasonLeadersRow.mapsOut == checked.prog.mapsAmong f4.resultTypes.toList)) = true := by kernel_rfl
theorem f4_c16 : ((Rows.seasonLeadersRow.loops == (f4.params.toList ++ Rows.seasonLeadersSpec.plain.varTypes checked.prog).any (checked.prog.loopsFrom ·))) = true := by kernel_rfl
theorem f4_c17 : ((Rows.seasonLeadersRow.wideKeys == (f4.params.toList ++ Rows.seasonLeadersSpec.plain.varTypes checked.prog ++ f4.resultTypes.toList).any (checked.prog.wideKeysFrom ·))) = true := by kernel_rfl
theorem f4_c18 : (Rows.seasonLeadersSpec.vars.all (checked.prog.varReadable ·)) = true := by kernel_rfl
theorem f4_c19 : (f4.resultTypes.all (fun t => checked.prog.readableRec t && decide (t < checked.prog.types.size))) = true := by kernel_rfl
theorem f4_c20 : ((Rows.seasonLeadersRow.ifacesOut == f4.resultTypes.toList.any (checked.prog.ifacesRec ·))) = true := by kernel_rfl
theorem f4_c21 : ((Rows.seasonLeadersRow.loopsOut == f4.resultTypes.toList.any (checked.prog.loopsFrom ·))) = true := by kernel_rfl
theorem f4_c22 : ((Rows.seasonLeadersRow.plainKeys == checked.prog.plainKeys)) = true := by kernel_rfl
theorem f4_c23 : (Rows.seasonLeadersRow.shortTexts.isNone) = true := by kernel_rfl
theorem f4_c24 : (checked.prog.stopsHeard) = true := by kernel_rfl
theorem f4_c25 : (checked.prog.mayEnter) = true := by kernel_rfl
theorem f4_c26 : ((Rows.seasonLeadersRow.lifted == checked.prog.liftsFinal)) = true := by kernel_rfl
theorem f4_c27 : ((checked.prog.make == some Rows.seasonLeadersRow.make)) = true := by kernel_rfl
theorem f4_c29 : ((Rows.seasonLeadersRow.pinned == Rows.seasonLeadersRow.pinnedBy)) = true := by kernel_rfl
theorem f4_c30 : ((Rows.seasonLeadersRow.veiled == (f4.params.toList ++ Rows.seasonLeadersSpec.plain.varTypes checked.prog ++ f4.resultTypes.toList).any (checked.prog.veiledRec ·))) = true := by kernel_rfl
theorem f4_c31 : (Rows.seasonLeadersRow.veiledFits checked.prog f4.params.toList (f4.params.toList ++ Rows.seasonLeadersSpec.plain.varTypes checked.prog ++ f4.resultTypes.toList)) = true := by kernel_rfl
theorem f4_facts : joinedFacts checked.prog 4 f4 Rows.seasonLeadersSpec Rows.seasonLeadersRow = true := by
  simp only [joinedFacts, f4_c0, f4_c1, f4_c2, f4_c3, f4_c4, f4_c5, f4_c6, f4_c7, f4_c8, f4_c9, f4_c10, f4_c11, f4_c12, f4_c13, f4_c14, f4_c15, f4_c16, f4_c17, f4_c18, f4_c19, f4_c20, f4_c21, f4_c22, f4_c23, f4_c24, f4_c25, f4_c26, f4_c27, f4_c29, f4_c30, f4_c31, Bool.and_self]
  kernel_rfl
theorem f4_inst : f4.isInstance checked.prog Rows.seasonLeadersRow.origin Rows.seasonLeadersRow.targs := of_decide_eq_true (by kernel_rfl)
theorem f4_wrap : f4.isWrapper checked.prog Rows.seasonLeadersRow.wrapper Rows.seasonLeadersRow.mainSum := by
  unfold Func.isWrapper; first | (rw [if_pos (by decide +kernel)]; kernel_rfl) | (rw [if_neg (by decide +kernel)]; exact ⟨rfl, rfl⟩)
end Go.Proofs.Tryz
