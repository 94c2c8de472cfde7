/- On the seat of the open Play statements: the row of PlayFielders, proved. -/
import Derived.Test.YthlmjjdlmidnlaaGreatDoorArO
import Derived.Test.YthlmjjdlmidnlaaGreatDoorArVk
namespace Go.Proofs.Tryz
open Go Go.Am Go.ChangeShapes Go.WideShapes Go.ChangeAt Go.RowKit
open YthlmjjdlmidnlaaGreatDoor
set_option maxRecDepth 100000

theorem fielders_lifted (os : Os) (started : os.Started) (H : Type) (enc : TypeId × Value → H) :
    ReturnsInHanded {} checked os 5 .any (fun w args => (Rows.playFieldersSpec.pre enc prog f5 [] false w args ∧ laidMetH prog Rows.playFieldersRow.laid w) ∧ sizedMet enc prog f5 (OpenSpec.ofChange Rows.playFieldersSpec) false w args)
      (Rows.playFieldersSpec.post enc prog f5 false true false false) := by
  refine returnsInHanded_of_change_and (C := checked) (X := fun w _ => laidMetH prog Rows.playFieldersRow.laid w) (fun _ _ _ hh h => h.of_heap hh) own started (by kernel_rfl) func5
    (ChangeSpec.witness_shaped (enc := enc) (C := checked) (os := os) (X := fun w _ => laidMetH prog Rows.playFieldersRow.laid w) false (World.laidAll prog os Rows.playFieldersRow.laid) #[.agg #[.string ⟨#[]⟩, .string ⟨#[]⟩, .bool false, .slice none 0 0], .int .i64 0] 8 (World.laidAll_os _ _ _) (laid_shaped os) (by kernel_rfl) (by kernel_rfl) (by kernel_rfl) (laid_met os _)) ?_
  intro W base args ds gs before hval0 hW _ _ hL _
  have hval : ∀ (j : Nat) t v, f5.params[j]? = some t → args[j]? = some v → Value.okWide prog W .any base t v := hval0
  have hW' := hW
  obtain ⟨p, q, hA0, hV, rfl, hfz, hnd⟩ := hW
  have hA : DataW.TrodAll enc prog W 0 (fun _ => true) true f5.params.toList args.toList ds p := hA0
  rw [params5] at hA hval
  obtain ⟨v0, v1, e0, e1, p0, p1, rfl, rfl, rfl, h0, h1⟩ := trodAll_two hA
  obtain ⟨rfl, rfl⟩ := trodVars_none hV
  have hlaid := of_laid hL
  obtain ⟨y00, y10, yn0, en0, lx0, d0, n0, pv0, ev0, mv0, rfl, a0, b0, c0⟩ := play_arg (hval 0 24 v0 rfl rfl) h0
  obtain ⟨x1, rfl⟩ := int_arg (hval 1 3 v1 rfl rfl)
  have hrun : Calls prog 5 #[.agg #[pv0, ev0, .bool (decide (lx0 ≠ 0)), mv0], .int .i64 x1] W fun e w' => e = .returned (.bool true) ∧ Below W.heap.size W w' := fielders_law hlaid a0 b0 c0 (moves_bn c0)
  refine hrun.mono fun e W' ⟨he, hB⟩ => ?_
  subst he
  have hlt : ∀ x ∈ p0 ++ p1, x.block < W.heap.size := fun x hx => by
    have := hW'.lt x (by simpa using hx)
    exact this
  refine ⟨_, rfl, _, _, _, [], p0 ++ p1, [], hW', trodAll_mk1 (shut_bool underlying4 true), ?_, rfl, hB.frame _, fun h => by cases h⟩
  exact trodAll_mk2 (Below.trod laidOut (by kernel_rfl) (of_decide_eq_true (by kernel_rfl)) h0 hB fun x hx => hlt x (by simp [hx]))
    (Below.trod laidOut (by kernel_rfl) (of_decide_eq_true (by kernel_rfl)) h1 hB fun x hx => hlt x (by simp [hx]))

theorem f5_named : checked.prog.funcNamed Rows.playFieldersRow.func = some 5 := by kernel_rfl
theorem f5_facts : joinedFacts checked.prog 5 f5 Rows.playFieldersSpec Rows.playFieldersRow = true := by kernel_rfl
theorem f5_inst : f5.isInstance checked.prog Rows.playFieldersRow.origin Rows.playFieldersRow.targs := of_decide_eq_true (by kernel_rfl)
theorem f5_wrap : f5.isWrapper checked.prog Rows.playFieldersRow.wrapper Rows.playFieldersRow.mainSum := by
  unfold Func.isWrapper; first | (rw [if_pos (by decide +kernel)]; kernel_rfl) | (rw [if_neg (by decide +kernel)]; exact ⟨rfl, rfl⟩)

theorem fielders_holds : Rows.PlayFieldersSaid :=
  OpenClaim.holds_of_wide 5 f5 rfl rfl rfl rfl rfl rfl rfl ⟨rfl, rfl, rfl, rfl, rfl⟩ rfl rfl rfl rfl rfl f5_named func5 f5_facts f5_inst f5_wrap
    (fun os started H enc _ => fielders_lifted os started H enc)
end Go.Proofs.Tryz
