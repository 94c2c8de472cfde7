/- On the play seat's program: the row of PlayRates, proved. -/
import Derived.Test.YtfnpmcbilejbbaaGreatDoorAqL1
import Derived.Test.YtfnpmcbilejbbaaGreatDoorAqO
namespace Go.Proofs.Tryz
open Go Go.Am Go.ChangeShapes Go.WideShapes Go.ChangeAt Go.RowKit
open YtfnpmcbilejbbaaGreatDoor
set_option maxRecDepth 100000

theorem fn3 : cx.fn 3 = some f3 := by kernel_rfl
theorem hasBody3 : f3.body.isSome = true := by kernel_rfl

theorem rates_lifted (os : Os) (started : os.Started) (H : Type) (enc : TypeId × Value → H) :
    ReturnsInHanded {} checked os 3 .any (fun w args => (Rows.playRatesSpec.pre enc prog f3 [] false w args ∧ laidMetH prog Rows.playRatesRow.laid w) ∧ sizedMet enc prog f3 (OpenSpec.ofChange Rows.playRatesSpec) false w args)
      (Rows.playRatesSpec.post enc prog f3 false true false false) := by
  refine returnsInHanded_of_change_and (C := checked) (X := fun w _ => laidMetH prog Rows.playRatesRow.laid w) (fun _ _ _ hh h => h.of_heap hh) own started (by kernel_rfl) func3
    (ChangeSpec.witness_shaped (enc := enc) (C := checked) (os := os) (X := fun w _ => laidMetH prog Rows.playRatesRow.laid w) false (World.laidAll prog os Rows.playRatesRow.laid) #[.agg #[.int .i64 0, .int .i64 0], .agg #[.int .i64 0, .int .i64 0]] 8 (World.laidAll_os _ _ _) (laid_shaped os) (by kernel_rfl) (by kernel_rfl) (by kernel_rfl) (laid_met os _)) ?_
  intro W base args ds gs before hval0 hW _ _ hL _
  have hval : ∀ (j : Nat) t v, f3.params[j]? = some t → args[j]? = some v → Value.okWide prog W .any base t v := hval0
  have hW' := hW
  obtain ⟨p, q, hA0, hV, rfl, hfz, hnd⟩ := hW
  have hA : DataW.TrodAll enc prog W 0 (fun _ => true) true f3.params.toList args.toList ds p := hA0
  rw [params3] at hA hval
  obtain ⟨v0, v1, e0, e1, p0, p1, rfl, rfl, rfl, h0, h1⟩ := trodAll_two hA
  obtain ⟨rfl, rfl⟩ := trodVars_none hV
  have hlaid := of_laid hL
  obtain ⟨a0, b0, rfl⟩ := open_ratio (hval 0 23 v0 rfl rfl)
  obtain ⟨a1, b1, rfl⟩ := open_ratio (hval 1 23 v1 rfl rfl)
  have hrun : CallRet prog 3 #[.agg #[.int .i64 a0, .int .i64 b0], .agg #[.int .i64 a1, .int .i64 b1]] W fun v' w' => v' = .bool true ∧ Kept W w' := rates_law a0 b0 a1 b1 W hlaid
  obtain ⟨c, hc⟩ := Option.isSome_iff_exists.1 hasBody3
  refine (CallRet.calls fn3 hc hrun).mono fun e W' ⟨v, he, hv, hk⟩ => ?_
  subst he; subst hv
  have hlt : ∀ x ∈ p0 ++ p1, x.block < W.heap.size := fun x hx => by
    have := hW'.lt x (by simpa using hx)
    exact this
  have hB := hk.below
  refine ⟨_, rfl, _, _, _, [], p0 ++ p1, [], hW', trodAll_mk1 (shut_bool underlying4 true), ?_, rfl, hB.frame _, fun h => by cases h⟩
  exact trodAll_mk2 (Below.trod laidOut (by kernel_rfl) (of_decide_eq_true (by kernel_rfl)) h0 hB fun x hx => hlt x (by simp [hx]))
    (Below.trod laidOut (by kernel_rfl) (of_decide_eq_true (by kernel_rfl)) h1 hB fun x hx => hlt x (by simp [hx]))

theorem f3_named : checked.prog.funcNamed Rows.playRatesRow.func = some 3 := by kernel_rfl
theorem f3_facts : joinedFacts checked.prog 3 f3 Rows.playRatesSpec Rows.playRatesRow = true := by kernel_rfl
theorem f3_inst : f3.isInstance checked.prog Rows.playRatesRow.origin Rows.playRatesRow.targs := of_decide_eq_true (by kernel_rfl)
theorem f3_wrap : f3.isWrapper checked.prog Rows.playRatesRow.wrapper Rows.playRatesRow.mainSum := by
  unfold Func.isWrapper; first | (rw [if_pos (by decide +kernel)]; kernel_rfl) | (rw [if_neg (by decide +kernel)]; exact ⟨rfl, rfl⟩)

theorem rates_holds : Rows.PlayRatesSaid :=
  OpenClaim.holds_of_wide 3 f3 rfl rfl rfl rfl rfl rfl rfl ⟨rfl, rfl, rfl, rfl, rfl⟩ rfl rfl rfl rfl rfl f3_named func3 f3_facts f3_inst f3_wrap
    (fun os started H enc _ => rates_lifted os started H enc)
end Go.Proofs.Tryz
