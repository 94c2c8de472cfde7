/- On the play seat's program: the row of PlayOrders, proved. -/
import Derived.Test.YtfnpmcbilejbbaaGreatDoorAqL2
import Derived.Test.YtfnpmcbilejbbaaGreatDoorAqO
namespace Go.Proofs.Tryz
open Go Go.Am Go.ChangeShapes Go.WideShapes Go.ChangeAt Go.RowKit
open YtfnpmcbilejbbaaGreatDoor
set_option maxRecDepth 100000

theorem fn5 : cx.fn 5 = some f5 := by kernel_rfl
theorem hasBody5 : f5.body.isSome = true := by kernel_rfl

theorem orders_lifted (os : Os) (started : os.Started) (H : Type) (enc : TypeId × Value → H) :
    ReturnsInHanded {} checked os 5 .any (fun w args => (Rows.playOrdersSpec.pre enc prog f5 [] false w args ∧ laidMetH prog Rows.playOrdersRow.laid w) ∧ sizedMet enc prog f5 (OpenSpec.ofChange Rows.playOrdersSpec) false w args)
      (Rows.playOrdersSpec.post enc prog f5 false true false false) := by
  refine returnsInHanded_of_change_and (C := checked) (X := fun w _ => laidMetH prog Rows.playOrdersRow.laid w) (fun _ _ _ hh h => h.of_heap hh) own started (by kernel_rfl) func5
    (ChangeSpec.witness_shaped (enc := enc) (C := checked) (os := os) (X := fun w _ => laidMetH prog Rows.playOrdersRow.laid w) false (World.laidAll prog os Rows.playOrdersRow.laid) #[.agg #[.int .i64 0, .int .i64 0], .agg #[.int .i64 0, .int .i64 0], .agg #[.int .i64 0, .int .i64 0]] 8 (World.laidAll_os _ _ _) (laid_shaped os) (by kernel_rfl) (by kernel_rfl) (by kernel_rfl) (laid_met os _)) ?_
  intro W base args ds gs before hval0 hW _ _ hL _
  have hval : ∀ (j : Nat) t v, f5.params[j]? = some t → args[j]? = some v → Value.okWide prog W .any base t v := hval0
  have hW' := hW
  obtain ⟨p, q, hA0, hV, rfl, hfz, hnd⟩ := hW
  have hA : DataW.TrodAll enc prog W 0 (fun _ => true) true f5.params.toList args.toList ds p := hA0
  rw [params5] at hA hval
  obtain ⟨v0, v1, v2, e0, e1, e2, p0, p1, p2, rfl, rfl, rfl, h0, h1, h2⟩ := trodAll_three hA
  obtain ⟨rfl, rfl⟩ := trodVars_none hV
  have hlaid := of_laid hL
  obtain ⟨a0, b0, rfl⟩ := open_ratio (hval 0 23 v0 rfl rfl)
  obtain ⟨a1, b1, rfl⟩ := open_ratio (hval 1 23 v1 rfl rfl)
  obtain ⟨a2, b2, rfl⟩ := open_ratio (hval 2 23 v2 rfl rfl)
  have hrun : CallRet prog 5 #[.agg #[.int .i64 a0, .int .i64 b0], .agg #[.int .i64 a1, .int .i64 b1], .agg #[.int .i64 a2, .int .i64 b2]] W fun v' w' => v' = .bool true ∧ Kept W w' := orders_law a0 b0 a1 b1 a2 b2 W hlaid
  obtain ⟨c, hc⟩ := Option.isSome_iff_exists.1 hasBody5
  refine (CallRet.calls fn5 hc hrun).mono fun e W' ⟨v, he, hv, hk⟩ => ?_
  subst he; subst hv
  have hlt : ∀ x ∈ p0 ++ p1 ++ p2, x.block < W.heap.size := fun x hx => by
    have := hW'.lt x (by simpa using hx)
    exact this
  have hB := hk.below
  refine ⟨_, rfl, _, _, _, [], p0 ++ (p1 ++ p2), [], hW', trodAll_mk1 (shut_bool underlying4 true), ?_, rfl, hB.frame _, fun h => by cases h⟩
  exact trodAll_mk3 (Below.trod laidOut (by kernel_rfl) (of_decide_eq_true (by kernel_rfl)) h0 hB fun x hx => hlt x (by simp [hx]))
    (Below.trod laidOut (by kernel_rfl) (of_decide_eq_true (by kernel_rfl)) h1 hB fun x hx => hlt x (by simp [hx]))
    (Below.trod laidOut (by kernel_rfl) (of_decide_eq_true (by kernel_rfl)) h2 hB fun x hx => hlt x (by simp [hx]))

theorem f5_named : checked.prog.funcNamed Rows.playOrdersRow.func = some 5 := by kernel_rfl
theorem f5_facts : joinedFacts checked.prog 5 f5 Rows.playOrdersSpec Rows.playOrdersRow = true := by kernel_rfl
theorem f5_inst : f5.isInstance checked.prog Rows.playOrdersRow.origin Rows.playOrdersRow.targs := of_decide_eq_true (by kernel_rfl)
theorem f5_wrap : f5.isWrapper checked.prog Rows.playOrdersRow.wrapper Rows.playOrdersRow.mainSum := by
  unfold Func.isWrapper; first | (rw [if_pos (by decide +kernel)]; kernel_rfl) | (rw [if_neg (by decide +kernel)]; exact ⟨rfl, rfl⟩)

theorem orders_holds : Rows.PlayOrdersSaid :=
  OpenClaim.holds_of_wide 5 f5 rfl rfl rfl rfl rfl rfl rfl ⟨rfl, rfl, rfl, rfl, rfl⟩ rfl rfl rfl rfl rfl f5_named func5 f5_facts f5_inst f5_wrap
    (fun os started H enc _ => orders_lifted os started H enc)
end Go.Proofs.Tryz
