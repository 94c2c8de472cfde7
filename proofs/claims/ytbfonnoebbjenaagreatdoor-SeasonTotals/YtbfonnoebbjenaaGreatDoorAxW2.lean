/- On the season seat: the row of SeasonTotals, proved. -/
import Derived.Test.YtbfonnoebbjenaaGreatDoorAxX
import Derived.Test.YtbfonnoebbjenaaGreatDoorAxZ2
import Derived.Test.YtbfonnoebbjenaaGreatDoorAxTn
namespace Go.Proofs.Tryz
open Go Go.Am Go.ChangeShapes Go.WideShapes Go.ChangeAt Go.RowKit
open YtbfonnoebbjenaaGreatDoor
set_option maxRecDepth 100000

/-- A heap that meets the row's condition. -/
theorem door_met3 (os : Os) (args : Array Value) : laidMetH prog Rows.seasonTotalsRow.laid ((World.doorLaid prog 4000 os).forCall (fun _ _ => 0) ⟨#[], args, []⟩).memory :=
  laidMetH_of_parts3 (fuel := 8) (laidMet_of_run' 8 (by kernel_rfl) (by kernel_rfl)) (by kernel_rfl) (by kernel_rfl)

theorem totals_lifted (os : Os) (started : os.Started) (H : Type) (enc : TypeId × Value → H) :
    ReturnsInHanded {} checked os 3 .any (fun w args => (Rows.seasonTotalsSpec.pre enc prog f3 [] false w args ∧ laidMetH prog Rows.seasonTotalsRow.laid w) ∧ sizedMet enc prog f3 (OpenSpec.ofChange Rows.seasonTotalsSpec) false w args)
      (Rows.seasonTotalsSpec.post enc prog f3 false true false false) := by
  refine returnsInHanded_of_change_and (C := checked) (X := fun w _ => laidMetH prog Rows.seasonTotalsRow.laid w) (fun _ _ _ hh h => h.of_heap hh) own started (by kernel_rfl) func3
    (ChangeSpec.witness_shaped (enc := enc) (C := checked) (os := os) (X := fun w _ => laidMetH prog Rows.seasonTotalsRow.laid w) false (World.doorLaid prog 4000 os) #[.slice none 0 0, .slice none 0 0] 8 rfl (World.shaped_of_RefB (by kernel_rfl) (by kernel_rfl)) (by kernel_rfl) (by kernel_rfl) (by kernel_rfl) (door_met3 os _)) ?_
  intro W base args ds gs before hval0 hW _ _ hL _
  have hval : ∀ (j : Nat) t v, f3.params[j]? = some t → args[j]? = some v → Value.okWide prog W .any base t v := hval0
  have hW' := hW
  obtain ⟨p, q, hA0, hV, rfl, hfz, hnd⟩ := hW
  have hA : DataW.TrodAll enc prog W 0 (fun _ => true) true f3.params.toList args.toList ds p := hA0
  rw [params3] at hA hval
  obtain ⟨v0, v1, e0, e1, p0, p1, rfl, rfl, rfl, h0, h1⟩ := trodAll_two hA
  obtain ⟨rfl, rfl⟩ := trodVars_none hV
  have hlaid := of_laid hL
  obtain ⟨n0, g0, c0⟩ := games_arg (hval 0 22 v0 rfl rfl) h0
  obtain ⟨n1, g1, c1⟩ := games_arg (hval 1 22 v1 rfl rfl) h1
  have hrun : Calls prog 3 #[v0, v1] W fun e w' => e = .returned (.bool true) ∧ Below W.heap.size W w' := totals_law sortsT hlaid c0 c1
  refine hrun.mono fun e W' ⟨he, hB⟩ => ?_
  subst he
  have hlt : ∀ x ∈ p0 ++ p1, x.block < W.heap.size := fun x hx => by
    have := hW'.lt x (by simpa using hx)
    exact this
  refine ⟨_, rfl, _, _, _, [], p0 ++ p1, [], hW', trodAll_mk1 (shut_bool underlying4 true), ?_, rfl, hB.frame _, fun h => by cases h⟩
  exact trodAll_mk2 (Below.trod laidOut (by kernel_rfl) (of_decide_eq_true (by kernel_rfl)) h0 hB fun x hx => hlt x (by simp [hx]))
    (Below.trod laidOut (by kernel_rfl) (of_decide_eq_true (by kernel_rfl)) h1 hB fun x hx => hlt x (by simp [hx]))

theorem totals_holds : Rows.SeasonTotalsSaid :=
  OpenClaim.holds_of_wide 3 f3 rfl rfl rfl rfl rfl rfl rfl ⟨rfl, rfl, rfl, rfl, rfl⟩ rfl rfl rfl rfl rfl f3_named func3 f3_facts f3_inst f3_wrap
    (fun os started H enc _ => totals_lifted os started H enc)
end Go.Proofs.Tryz
