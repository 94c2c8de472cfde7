/- On the season seat: the row of SeasonUpdates, proved. -/
import Derived.Test.YtbfonnoebbjenaaGreatDoorAxG
import Derived.Test.YtbfonnoebbjenaaGreatDoorAxZ3
import Derived.Test.YtbfonnoebbjenaaGreatDoorAxUd
namespace Go.Proofs.Tryz
open Go Go.Am Go.ChangeShapes Go.WideShapes Go.ChangeAt Go.RowKit
open YtbfonnoebbjenaaGreatDoor
set_option maxRecDepth 100000

/-- A heap that meets the row's condition. -/
theorem door_met11 (os : Os) (args : Array Value) : laidMetH prog Rows.seasonUpdatesRow.laid ((World.doorLaid prog 4000 os).forCall (fun _ _ => 0) ⟨#[], args, []⟩).memory :=
  laidMetH_of_parts3 (fuel := 8) (laidMet_of_run' 8 (by kernel_rfl) (by kernel_rfl)) (by kernel_rfl) (by kernel_rfl)

theorem updates_lifted (os : Os) (started : os.Started) (H : Type) (enc : TypeId × Value → H) :
    ReturnsInHanded {} checked os 11 .any (fun w args => (Rows.seasonUpdatesSpec.pre enc prog f11 [] false w args ∧ laidMetH prog Rows.seasonUpdatesRow.laid w) ∧ sizedMet enc prog f11 (OpenSpec.ofChange Rows.seasonUpdatesSpec) false w args)
      (Rows.seasonUpdatesSpec.post enc prog f11 false true false false) := by
  refine returnsInHanded_of_change_and (C := checked) (X := fun w _ => laidMetH prog Rows.seasonUpdatesRow.laid w) (fun _ _ _ hh h => h.of_heap hh) own started (by kernel_rfl) func11
    (ChangeSpec.witness_shaped (enc := enc) (C := checked) (os := os) (X := fun w _ => laidMetH prog Rows.seasonUpdatesRow.laid w) false (World.doorLaid prog 4000 os) #[.slice none 0 0, .slice none 0 0] 8 rfl (World.shaped_of_RefB (by kernel_rfl) (by kernel_rfl)) (by kernel_rfl) (by kernel_rfl) (by kernel_rfl) (door_met11 os _)) ?_
  intro W base args ds gs before hval0 hW _ _ hL _
  have hval : ∀ (j : Nat) t v, f11.params[j]? = some t → args[j]? = some v → Value.okWide prog W .any base t v := hval0
  have hW' := hW
  obtain ⟨p, q, hA0, hV, rfl, hfz, hnd⟩ := hW
  have hA : DataW.TrodAll enc prog W 0 (fun _ => true) true f11.params.toList args.toList ds p := hA0
  rw [params11] at hA hval
  obtain ⟨v0, v1, e0, e1, p0, p1, rfl, rfl, rfl, h0, h1⟩ := trodAll_two hA
  obtain ⟨rfl, rfl⟩ := trodVars_none hV
  have hlaid := of_laid hL
  obtain ⟨n0, t0, c0⟩ := totals_arg (hval 0 38 v0 rfl rfl) h0
  obtain ⟨n1, t1, c1⟩ := totals_arg (hval 1 38 v1 rfl rfl) h1
  have hrun : Calls prog 11 #[v0, v1] W fun e w' => e = .returned (.bool true) ∧ Below W.heap.size W w' := updates_law hlaid c0 c1
  refine hrun.mono fun e W' ⟨he, hB⟩ => ?_
  subst he
  have hlt : ∀ x ∈ p0 ++ p1, x.block < W.heap.size := fun x hx => by
    have := hW'.lt x (by simpa using hx)
    exact this
  refine ⟨_, rfl, _, _, _, [], p0 ++ p1, [], hW', trodAll_mk1 (shut_bool underlying4 true), ?_, rfl, hB.frame _, fun h => by cases h⟩
  exact trodAll_mk2 (Below.trod laidOut (by kernel_rfl) (of_decide_eq_true (by kernel_rfl)) h0 hB fun x hx => hlt x (by simp [hx]))
    (Below.trod laidOut (by kernel_rfl) (of_decide_eq_true (by kernel_rfl)) h1 hB fun x hx => hlt x (by simp [hx]))

theorem updates_holds : Rows.SeasonUpdatesSaid :=
  OpenClaim.holds_of_wide 11 f11 rfl rfl rfl rfl rfl rfl rfl ⟨rfl, rfl, rfl, rfl, rfl⟩ rfl rfl rfl rfl rfl f11_named func11 f11_facts f11_inst f11_wrap
    (fun os started H enc _ => updates_lifted os started H enc)
end Go.Proofs.Tryz
