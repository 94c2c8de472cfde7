/- On the season seat: the row of SeasonZeros, proved. -/
import Derived.Test.YtbfonnoebbjenaaGreatDoorAxL
import Derived.Test.YtbfonnoebbjenaaGreatDoorAxZ6
import Derived.Test.YtbfonnoebbjenaaGreatDoorAxSl
namespace Go.Proofs.Tryz
open Go Go.Am Go.ChangeShapes Go.WideShapes Go.ChangeAt Go.RowKit
open YtbfonnoebbjenaaGreatDoor
set_option maxRecDepth 100000

/-- A heap that meets the row's condition. -/
theorem door_met8 (os : Os) (args : Array Value) : laidMetH prog Rows.seasonZerosRow.laid ((World.doorLaid prog 4000 os).forCall (fun _ _ => 0) ⟨#[], args, []⟩).memory :=
  laidMetH_of_parts3 (fuel := 8) (laidMet_of_run' 8 (by kernel_rfl) (by kernel_rfl)) (by kernel_rfl) (by kernel_rfl)

theorem zeros_lifted (os : Os) (started : os.Started) (H : Type) (enc : TypeId × Value → H) :
    ReturnsInHanded {} checked os 8 .any (fun w args => (Rows.seasonZerosSpec.pre enc prog f8 [] false w args ∧ laidMetH prog Rows.seasonZerosRow.laid w) ∧ sizedMet enc prog f8 (OpenSpec.ofChange Rows.seasonZerosSpec) false w args)
      (Rows.seasonZerosSpec.post enc prog f8 false true false false) := by
  refine returnsInHanded_of_change_and (C := checked) (X := fun w _ => laidMetH prog Rows.seasonZerosRow.laid w) (fun _ _ _ hh h => h.of_heap hh) own started (by kernel_rfl) func8
    (ChangeSpec.witness_shaped (enc := enc) (C := checked) (os := os) (X := fun w _ => laidMetH prog Rows.seasonZerosRow.laid w) false (World.doorLaid prog 4000 os) #[.slice none 0 0] 8 rfl (World.shaped_of_RefB (by kernel_rfl) (by kernel_rfl)) (by kernel_rfl) (by kernel_rfl) (by kernel_rfl) (door_met8 os _)) ?_
  intro W base args ds gs before hval0 hW _ _ hL _
  have hval : ∀ (j : Nat) t v, f8.params[j]? = some t → args[j]? = some v → Value.okWide prog W .any base t v := hval0
  have hW' := hW
  obtain ⟨p, q, hA0, hV, rfl, hfz, hnd⟩ := hW
  have hA : DataW.TrodAll enc prog W 0 (fun _ => true) true f8.params.toList args.toList ds p := hA0
  rw [params8] at hA hval
  obtain ⟨v0, e0, rfl, rfl, h0⟩ := trodAll_one hA
  obtain ⟨rfl, rfl⟩ := trodVars_none hV
  have hlaid := of_laid hL
  obtain ⟨n0, g0, c0⟩ := games_arg (hval 0 22 v0 rfl rfl) h0
  have hrun : Calls prog 8 #[v0] W fun e w' => e = .returned (.bool true) ∧ Below W.heap.size W w' := zeros_law hlaid c0
  refine hrun.mono fun e W' ⟨he, hB⟩ => ?_
  subst he
  have hlt : ∀ x ∈ p, x.block < W.heap.size := fun x hx => by
    have := hW'.lt x (by simpa using hx)
    exact this
  refine ⟨_, rfl, _, _, _, [], p, [], hW', trodAll_mk1 (shut_bool underlying4 true), ?_, rfl, hB.frame _, fun h => by cases h⟩
  exact trodAll_mk1 (Below.trod laidOut (by kernel_rfl) (of_decide_eq_true (by kernel_rfl)) h0 hB fun x hx => hlt x hx)

theorem zeros_holds : Rows.SeasonZerosSaid :=
  OpenClaim.holds_of_wide 8 f8 rfl rfl rfl rfl rfl rfl rfl ⟨rfl, rfl, rfl, rfl, rfl⟩ rfl rfl rfl rfl rfl f8_named func8 f8_facts f8_inst f8_wrap
    (fun os started H enc _ => zeros_lifted os started H enc)
end Go.Proofs.Tryz
