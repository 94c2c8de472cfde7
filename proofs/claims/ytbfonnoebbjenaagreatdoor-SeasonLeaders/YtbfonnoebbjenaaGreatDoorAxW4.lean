/- On the season seat: the row of SeasonLeaders, proved. -/
import Derived.Test.YtbfonnoebbjenaaGreatDoorAxD
import Derived.Test.YtbfonnoebbjenaaGreatDoorAxZ4
import Derived.Test.YtbfonnoebbjenaaGreatDoorAxLr
import Derived.Test.YtbfonnoebbjenaaGreatDoorAxXt
namespace Go.Proofs.Tryz
open Go Go.Am Go.ChangeShapes Go.WideShapes Go.ChangeAt Go.RowKit
open YtbfonnoebbjenaaGreatDoor
set_option maxRecDepth 100000

/-- A heap that meets the row's condition. -/
theorem door_met4 (os : Os) (args : Array Value) : laidMetH prog Rows.seasonLeadersRow.laid ((World.doorLaid prog 4000 os).forCall (fun _ _ => 0) ⟨#[], args, []⟩).memory :=
  laidMetH_of_parts3 (fuel := 8) (laidMet_of_run' 8 (by kernel_rfl) (by kernel_rfl)) (by kernel_rfl) (by kernel_rfl)

theorem leaders_lifted (os : Os) (started : os.Started) (H : Type) (enc : TypeId × Value → H) :
    ReturnsInHanded {} checked os 4 .any (fun w args => (Rows.seasonLeadersSpec.pre enc prog f4 [] false w args ∧ laidMetH prog Rows.seasonLeadersRow.laid w) ∧ sizedMet enc prog f4 (OpenSpec.ofChange Rows.seasonLeadersSpec) false w args)
      (Rows.seasonLeadersSpec.post enc prog f4 false true false false) := by
  refine returnsInHanded_of_change_and (C := checked) (X := fun w _ => laidMetH prog Rows.seasonLeadersRow.laid w) (fun _ _ _ hh h => h.of_heap hh) own started (by kernel_rfl) func4
    (ChangeSpec.witness_shaped (enc := enc) (C := checked) (os := os) (X := fun w _ => laidMetH prog Rows.seasonLeadersRow.laid w) false (World.doorLaid prog 4000 os) #[.slice none 0 0, .agg #[.string ⟨#[]⟩, .string ⟨#[]⟩, .int .i64 0, .int .i64 0]] 8 rfl (World.shaped_of_RefB (by kernel_rfl) (by kernel_rfl)) (by kernel_rfl) (by kernel_rfl) (by kernel_rfl) (door_met4 os _)) ?_
  intro W base args ds gs before hval0 hW _ _ hL _
  have hval : ∀ (j : Nat) t v, f4.params[j]? = some t → args[j]? = some v → Value.okWide prog W .any base t v := hval0
  have hW' := hW
  obtain ⟨p, q, hA0, hV, rfl, hfz, hnd⟩ := hW
  have hA : DataW.TrodAll enc prog W 0 (fun _ => true) true f4.params.toList args.toList ds p := hA0
  rw [params4] at hA hval
  obtain ⟨v0, v1, e0, e1, p0, p1, rfl, rfl, rfl, h0, h1⟩ := trodAll_two hA
  obtain ⟨rfl, rfl⟩ := trodVars_none hV
  have hlaid := of_laid hL
  obtain ⟨n0, t0, c0⟩ := totals_arg (hval 0 38 v0 rfl rfl) h0
  obtain ⟨a1, b1, l1, m1, rfl⟩ := question_arg (hval 1 45 v1 rfl rfl) h1
  have hrun : Calls prog 4 #[v0, .agg #[.string (bA a1), .string (bA b1), .int .i64 l1, .int .i64 m1]] W fun e w' => e = .returned (.bool true) ∧ Below W.heap.size W w' := leaders_law hlaid c0 a1 b1 l1 m1
  refine hrun.mono fun e W' ⟨he, hB⟩ => ?_
  subst he
  have hlt : ∀ x ∈ p0 ++ p1, x.block < W.heap.size := fun x hx => by
    have := hW'.lt x (by simpa using hx)
    exact this
  refine ⟨_, rfl, _, _, _, [], p0 ++ p1, [], hW', trodAll_mk1 (shut_bool underlying4 true), ?_, rfl, hB.frame _, fun h => by cases h⟩
  exact trodAll_mk2 (Below.trod laidOut (by kernel_rfl) (of_decide_eq_true (by kernel_rfl)) h0 hB fun x hx => hlt x (by simp [hx]))
    (Below.trod laidOut (by kernel_rfl) (of_decide_eq_true (by kernel_rfl)) h1 hB fun x hx => hlt x (by simp [hx]))

theorem leaders_holds : Rows.SeasonLeadersSaid :=
  OpenClaim.holds_of_wide 4 f4 rfl rfl rfl rfl rfl rfl rfl ⟨rfl, rfl, rfl, rfl, rfl⟩ rfl rfl rfl rfl rfl f4_named func4 f4_facts f4_inst f4_wrap
    (fun os started H enc _ => leaders_lifted os started H enc)
end Go.Proofs.Tryz
