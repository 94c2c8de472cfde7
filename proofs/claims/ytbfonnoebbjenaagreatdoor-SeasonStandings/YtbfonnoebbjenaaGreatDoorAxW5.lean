/- On the season seat: the row of SeasonStandings, proved. -/
import Derived.Test.YtbfonnoebbjenaaGreatDoorAxG
import Derived.Test.YtbfonnoebbjenaaGreatDoorAxZ5
import Derived.Test.YtbfonnoebbjenaaGreatDoorAxSj
import Derived.Test.YtbfonnoebbjenaaGreatDoorAxXs
namespace Go.Proofs.Tryz
open Go Go.Am Go.ChangeShapes Go.WideShapes Go.ChangeAt Go.RowKit
open YtbfonnoebbjenaaGreatDoor
set_option maxRecDepth 100000

/-- A heap that meets the row's condition. -/
theorem door_met6 (os : Os) (args : Array Value) : laidMetH prog Rows.seasonStandingsRow.laid ((World.doorLaid prog 4000 os).forCall (fun _ _ => 0) ⟨#[], args, []⟩).memory :=
  laidMetH_of_parts3 (fuel := 8) (laidMet_of_run' 8 (by kernel_rfl) (by kernel_rfl)) (by kernel_rfl) (by kernel_rfl)

theorem standings_lifted (os : Os) (started : os.Started) (H : Type) (enc : TypeId × Value → H) :
    ReturnsInHanded {} checked os 6 .any (fun w args => (Rows.seasonStandingsSpec.pre enc prog f6 [] false w args ∧ laidMetH prog Rows.seasonStandingsRow.laid w) ∧ sizedMet enc prog f6 (OpenSpec.ofChange Rows.seasonStandingsSpec) false w args)
      (Rows.seasonStandingsSpec.post enc prog f6 false true false false) := by
  refine returnsInHanded_of_change_and (C := checked) (X := fun w _ => laidMetH prog Rows.seasonStandingsRow.laid w) (fun _ _ _ hh h => h.of_heap hh) own started (by kernel_rfl) func6
    (ChangeSpec.witness_shaped (enc := enc) (C := checked) (os := os) (X := fun w _ => laidMetH prog Rows.seasonStandingsRow.laid w) false (World.doorLaid prog 4000 os) #[.slice none 0 0, .agg #[.string ⟨#[]⟩, .string ⟨#[]⟩], .agg #[.string ⟨#[]⟩, .int .i64 0, .int .i64 0, .int .i64 0, .int .i64 0, .int .i64 0, .string ⟨#[]⟩, .int .i64 0, .int .i64 0, .int .i64 0, .int .i64 0, .int .i64 0]] 8 rfl (World.shaped_of_RefB (by kernel_rfl) (by kernel_rfl)) (by kernel_rfl) (by kernel_rfl) (by kernel_rfl) (door_met6 os _)) ?_
  intro W base args ds gs before hval0 hW _ _ hL _
  have hval : ∀ (j : Nat) t v, f6.params[j]? = some t → args[j]? = some v → Value.okWide prog W .any base t v := hval0
  have hW' := hW
  obtain ⟨p, q, hA0, hV, rfl, hfz, hnd⟩ := hW
  have hA : DataW.TrodAll enc prog W 0 (fun _ => true) true f6.params.toList args.toList ds p := hA0
  rw [params6] at hA hval
  obtain ⟨v0, v1, v2, e0, e1, e2, p0, p1, p2, rfl, rfl, rfl, h0, h1, h2⟩ := trodAll_three hA
  obtain ⟨rfl, rfl⟩ := trodVars_none hV
  have hlaid := of_laid hL
  obtain ⟨n0, g0, c0⟩ := games_arg (hval 0 22 v0 rfl rfl) h0
  obtain ⟨a1, b1, rfl⟩ := names_arg (hval 1 82 v1 rfl rfl) h1
  obtain ⟨a2, b2, rfl⟩ := stds_arg (hval 2 85 v2 rfl rfl) h2
  have hrun : Calls prog 6 #[v0, .agg #[.string (bA a1), .string (bA b1)], .agg (a2.cells ++ b2.cells).toArray] W fun e w' => e = .returned (.bool true) ∧ Below W.heap.size W w' := standings_law hlaid c0 a1 b1 a2 b2
  refine hrun.mono fun e W' ⟨he, hB⟩ => ?_
  subst he
  have hlt : ∀ x ∈ p0 ++ p1 ++ p2, x.block < W.heap.size := fun x hx => by
    have := hW'.lt x (by simpa using hx)
    exact this
  refine ⟨_, rfl, _, _, _, [], p0 ++ (p1 ++ p2), [], hW', trodAll_mk1 (shut_bool underlying4 true), ?_, rfl, hB.frame _, fun h => by cases h⟩
  exact trodAll_mk3 (Below.trod laidOut (by kernel_rfl) (of_decide_eq_true (by kernel_rfl)) h0 hB fun x hx => hlt x (by simp [hx]))
    (Below.trod laidOut (by kernel_rfl) (of_decide_eq_true (by kernel_rfl)) h1 hB fun x hx => hlt x (by simp [hx]))
    (Below.trod laidOut (by kernel_rfl) (of_decide_eq_true (by kernel_rfl)) h2 hB fun x hx => hlt x (by simp [hx]))

theorem standings_holds : Rows.SeasonStandingsSaid :=
  OpenClaim.holds_of_wide 6 f6 rfl rfl rfl rfl rfl rfl rfl ⟨rfl, rfl, rfl, rfl, rfl⟩ rfl rfl rfl rfl rfl f6_named func6 f6_facts f6_inst f6_wrap
    (fun os started H enc _ => standings_lifted os started H enc)
end Go.Proofs.Tryz
