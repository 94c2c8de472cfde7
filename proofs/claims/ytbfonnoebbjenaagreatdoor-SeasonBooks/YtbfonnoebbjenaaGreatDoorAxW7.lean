/- On the season seat: the row of SeasonBooks, proved. -/
import Derived.Test.YtbfonnoebbjenaaGreatDoorAxL
import Derived.Test.YtbfonnoebbjenaaGreatDoorAxZ7
import Derived.Test.YtbfonnoebbjenaaGreatDoorAxBi
import Derived.Test.YtbfonnoebbjenaaGreatDoorAxXg
namespace Go.Proofs.Tryz
open Go Go.Am Go.ChangeShapes Go.WideShapes Go.ChangeAt Go.RowKit
open YtbfonnoebbjenaaGreatDoor
set_option maxRecDepth 100000

/-- A heap that meets the row's condition. -/
theorem door_met10 (os : Os) (args : Array Value) : laidMetH prog Rows.seasonBooksRow.laid ((World.doorLaid prog 4000 os).forCall (fun _ _ => 0) ⟨#[], args, []⟩).memory :=
  laidMetH_of_parts3 (fuel := 8) (laidMet_of_run' 8 (by kernel_rfl) (by kernel_rfl)) (by kernel_rfl) (by kernel_rfl)

theorem books_lifted (os : Os) (started : os.Started) (H : Type) (enc : TypeId × Value → H) :
    ReturnsInHanded {} checked os 10 .any (fun w args => (Rows.seasonBooksSpec.pre enc prog f10 [] false w args ∧ laidMetH prog Rows.seasonBooksRow.laid w) ∧ sizedMet enc prog f10 (OpenSpec.ofChange Rows.seasonBooksSpec) false w args)
      (Rows.seasonBooksSpec.post enc prog f10 false true false false) := by
  refine returnsInHanded_of_change_and (C := checked) (X := fun w _ => laidMetH prog Rows.seasonBooksRow.laid w) (fun _ _ _ hh h => h.of_heap hh) own started (by kernel_rfl) func10
    (ChangeSpec.witness_shaped (enc := enc) (C := checked) (os := os) (X := fun w _ => laidMetH prog Rows.seasonBooksRow.laid w) false (World.doorLaid prog 4000 os) #[.slice none 0 0, .agg #[.string ⟨#[]⟩, .int .i64 0, .int .i64 0, .string ⟨#[]⟩, .string ⟨#[]⟩, .int .i64 0, .int .i64 0, .slice none 0 0], .string ⟨#[]⟩] 8 rfl (World.shaped_of_RefB (by kernel_rfl) (by kernel_rfl)) (by kernel_rfl) (by kernel_rfl) (by kernel_rfl) (door_met10 os _)) ?_
  intro W base args ds gs before hval0 hW _ _ hL _
  have hval : ∀ (j : Nat) t v, f10.params[j]? = some t → args[j]? = some v → Value.okWide prog W .any base t v := hval0
  have hW' := hW
  obtain ⟨p, q, hA0, hV, rfl, hfz, hnd⟩ := hW
  have hA : DataW.TrodAll enc prog W 0 (fun _ => true) true f10.params.toList args.toList ds p := hA0
  rw [params10] at hA hval
  obtain ⟨v0, v1, v2, e0, e1, e2, p0, p1, p2, rfl, rfl, rfl, h0, h1, h2⟩ := trodAll_three hA
  obtain ⟨rfl, rfl⟩ := trodVars_none hV
  have hlaid := of_laid hL
  obtain ⟨n0, g0, c0⟩ := games_arg (hval 0 22 v0 rfl rfl) h0
  obtain ⟨g1, a1, k1, rfl, c1⟩ := game_arg (hval 1 105 v1 rfl rfl) h1
  obtain ⟨s2, rfl⟩ := str_arg (hval 2 9 v2 rfl rfl)
  have hrun : Calls prog 10 #[v0, g1.val (.slice a1 g1.k k1), .string (bA s2)] W fun e w' => e = .returned (.bool true) ∧ Below W.heap.size W w' := books_law hlaid c0 c1 s2
  refine hrun.mono fun e W' ⟨he, hB⟩ => ?_
  subst he
  have hlt : ∀ x ∈ p0 ++ p1 ++ p2, x.block < W.heap.size := fun x hx => by
    have := hW'.lt x (by simpa using hx)
    exact this
  refine ⟨_, rfl, _, _, _, [], p0 ++ (p1 ++ p2), [], hW', trodAll_mk1 (shut_bool underlying4 true), ?_, rfl, hB.frame _, fun h => by cases h⟩
  exact trodAll_mk3 (Below.trod laidOut (by kernel_rfl) (of_decide_eq_true (by kernel_rfl)) h0 hB fun x hx => hlt x (by simp [hx]))
    (Below.trod laidOut (by kernel_rfl) (of_decide_eq_true (by kernel_rfl)) h1 hB fun x hx => hlt x (by simp [hx]))
    (Below.trod laidOut (by kernel_rfl) (of_decide_eq_true (by kernel_rfl)) h2 hB fun x hx => hlt x (by simp [hx]))

theorem books_holds : Rows.SeasonBooksSaid :=
  OpenClaim.holds_of_wide 10 f10 rfl rfl rfl rfl rfl rfl rfl ⟨rfl, rfl, rfl, rfl, rfl⟩ rfl rfl rfl rfl rfl f10_named func10 f10_facts f10_inst f10_wrap
    (fun os started H enc _ => books_lifted os started H enc)
end Go.Proofs.Tryz
