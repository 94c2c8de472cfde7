/- On the season seat's program: the row of SeasonStreaks, proved. -/
import Derived.Test.YtbfonnoebbjenaaGreatDoorAmL7
namespace Go.Proofs.Tryz
open Go Go.Am Go.ChangeShapes Go.WideShapes Go.ChangeAt Go.RowKit
open YtbfonnoebbjenaaGreatDoor
set_option maxRecDepth 100000

theorem ct72 : prog.cellTypes prog.depth 72 = some [3, 3, 3, 3] := by kernel_rfl
theorem c72 : prog.cellsOf 72 = 4 := by kernel_rfl
theorem fn5 : cx.fn 5 = some f5 := by kernel_rfl
theorem hasBody5 : f5.body.isSome = true := by kernel_rfl

/-- A heap that meets the rows' condition. -/
theorem door_met (os : Os) (args : Array Value) : laidMetH prog Rows.seasonStreaksRow.laid ((World.doorLaid prog 4000 os).forCall (fun _ _ => 0) ⟨#[], args, []⟩).memory :=
  laidMetH_of_parts3 (fuel := 8) (laidMet_of_run' 8 (by kernel_rfl) (by kernel_rfl)) (by kernel_rfl) (by kernel_rfl)

def zeros4 : Value := .agg #[.int .i64 0, .int .i64 0, .int .i64 0, .int .i64 0]

theorem streaks_lifted (os : Os) (started : os.Started) (H : Type) (enc : TypeId × Value → H) :
    ReturnsInHanded {} checked os 5 .any (fun w args => (Rows.seasonStreaksSpec.pre enc prog f5 [] false w args ∧ laidMetH prog Rows.seasonStreaksRow.laid w) ∧ sizedMet enc prog f5 (OpenSpec.ofChange Rows.seasonStreaksSpec) false w args)
      (Rows.seasonStreaksSpec.post enc prog f5 false true false false) := by
  refine returnsInHanded_of_change_and (C := checked) (X := fun w _ => laidMetH prog Rows.seasonStreaksRow.laid w) (fun _ _ _ hh h => h.of_heap hh) own started (by kernel_rfl) func5
    (ChangeSpec.witness_shaped (enc := enc) (C := checked) (os := os) (X := fun w _ => laidMetH prog Rows.seasonStreaksRow.laid w) false (World.doorLaid prog 4000 os) #[.slice none 0 0, zeros4, zeros4] 8 rfl (World.shaped_of_RefB (by kernel_rfl) (by kernel_rfl)) (by kernel_rfl) (by kernel_rfl) (by kernel_rfl) (door_met os _)) ?_
  intro W base args ds gs before hval0 hW _ _ hL _
  have hval : ∀ (j : Nat) t v, f5.params[j]? = some t → args[j]? = some v → Value.okWide prog W .any base t v := hval0
  have hW' := hW
  obtain ⟨p, q, hA0, hV, rfl, hfz, hnd⟩ := hW
  have hA : DataW.TrodAll enc prog W 0 (fun _ => true) true f5.params.toList args.toList ds p := hA0
  rw [params5] at hA hval
  obtain ⟨v0, v1, v2, d0, d1, d2, p0, p1, p2, rfl, rfl, rfl, h0, h1, h2⟩ := trodAll_three hA
  obtain ⟨rfl, rfl⟩ := trodVars_none hV
  have hlaid := of_laid hL
  have hb := open_bools underlying70 underlying4 c4 (hval 0 70 v0 rfl rfl) h0
  obtain ⟨a0, a1, a2, a3, rfl⟩ := open_ints4 underlying72 ct72 underlying3 c72 (hval 1 72 v1 rfl rfl)
  obtain ⟨b0, b1, b2, b3, rfl⟩ := open_ints4 underlying72 ct72 underlying3 c72 (hval 2 72 v2 rfl rfl)
  have hrun : CallRet prog 5 #[v0, .agg #[.int .i64 a0, .int .i64 a1, .int .i64 a2, .int .i64 a3], .agg #[.int .i64 b0, .int .i64 b1, .int .i64 b2, .int .i64 b3]] W fun v' w' => v' = .bool true ∧ Kept W w' := by
    rcases hb with rfl | ⟨a, len, cap, bits, rfl, hlc, hc⟩
    · exact law_slice hlaid (fun _ => false) none 0 0 (Nat.le_refl _) (fun h => by omega) a0 a1 a2 a3 b0 b1 b2 b3
    · refine law_slice hlaid bits (some a) len cap hlc (fun hpos => ?_) a0 a1 a2 a3 b0 b1 b2 b3
      have hs : a.spot = none := by
        have := hc 0 hpos
        simp only [Addr.add, if_true, World.cell?] at this
        split at this
        · split at this
          · cases this
          · rename_i hn
            cases hsp : a.spot with
            | none => rfl
            | some x => rw [hsp] at hn; simp at hn
        · cases this
      obtain ⟨b, off, spot⟩ := a
      simp only at hs
      subst hs
      exact ⟨b, off, rfl, fun j hj => by rw [← add_adr]; exact hc j hj⟩
  obtain ⟨c, hc⟩ := Option.isSome_iff_exists.1 hasBody5
  refine (CallRet.calls fn5 hc hrun).mono fun e W' ⟨v, he, hv, hk⟩ => ?_
  subst he; subst hv
  have hlt : ∀ x ∈ p0 ++ p1 ++ p2, x.block < W.heap.size := fun x hx => by
    have := hW'.lt x (by simpa using hx)
    exact this
  have hB := hk.below
  refine ⟨_, rfl, _, _, _, [], p0 ++ (p1 ++ p2), [], hW', trodAll_mk1 (shut_bool underlying4 true), ?_, rfl, hB.frame _, fun h => by cases h⟩
  exact trodAll_mk3 (Below.trod laidOut (by kernel_rfl) (of_decide_eq_true (by kernel_rfl)) h0 hB fun x hx => hlt x (by simp [hx]))
    (Below.trod laidOut (by kernel_rfl) (of_decide_eq_true (by kernel_rfl)) h1 hB fun x hx => hlt x (by simp [hx]))
    (Below.trod laidOut (by kernel_rfl) (of_decide_eq_true (by kernel_rfl)) h2 hB fun x hx => hlt x (by simp [hx]))

theorem f5_named : checked.prog.funcNamed Rows.seasonStreaksRow.func = some 5 := by kernel_rfl
theorem f5_facts : joinedFacts checked.prog 5 f5 Rows.seasonStreaksSpec Rows.seasonStreaksRow = true := by kernel_rfl
theorem f5_inst : f5.isInstance checked.prog Rows.seasonStreaksRow.origin Rows.seasonStreaksRow.targs := of_decide_eq_true (by kernel_rfl)
theorem f5_wrap : f5.isWrapper checked.prog Rows.seasonStreaksRow.wrapper Rows.seasonStreaksRow.mainSum := by
  unfold Func.isWrapper; first | (rw [if_pos (by decide +kernel)]; kernel_rfl) | (rw [if_neg (by decide +kernel)]; exact ⟨rfl, rfl⟩)

theorem streaks_holds : Rows.SeasonStreaksSaid :=
  OpenClaim.holds_of_wide 5 f5 rfl rfl rfl rfl rfl rfl rfl ⟨rfl, rfl, rfl, rfl, rfl⟩ rfl rfl rfl rfl rfl f5_named func5 f5_facts f5_inst f5_wrap
    (fun os started H enc _ => streaks_lifted os started H enc)
end Go.Proofs.Tryz
