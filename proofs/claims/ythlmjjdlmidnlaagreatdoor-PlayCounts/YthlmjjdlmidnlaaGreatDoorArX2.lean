/- On the seat of the open Play statements: the row of PlayCounts, proved. -/
import Derived.Test.YthlmjjdlmidnlaaGreatDoorArO
import Derived.Test.YthlmjjdlmidnlaaGreatDoorArUc
namespace Go.Proofs.Tryz
open Go Go.Am Go.ChangeShapes Go.WideShapes Go.ChangeAt Go.RowKit
open YthlmjjdlmidnlaaGreatDoor
set_option maxRecDepth 100000

theorem fn7 : cx.fn 7 = some f7 := by kernel_rfl
theorem hasBody7 : f7.body.isSome = true := by kernel_rfl

theorem counts_lifted (os : Os) (started : os.Started) (H : Type) (enc : TypeId × Value → H) :
    ReturnsInHanded {} checked os 7 .any (fun w args => (Rows.playCountsSpec.pre enc prog f7 [] false w args ∧ laidMetH prog Rows.playCountsRow.laid w) ∧ sizedMet enc prog f7 (OpenSpec.ofChange Rows.playCountsSpec) false w args)
      (Rows.playCountsSpec.post enc prog f7 false true false false) := by
  refine returnsInHanded_of_change_and (C := checked) (X := fun w _ => laidMetH prog Rows.playCountsRow.laid w) (fun _ _ _ hh h => h.of_heap hh) own started (by kernel_rfl) func7
    (ChangeSpec.witness_shaped (enc := enc) (C := checked) (os := os) (X := fun w _ => laidMetH prog Rows.playCountsRow.laid w) false (World.laidAll prog os Rows.playCountsRow.laid) #[.agg #[.string ⟨#[]⟩, .string ⟨#[]⟩, .bool false, .slice none 0 0], .string ⟨#[]⟩, .agg #[.int .i64 0, .int .i64 0]] 8 (World.laidAll_os _ _ _) (laid_shaped os) (by kernel_rfl) (by kernel_rfl) (by kernel_rfl) (laid_met os _)) ?_
  intro W base args ds gs before hval0 hW _ _ hL _
  have hval : ∀ (j : Nat) t v, f7.params[j]? = some t → args[j]? = some v → Value.okWide prog W .any base t v := hval0
  have hW' := hW
  obtain ⟨p, q, hA0, hV, rfl, hfz, hnd⟩ := hW
  have hA : DataW.TrodAll enc prog W 0 (fun _ => true) true f7.params.toList args.toList ds p := hA0
  rw [params7] at hA hval
  obtain ⟨v0, v1, v2, e0, e1, e2, p0, p1, p2, rfl, rfl, rfl, h0, h1, h2⟩ := trodAll_three hA
  obtain ⟨rfl, rfl⟩ := trodVars_none hV
  have hlaid := of_laid hL
  obtain ⟨y0, y1, yn, en, lx, d, n, pvv, ev, mv, rfl, k1, k2, k3⟩ := play_arg (hval 0 24 v0 rfl rfl) h0
  obtain ⟨y2, sn, k4⟩ := str_arg (hval 1 9 v1 rfl rfl)
  obtain ⟨a2, b2, rfl⟩ := two_arg (hval 2 69 v2 rfl rfl)
  have hrun : CallRet prog 7 #[.agg #[pvv, ev, .bool (decide (lx ≠ 0)), mv], v1, .agg #[vi a2, vi b2]] W fun v' w' => v' = .bool true ∧ Kept W w' := counts_law hlaid k1 k2 k3 k4
  obtain ⟨cc, hc⟩ := Option.isSome_iff_exists.1 hasBody7
  refine (CallRet.calls fn7 hc hrun).mono fun e W' ⟨v, he, hv, hk⟩ => ?_
  subst he; subst hv
  have hlt : ∀ x ∈ p0 ++ p1 ++ p2, x.block < W.heap.size := fun x hx => by
    have := hW'.lt x (by simpa using hx)
    exact this
  have hB := hk.below
  refine ⟨_, rfl, _, _, _, [], p0 ++ (p1 ++ p2), [], hW', trodAll_mk1 (shut_bool underlying4 true), ?_, rfl, hB.frame _, fun h => by cases h⟩
  exact trodAll_mk3 (Below.trod laidOut (by kernel_rfl) (of_decide_eq_true (by kernel_rfl)) h0 hB fun x hx => hlt x (by simp [hx]))
    (Below.trod laidOut (by kernel_rfl) (of_decide_eq_true (by kernel_rfl)) h1 hB fun x hx => hlt x (by simp [hx]))
    (Below.trod laidOut (by kernel_rfl) (of_decide_eq_true (by kernel_rfl)) h2 hB fun x hx => hlt x (by simp [hx]))

theorem f7_named : checked.prog.funcNamed Rows.playCountsRow.func = some 7 := by kernel_rfl
theorem f7_facts : joinedFacts checked.prog 7 f7 Rows.playCountsSpec Rows.playCountsRow = true := by kernel_rfl
theorem f7_inst : f7.isInstance checked.prog Rows.playCountsRow.origin Rows.playCountsRow.targs := of_decide_eq_true (by kernel_rfl)
theorem f7_wrap : f7.isWrapper checked.prog Rows.playCountsRow.wrapper Rows.playCountsRow.mainSum := by
  unfold Func.isWrapper; first | (rw [if_pos (by decide +kernel)]; kernel_rfl) | (rw [if_neg (by decide +kernel)]; exact ⟨rfl, rfl⟩)

theorem counts_holds : Rows.PlayCountsSaid :=
  OpenClaim.holds_of_wide 7 f7 rfl rfl rfl rfl rfl rfl rfl ⟨rfl, rfl, rfl, rfl, rfl⟩ rfl rfl rfl rfl rfl f7_named func7 f7_facts f7_inst f7_wrap
    (fun os started H enc _ => counts_lifted os started H enc)
end Go.Proofs.Tryz
