/- On the seat of the open Play statements: the row of PlayNames, proved. -/
import Derived.Test.YthlmjjdlmidnlaaGreatDoorArO
import Derived.Test.YthlmjjdlmidnlaaGreatDoorArQ5
namespace Go.Proofs.Tryz
open Go Go.Am Go.ChangeShapes Go.WideShapes Go.ChangeAt Go.RowKit
open YthlmjjdlmidnlaaGreatDoor
set_option maxRecDepth 100000

theorem fn6 : cx.fn 6 = some f6 := by kernel_rfl
theorem hasBody6 : f6.body.isSome = true := by kernel_rfl
theorem int_arg {W : World} {r : Reach} {b0 : Nat} {v : Value} (h : Value.okWide prog W r b0 3 v) : ∃ n, v = vi n := by
  simp only [Value.okWide, Cell.okWide, u3] at h
  cases v <;> simp_all [Cell.ok, vi]

theorem names_lifted (os : Os) (started : os.Started) (H : Type) (enc : TypeId × Value → H) :
    ReturnsInHanded {} checked os 6 .any (fun w args => (Rows.playNamesSpec.pre enc prog f6 [] false w args ∧ laidMetH prog Rows.playNamesRow.laid w) ∧ sizedMet enc prog f6 (OpenSpec.ofChange Rows.playNamesSpec) false w args)
      (Rows.playNamesSpec.post enc prog f6 false true false false) := by
  refine returnsInHanded_of_change_and (C := checked) (X := fun w _ => laidMetH prog Rows.playNamesRow.laid w) (fun _ _ _ hh h => h.of_heap hh) own started (by kernel_rfl) func6
    (ChangeSpec.witness_shaped (enc := enc) (C := checked) (os := os) (X := fun w _ => laidMetH prog Rows.playNamesRow.laid w) false (World.laidAll prog os Rows.playNamesRow.laid) #[.string ⟨#[]⟩, .int .i64 0, .int .i64 0] 8 (World.laidAll_os _ _ _) (laid_shaped os) (by kernel_rfl) (by kernel_rfl) (by kernel_rfl) (laid_met os _)) ?_
  intro W base args ds gs before hval0 hW _ _ hL _
  have hval : ∀ (j : Nat) t v, f6.params[j]? = some t → args[j]? = some v → Value.okWide prog W .any base t v := hval0
  have hW' := hW
  obtain ⟨p, q, hA0, hV, rfl, hfz, hnd⟩ := hW
  have hA : DataW.TrodAll enc prog W 0 (fun _ => true) true f6.params.toList args.toList ds p := hA0
  rw [params6] at hA hval
  obtain ⟨v0, v1, v2, e0, e1, e2, p0, p1, p2, rfl, rfl, rfl, h0, h1, h2⟩ := trodAll_three hA
  obtain ⟨rfl, rfl⟩ := trodVars_none hV
  have hlaid := of_laid hL
  obtain ⟨y, len, k4⟩ := str_arg (hval 0 9 v0 rfl rfl)
  obtain ⟨key, rfl⟩ := int_arg (hval 1 3 v1 rfl rfl)
  obtain ⟨n, rfl⟩ := int_arg (hval 2 3 v2 rfl rfl)
  have hrun : CallRet prog 6 #[v0, vi key, vi n] W fun v' w' => v' = .bool true ∧ Kept W w' := names_law hlaid k4
  obtain ⟨cc, hc⟩ := Option.isSome_iff_exists.1 hasBody6
  refine (CallRet.calls fn6 hc hrun).mono fun e W' ⟨v, he, hv, hk⟩ => ?_
  subst he; subst hv
  have hlt : ∀ x ∈ p0 ++ p1 ++ p2, x.block < W.heap.size := fun x hx => by
    have := hW'.lt x (by simpa using hx)
    exact this
  have hB := hk.below
  refine ⟨_, rfl, _, _, _, [], p0 ++ (p1 ++ p2), [], hW', trodAll_mk1 (shut_bool underlying4 true), ?_, rfl, hB.frame _, fun h => by cases h⟩
  exact trodAll_mk3 (Below.trod laidOut (by kernel_rfl) (of_decide_eq_true (by kernel_rfl)) h0 hB fun x hx => hlt x (by simp [hx]))
    (Below.trod laidOut (by kernel_rfl) (of_decide_eq_true (by kernel_rfl)) h1 hB fun x hx => hlt x (by simp [hx]))
    (Below.trod laidOut (by kernel_rfl) (of_decide_eq_true (by kernel_rfl)) h2 hB fun x hx => hlt x (by simp [hx]))

theorem f6_named : checked.prog.funcNamed Rows.playNamesRow.func = some 6 := by kernel_rfl
theorem f6_facts : joinedFacts checked.prog 6 f6 Rows.playNamesSpec Rows.playNamesRow = true := by kernel_rfl
theorem f6_inst : f6.isInstance checked.prog Rows.playNamesRow.origin Rows.playNamesRow.targs := of_decide_eq_true (by kernel_rfl)
theorem f6_wrap : f6.isWrapper checked.prog Rows.playNamesRow.wrapper Rows.playNamesRow.mainSum := by
  unfold Func.isWrapper; first | (rw [if_pos (by decide +kernel)]; kernel_rfl) | (rw [if_neg (by decide +kernel)]; exact ⟨rfl, rfl⟩)

theorem names_holds : Rows.PlayNamesSaid :=
  OpenClaim.holds_of_wide 6 f6 rfl rfl rfl rfl rfl rfl rfl ⟨rfl, rfl, rfl, rfl, rfl⟩ rfl rfl rfl rfl rfl f6_named func6 f6_facts f6_inst f6_wrap
    (fun os started H enc _ => names_lifted os started H enc)
end Go.Proofs.Tryz
