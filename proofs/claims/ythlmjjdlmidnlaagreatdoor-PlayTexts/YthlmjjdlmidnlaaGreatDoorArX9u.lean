/- On the seat of the open Play statements: the row of PlayTexts, proved. -/
import Derived.Test.YthlmjjdlmidnlaaGreatDoorAtHu
import Derived.Test.YthlmjjdlmidnlaaGreatDoorAuDu
namespace Go.Proofs.Tryz
open Go Go.Am Go.ChangeShapes Go.WideShapes Go.ChangeAt Go.RowKit
open YthlmjjdlmidnlaaGreatDoor
set_option maxRecDepth 100000

theorem texts_lifted (os : Os) (started : os.Started) (H : Type) (enc : TypeId × Value → H) :
    ReturnsInHanded {} checked os 11 .any (fun w args => (Rows.playTextsSpec.pre enc prog f11 [] false w args ∧ laidMetH prog Rows.playTextsRow.laid w) ∧ sizedMet enc prog f11 (OpenSpec.ofChange Rows.playTextsSpec) false w args)
      (Rows.playTextsSpec.post enc prog f11 false true false false) := by
  refine handed_shaped (C := checked) (X := fun w _ => laidMetH prog Rows.playTextsRow.laid w) (fun _ _ _ hh h => h.of_heap hh) own started (by kernel_rfl) func11
    (ChangeSpec.witness_shaped (enc := enc) (C := checked) (os := os) (X := fun w _ => laidMetH prog Rows.playTextsRow.laid w) false (World.laidAll prog os Rows.playTextsRow.laid) #[.slice none 0 0, .string ⟨#[]⟩] 8 (World.laidAll_os _ _ _) (laid_shaped os) (by kernel_rfl) (by kernel_rfl) (by kernel_rfl) (laid_met os _)) ?_
  intro W args ds gs before base hval0 hW hL hsh
  have hval : ∀ (j : Nat) t v, f11.params[j]? = some t → args[j]? = some v → Value.okWide prog W .any base t v := hval0
  have hW' := hW
  obtain ⟨p, q, hA0, hV, rfl, hfz, hnd⟩ := hW
  have hA : DataW.TrodAll enc prog W 0 (fun _ => true) true f11.params.toList args.toList ds p := hA0
  rw [params11] at hA hval
  obtain ⟨v0, v1, e0, e1, p0, p1, rfl, rfl, rfl, h0, h1⟩ := trodAll_two hA
  obtain ⟨rfl, rfl⟩ := trodVars_none hV
  have hlaid := of_laid hL
  obtain ⟨pp0, k0, c0⟩ := plays_arg (hval 0 86 v0 rfl rfl) h0
  obtain ⟨s1, rfl⟩ := bytes_arg (hval 1 9 v1 rfl rfl)
  have hrun : Calls prog 11 #[v0, .string s1] W fun e w' => e = .returned (.bool true) ∧ Below W.heap.size W w' := texts_law hlaid (max_of hsh) c0
  refine hrun.mono fun e W' ⟨he, hB⟩ => ?_
  subst he
  have hlt : ∀ x ∈ p0 ++ p1, x.block < W.heap.size := fun x hx => by
    have := hW'.lt x (by simpa using hx)
    exact this
  refine ⟨_, rfl, _, _, _, [], p0 ++ p1, [], hW', trodAll_mk1 (shut_bool underlying4 true), ?_, rfl, hB.frame _, fun h => by cases h⟩
  exact trodAll_mk2 (Below.trod laidOut (by kernel_rfl) (of_decide_eq_true (by kernel_rfl)) h0 hB fun x hx => hlt x (by simp [hx]))
    (Below.trod laidOut (by kernel_rfl) (of_decide_eq_true (by kernel_rfl)) h1 hB fun x hx => hlt x (by simp [hx]))

theorem f11_named : checked.prog.funcNamed Rows.playTextsRow.func = some 11 := by kernel_rfl
theorem f11_facts : joinedFacts checked.prog 11 f11 Rows.playTextsSpec Rows.playTextsRow = true := by kernel_rfl
theorem f11_inst : f11.isInstance checked.prog Rows.playTextsRow.origin Rows.playTextsRow.targs := of_decide_eq_true (by kernel_rfl)
theorem f11_wrap : f11.isWrapper checked.prog Rows.playTextsRow.wrapper Rows.playTextsRow.mainSum := by
  unfold Func.isWrapper; first | (rw [if_pos (by decide +kernel)]; kernel_rfl) | (rw [if_neg (by decide +kernel)]; exact ⟨rfl, rfl⟩)

theorem texts_holds : Rows.PlayTextsSaid :=
  OpenClaim.holds_of_wide 11 f11 rfl rfl rfl rfl rfl rfl rfl ⟨rfl, rfl, rfl, rfl, rfl⟩ rfl rfl rfl rfl rfl f11_named func11 f11_facts f11_inst f11_wrap
    (fun os started H enc _ => texts_lifted os started H enc)
end Go.Proofs.Tryz
