/- On the seat of the open Play statements: the row of PlayForms, proved. -/
import Derived.Test.YthlmjjdlmidnlaaGreatDoorArO
import Derived.Test.YthlmjjdlmidnlaaGreatDoorArLc
namespace Go.Proofs.Tryz
open Go Go.Am Go.ChangeShapes Go.WideShapes Go.ChangeAt Go.RowKit
open YthlmjjdlmidnlaaGreatDoor
set_option maxRecDepth 100000

theorem fn3 : cx.fn 3 = some f3 := by kernel_rfl
theorem hasBody3 : f3.body.isSome = true := by kernel_rfl

section
variable {H : Type} {enc : TypeId × Value → H} {w : World} {base : Nat} {spare : Nat → Bool} {held : Bool} {d : DataW H} {ps : List MemPlace}
theorem play_arg {r : Reach} {b0 : Nat} {v : Value} (hval : Value.okWide prog w r b0 24 v) (h : DataW.Trod enc prog w base spare held 24 v d ps) :
    ∃ (y0 y1 : Int → Int) (yn en lx : Int) (d : Nat → MvD) (n : Nat) (pvv ev mv : Value), v = .agg #[pvv, ev, .bool (decide (lx ≠ 0)), mv] ∧ IsStr pvv y0 0 yn ∧ IsStr ev y1 0 en ∧ IsMoves w mv d n := by
  obtain ⟨⟨cs⟩, rfl⟩ := agg_of u24 hval
  obtain ⟨fuel, hf⟩ := h
  obtain ⟨y0, y1, yn, en, lx, d, n, pvv, ev, mv, e, h1, h2, h3⟩ := play_open (show DataW.trod enc prog w base spare held fuel 24 cs = some _ from hf)
  subst e
  exact ⟨y0, y1, yn, en, lx, d, n, pvv, ev, mv, rfl, h1, h2, h3⟩
theorem move_arg {r : Reach} {b0 : Nat} {v : Value} (hval : Value.okWide prog w r b0 27 v) (h : DataW.Trod enc prog w base spare held 27 v d ps) :
    ∃ (m : MvD) (sv bv : Value), v = .agg #[vi m.fr, vi m.to, .bool (decide (m.x ≠ 0)), sv, bv] ∧ IsStr sv m.y m.so m.sn ∧ IsInts w bv m.t m.bo m.bn := by
  obtain ⟨⟨cs⟩, rfl⟩ := agg_of u27 hval
  obtain ⟨fuel, hf⟩ := h
  obtain ⟨m, sv, bv, e, h1, h2⟩ := move_open (show DataW.trod enc prog w base spare held fuel 27 cs = some _ from hf)
  subst e
  exact ⟨m, sv, bv, rfl, h1, h2⟩
end

theorem forms_lifted (os : Os) (started : os.Started) (H : Type) (enc : TypeId × Value → H) :
    ReturnsInHanded {} checked os 3 .any (fun w args => (Rows.playFormsSpec.pre enc prog f3 [] false w args ∧ laidMetH prog Rows.playFormsRow.laid w) ∧ sizedMet enc prog f3 (OpenSpec.ofChange Rows.playFormsSpec) false w args)
      (Rows.playFormsSpec.post enc prog f3 false true false false) := by
  refine returnsInHanded_of_change_and (C := checked) (X := fun w _ => laidMetH prog Rows.playFormsRow.laid w) (fun _ _ _ hh h => h.of_heap hh) own started (by kernel_rfl) func3
    (ChangeSpec.witness_shaped (enc := enc) (C := checked) (os := os) (X := fun w _ => laidMetH prog Rows.playFormsRow.laid w) false (World.laidAll prog os Rows.playFormsRow.laid) #[.agg #[.string ⟨#[]⟩, .string ⟨#[]⟩, .bool false, .slice none 0 0], .agg #[.int .i64 0, .int .i64 0, .bool false, .string ⟨#[]⟩, .slice none 0 0]] 8 (World.laidAll_os _ _ _) (laid_shaped os) (by kernel_rfl) (by kernel_rfl) (by kernel_rfl) (laid_met os _)) ?_
  intro W base args ds gs before hval0 hW _ _ hL _
  have hval : ∀ (j : Nat) t v, f3.params[j]? = some t → args[j]? = some v → Value.okWide prog W .any base t v := hval0
  have hW' := hW
  obtain ⟨p, q, hA0, hV, rfl, hfz, hnd⟩ := hW
  have hA : DataW.TrodAll enc prog W 0 (fun _ => true) true f3.params.toList args.toList ds p := hA0
  rw [params3] at hA hval
  obtain ⟨v0, v1, e0, e1, p0, p1, rfl, rfl, rfl, h0, h1⟩ := trodAll_two hA
  obtain ⟨rfl, rfl⟩ := trodVars_none hV
  have hlaid := of_laid hL
  obtain ⟨y0, y1, yn, en, lx, d, n, pvv, ev, mv, rfl, k1, k2, k3⟩ := play_arg (hval 0 24 v0 rfl rfl) h0
  obtain ⟨m, sv, bv, rfl, k4, k5⟩ := move_arg (hval 1 27 v1 rfl rfl) h1
  have hrun : CallRet prog 3 #[.agg #[pvv, ev, .bool (decide (lx ≠ 0)), mv], .agg #[vi m.fr, vi m.to, .bool (decide (m.x ≠ 0)), sv, bv]] W fun v' w' => v' = .bool true ∧ Kept W w' := forms_law hlaid k1 k2 k3 k4 k5
  obtain ⟨cc, hc⟩ := Option.isSome_iff_exists.1 hasBody3
  refine (CallRet.calls fn3 hc hrun).mono fun e W' ⟨v, he, hv, hk⟩ => ?_
  subst he; subst hv
  have hlt : ∀ x ∈ p0 ++ p1, x.block < W.heap.size := fun x hx => by
    have := hW'.lt x (by simpa using hx)
    exact this
  have hB := hk.below
  refine ⟨_, rfl, _, _, _, [], p0 ++ p1, [], hW', trodAll_mk1 (shut_bool underlying4 true), ?_, rfl, hB.frame _, fun h => by cases h⟩
  exact trodAll_mk2 (Below.trod laidOut (by kernel_rfl) (of_decide_eq_true (by kernel_rfl)) h0 hB fun x hx => hlt x (by simp [hx]))
    (Below.trod laidOut (by kernel_rfl) (of_decide_eq_true (by kernel_rfl)) h1 hB fun x hx => hlt x (by simp [hx]))

theorem f3_named : checked.prog.funcNamed Rows.playFormsRow.func = some 3 := by kernel_rfl
theorem f3_facts : joinedFacts checked.prog 3 f3 Rows.playFormsSpec Rows.playFormsRow = true := by kernel_rfl
theorem f3_inst : f3.isInstance checked.prog Rows.playFormsRow.origin Rows.playFormsRow.targs := of_decide_eq_true (by kernel_rfl)
theorem f3_wrap : f3.isWrapper checked.prog Rows.playFormsRow.wrapper Rows.playFormsRow.mainSum := by
  unfold Func.isWrapper; first | (rw [if_pos (by decide +kernel)]; kernel_rfl) | (rw [if_neg (by decide +kernel)]; exact ⟨rfl, rfl⟩)

theorem forms_holds : Rows.PlayFormsSaid :=
  OpenClaim.holds_of_wide 3 f3 rfl rfl rfl rfl rfl rfl rfl ⟨rfl, rfl, rfl, rfl, rfl⟩ rfl rfl rfl rfl rfl f3_named func3 f3_facts f3_inst f3_wrap
    (fun os started H enc _ => forms_lifted os started H enc)
end Go.Proofs.Tryz
