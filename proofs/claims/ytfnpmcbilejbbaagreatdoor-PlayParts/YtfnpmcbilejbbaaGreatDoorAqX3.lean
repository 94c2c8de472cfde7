/- On the play seat's program: the row of PlayParts, proved. -/
import Derived.Test.YtfnpmcbilejbbaaGreatDoorAqLq
import Derived.Test.YtfnpmcbilejbbaaGreatDoorAqO
namespace Go.Proofs.Tryz
open Go Go.Am Go.ChangeShapes Go.WideShapes Go.ChangeAt Go.RowKit
open YtfnpmcbilejbbaaGreatDoor
set_option maxRecDepth 100000

theorem fn4 : cx.fn 4 = some f4 := by kernel_rfl
theorem hasBody4 : f4.body.isSome = true := by kernel_rfl

theorem ct38 : prog.cellTypes prog.depth 38 = some [3, 3] := by kernel_rfl
theorem c38 : prog.cellsOf 38 = 2 := by kernel_rfl
theorem u9 : prog.underlying 9 = some .string := by kernel_rfl
theorem u38 : prog.underlying 38 = some (.array 2 3) := by kernel_rfl

theorem open_str {W : World} {r : Reach} {b0 : Nat} {v : Value} (h : Value.okWide prog W r b0 9 v) : ∃ l : List UInt8, v = .string ⟨l.toArray⟩ := by
  simp only [Value.okWide, Cell.okWide, u9] at h
  cases v <;> simp_all [Cell.ok]
  rename_i s
  exact ⟨s.data.toList, by simp⟩
theorem open_u8 {W : World} {r : Reach} {b0 : Nat} {v : Value} (h : Value.okWide prog W r b0 5 v) : ∃ n, v = .int .u8 n ∧ 0 ≤ n ∧ n < 256 := by
  simp only [Value.okWide, Cell.okWide, u5] at h
  cases v <;> simp_all [Cell.ok]
  rename_i k n
  obtain ⟨rfl, h1, h2⟩ := h
  have e1 : (0 : Int) ≤ n := h1
  have e2 : n ≤ 255 := h2
  exact ⟨e1, by omega⟩
theorem open_two {W : World} {r : Reach} {b0 : Nat} {v : Value} (h : Value.okWide prog W r b0 38 v) : ∃ a b, v = .agg #[.int .i64 a, .int .i64 b] := by
  simp only [Value.okWide, u38] at h
  obtain ⟨⟨cs⟩, rfl, hs, ts, hts, _, hall⟩ := h
  rw [ct38] at hts; cases hts
  rw [c38] at hs
  match cs, hs with
  | [x0, x1], _ =>
    obtain ⟨v0, e0, k0⟩ := hall 0 x0 rfl
    obtain ⟨v1, e1, k1⟩ := hall 1 x1 rfl
    cases e0; cases e1
    obtain ⟨a, rfl⟩ := okRow_int k0
    obtain ⟨b, rfl⟩ := okRow_int k1
    exact ⟨a, b, rfl⟩

theorem parts_lifted (os : Os) (started : os.Started) (H : Type) (enc : TypeId × Value → H) :
    ReturnsInHanded {} checked os 4 .any (fun w args => (Rows.playPartsSpec.pre enc prog f4 [] false w args ∧ laidMetH prog Rows.playPartsRow.laid w) ∧ sizedMet enc prog f4 (OpenSpec.ofChange Rows.playPartsSpec) false w args)
      (Rows.playPartsSpec.post enc prog f4 false true false false) := by
  refine returnsInHanded_of_change_and (C := checked) (X := fun w _ => laidMetH prog Rows.playPartsRow.laid w) (fun _ _ _ hh h => h.of_heap hh) own started (by kernel_rfl) func4
    (ChangeSpec.witness_shaped (enc := enc) (C := checked) (os := os) (X := fun w _ => laidMetH prog Rows.playPartsRow.laid w) false (World.laidAll prog os Rows.playPartsRow.laid) #[.string ⟨#[]⟩, .int .u8 0, .agg #[.int .i64 0, .int .i64 0]] 8 (World.laidAll_os _ _ _) (laid_shaped os) (by kernel_rfl) (by kernel_rfl) (by kernel_rfl) (laid_met os _)) ?_
  intro W base args ds gs before hval0 hW _ _ hL _
  have hval : ∀ (j : Nat) t v, f4.params[j]? = some t → args[j]? = some v → Value.okWide prog W .any base t v := hval0
  have hW' := hW
  obtain ⟨p, q, hA0, hV, rfl, hfz, hnd⟩ := hW
  have hA : DataW.TrodAll enc prog W 0 (fun _ => true) true f4.params.toList args.toList ds p := hA0
  rw [params4] at hA hval
  obtain ⟨v0, v1, v2, e0, e1, e2, p0, p1, p2, rfl, rfl, rfl, h0, h1, h2⟩ := trodAll_three hA
  obtain ⟨rfl, rfl⟩ := trodVars_none hV
  have hlaid := of_laid hL
  obtain ⟨l, rfl⟩ := open_str (hval 0 9 v0 rfl rfl)
  obtain ⟨c, rfl, hc0⟩ := open_u8 (hval 1 5 v1 rfl rfl)
  obtain ⟨a2, b2, rfl⟩ := open_two (hval 2 38 v2 rfl rfl)
  have hrun : CallRet prog 4 #[.string ⟨l.toArray⟩, .int .u8 c, .agg #[.int .i64 a2, .int .i64 b2]] W fun v' w' => v' = .bool true ∧ Kept W w' := parts_law l c a2 b2 hc0 W hlaid
  obtain ⟨cc, hc⟩ := Option.isSome_iff_exists.1 hasBody4
  refine (CallRet.calls fn4 hc hrun).mono fun e W' ⟨v, he, hv, hk⟩ => ?_
  subst he; subst hv
  have hlt : ∀ x ∈ p0 ++ p1 ++ p2, x.block < W.heap.size := fun x hx => by
    have := hW'.lt x (by simpa using hx)
    exact this
  have hB := hk.below
  refine ⟨_, rfl, _, _, _, [], p0 ++ (p1 ++ p2), [], hW', trodAll_mk1 (shut_bool underlying4 true), ?_, rfl, hB.frame _, fun h => by cases h⟩
  exact trodAll_mk3 (Below.trod laidOut (by kernel_rfl) (of_decide_eq_true (by kernel_rfl)) h0 hB fun x hx => hlt x (by simp [hx]))
    (Below.trod laidOut (by kernel_rfl) (of_decide_eq_true (by kernel_rfl)) h1 hB fun x hx => hlt x (by simp [hx]))
    (Below.trod laidOut (by kernel_rfl) (of_decide_eq_true (by kernel_rfl)) h2 hB fun x hx => hlt x (by simp [hx]))

theorem f4_named : checked.prog.funcNamed Rows.playPartsRow.func = some 4 := by kernel_rfl
theorem f4_facts : joinedFacts checked.prog 4 f4 Rows.playPartsSpec Rows.playPartsRow = true := by kernel_rfl
theorem f4_inst : f4.isInstance checked.prog Rows.playPartsRow.origin Rows.playPartsRow.targs := of_decide_eq_true (by kernel_rfl)
theorem f4_wrap : f4.isWrapper checked.prog Rows.playPartsRow.wrapper Rows.playPartsRow.mainSum := by
  unfold Func.isWrapper; first | (rw [if_pos (by decide +kernel)]; kernel_rfl) | (rw [if_neg (by decide +kernel)]; exact ⟨rfl, rfl⟩)

theorem parts_holds : Rows.PlayPartsSaid :=
  OpenClaim.holds_of_wide 4 f4 rfl rfl rfl rfl rfl rfl rfl ⟨rfl, rfl, rfl, rfl, rfl⟩ rfl rfl rfl rfl rfl f4_named func4 f4_facts f4_inst f4_wrap
    (fun os started H enc _ => parts_lifted os started H enc)
end Go.Proofs.Tryz
