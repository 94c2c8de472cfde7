/- On the season seat's program: the row of SeasonMonoid, proved. -/
import Derived.Test.YtbfonnoebbjenaaGreatDoorAmM7
import Derived.Test.YtbfonnoebbjenaaGreatDoorAmL6
namespace Go.Proofs.Tryz
open Go Go.Am Go.ChangeShapes Go.WideShapes Go.ChangeAt Go.RowKit
open YtbfonnoebbjenaaGreatDoor
set_option maxRecDepth 100000

theorem ct99 : prog.cellTypes prog.depth 99 = some [5, 5] := by kernel_rfl
theorem c99 : prog.cellsOf 99 = 2 := by kernel_rfl
theorem u5 : prog.underlying 5 = some (.int .u8) := by kernel_rfl
theorem fn7 : cx.fn 7 = some f7 := by kernel_rfl
theorem hasBody7 : f7.body.isSome = true := by kernel_rfl

theorem okRow_byte {W : World} {r : Reach} {b0 : Nat} {v : Value} (h : Cell.okWide prog W r b0 5 v) : ∃ n, v = .int .u8 n ∧ 0 ≤ n ∧ n ≤ 255 := by
  simp only [Cell.okWide, u5] at h
  cases v <;> simp only [Cell.ok, u5] at h
  rename_i k n
  obtain ⟨rfl, h1, h2⟩ := h
  exact ⟨n, rfl, h1, h2⟩

theorem open_cut {W : World} {r : Reach} {b0 : Nat} {v : Value} (h : Value.okWide prog W r b0 99 v) : ∃ a b, v = .agg #[.int .u8 a, .int .u8 b] ∧ (0 ≤ a ∧ a ≤ 255) ∧ (0 ≤ b ∧ b ≤ 255) := by
  simp only [Value.okWide, underlying99] at h
  obtain ⟨⟨cs⟩, rfl, hs, ts, hts, _, hall⟩ := h
  rw [ct99] at hts; cases hts
  rw [c99] at hs
  match cs, hs with
  | [x0, x1], _ =>
    obtain ⟨u0, e0, k0⟩ := hall 0 x0 rfl
    obtain ⟨u1, e1, k1⟩ := hall 1 x1 rfl
    cases e0; cases e1
    obtain ⟨a, rfl, ha⟩ := okRow_byte k0
    obtain ⟨b, rfl, hb⟩ := okRow_byte k1
    exact ⟨a, b, rfl, ha, hb⟩

theorem slice_spot {W : World} {r : Reach} {b0 : Nat} {a : Addr} {n c : Nat} (h : Value.okWide prog W r b0 70 (.slice (some a) n c)) : a.spot = none := by
  simp only [Value.okWide, u70, Cell.okWide, Cell.ok] at h
  exact h.2.2.2.1

/-- A heap that meets the rows' condition. -/
theorem door_met7 (os : Os) (args : Array Value) : laidMetH prog Rows.seasonMonoidRow.laid ((World.doorLaid prog 4000 os).forCall (fun _ _ => 0) ⟨#[], args, []⟩).memory :=
  laidMetH_of_parts3 (fuel := 8) (laidMet_of_run' 8 (by kernel_rfl) (by kernel_rfl)) (by kernel_rfl) (by kernel_rfl)

theorem monoid_lifted (os : Os) (started : os.Started) (H : Type) (enc : TypeId × Value → H) :
    ReturnsInHanded {} checked os 7 .any (fun w args => (Rows.seasonMonoidSpec.pre enc prog f7 [] false w args ∧ laidMetH prog Rows.seasonMonoidRow.laid w) ∧ sizedMet enc prog f7 (OpenSpec.ofChange Rows.seasonMonoidSpec) false w args)
      (Rows.seasonMonoidSpec.post enc prog f7 false true false false) := by
  refine returnsInHanded_of_change_and (C := checked) (X := fun w _ => laidMetH prog Rows.seasonMonoidRow.laid w) (fun _ _ _ hh h => h.of_heap hh) own started (by kernel_rfl) func7
    (ChangeSpec.witness_shaped (enc := enc) (C := checked) (os := os) (X := fun w _ => laidMetH prog Rows.seasonMonoidRow.laid w) false (World.doorLaid prog 4000 os) #[.slice none 0 0, .agg #[.int .u8 0, .int .u8 0]] 8 rfl (World.shaped_of_RefB (by kernel_rfl) (by kernel_rfl)) (by kernel_rfl) (by kernel_rfl) (by kernel_rfl) (door_met7 os _)) ?_
  intro W base args ds gs before hval0 hW _ _ hL _
  have hval : ∀ (j : Nat) t v, f7.params[j]? = some t → args[j]? = some v → Value.okWide prog W .any base t v := hval0
  have hW' := hW
  obtain ⟨p, q, hA0, hV, rfl, hfz, hnd⟩ := hW
  have hA : DataW.TrodAll enc prog W 0 (fun _ => true) true f7.params.toList args.toList ds p := hA0
  rw [params7] at hA hval
  obtain ⟨v0, v1, d0, d1, p0, p1, rfl, rfl, rfl, h0, h1⟩ := trodAll_two hA
  obtain ⟨rfl, rfl⟩ := trodVars_none hV
  have hlaid := of_laid hL
  have hv0 := hval 0 70 v0 rfl rfl
  have hb := open_bools underlying70 underlying4 c4 hv0 h0
  obtain ⟨c0, c1, rfl, r0, r1⟩ := open_cut (hval 1 99 v1 rfl rfl)
  have hrun : CallRet prog 7 #[v0, .agg #[.int .u8 c0, .int .u8 c1]] W fun v' w' => v' = .bool true ∧ Kept W w' := by
    rcases hb with rfl | ⟨a, len, cap, bits, rfl, hlc, hc⟩
    · exact monoid_law hlaid (fun _ => false) none 0 0 (Nat.le_refl _) (fun _ => ⟨rfl, rfl⟩) (fun _ _ _ h => by cases h) c0 c1 r0 r1
    · have hs := slice_spot hv0
      refine monoid_law hlaid bits (some a) len cap hlc (fun h => by cases h) (fun b off spot he => ?_) c0 c1 r0 r1
      cases he
      simp only at hs
      subst hs
      exact ⟨rfl, fun j hj => by rw [← add_adr]; exact hc j hj⟩
  obtain ⟨c, hc⟩ := Option.isSome_iff_exists.1 hasBody7
  refine (CallRet.calls fn7 hc hrun).mono fun e W' ⟨v, he, hv, hk⟩ => ?_
  subst he; subst hv
  have hlt : ∀ x ∈ p0 ++ p1, x.block < W.heap.size := fun x hx => hW'.lt x (by simpa using hx)
  have hB := hk.below
  refine ⟨_, rfl, _, _, _, [], p0 ++ p1, [], hW', trodAll_mk1 (shut_bool underlying4 true), ?_, rfl, hB.frame _, fun h => by cases h⟩
  exact trodAll_mk2 (Below.trod laidOut (by kernel_rfl) (of_decide_eq_true (by kernel_rfl)) h0 hB fun x hx => hlt x (by simp [hx]))
    (Below.trod laidOut (by kernel_rfl) (of_decide_eq_true (by kernel_rfl)) h1 hB fun x hx => hlt x (by simp [hx]))

theorem f7_named : checked.prog.funcNamed Rows.seasonMonoidRow.func = some 7 := by kernel_rfl
theorem f7_facts : joinedFacts checked.prog 7 f7 Rows.seasonMonoidSpec Rows.seasonMonoidRow = true := by kernel_rfl
theorem f7_inst : f7.isInstance checked.prog Rows.seasonMonoidRow.origin Rows.seasonMonoidRow.targs := of_decide_eq_true (by kernel_rfl)
theorem f7_wrap : f7.isWrapper checked.prog Rows.seasonMonoidRow.wrapper Rows.seasonMonoidRow.mainSum := by
  unfold Func.isWrapper; first | (rw [if_pos (by decide +kernel)]; kernel_rfl) | (rw [if_neg (by decide +kernel)]; exact ⟨rfl, rfl⟩)

theorem monoid_holds : Rows.SeasonMonoidSaid :=
  OpenClaim.holds_of_wide 7 f7 rfl rfl rfl rfl rfl rfl rfl ⟨rfl, rfl, rfl, rfl, rfl⟩ rfl rfl rfl rfl rfl f7_named func7 f7_facts f7_inst f7_wrap
    (fun os started H enc _ => monoid_lifted os started H enc)
end Go.Proofs.Tryz
