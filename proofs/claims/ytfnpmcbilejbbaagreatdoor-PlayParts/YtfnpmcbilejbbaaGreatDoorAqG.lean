/- On the seat's program: greatest common divisors, by the kit's walk: whatever the numbers. -/
import Derived.Test.YtfnpmcbilejbbaaGreatDoorAqZa
import Derived.Test.YtfnpmcbilejbbaaGreatDoorAmGc
import Derived.WalkKit
import Derived.BigRegion
namespace Go.Proofs.Tryz
open Go Go.Am Go.RowKit Go.Gc
set_option maxRecDepth 100000

def intOf' : Value → Int
  | .int _ n => n
  | _ => 0

theorem gcd_c (B : Nat) (a0 b0 : Int) (w : World) :
    Calls prog 36 #[.int .i64 a0, .int .i64 b0] w fun e w' => e = .returned (.int .i64 (euc a0 b0)) ∧ Below B w w' := by
  go_enter func36, ntmps36
  go_wp2
  go_loopw [0, 1] (fun va vb wr => ∃ a b : Int, va = .int .i64 a ∧ vb = .int .i64 b ∧ euc a b = euc a0 b0 ∧ Below B w wr) (fun _ vb _ => (intOf' vb).natAbs)
  case atStart => exact ⟨a0, b0, rfl, rfl, rfl, Below.refl _ _⟩
  case round =>
    obtain ⟨a, b, rfl, rfl, hg, hal⟩ := hrel
    go_wp2
    · have hb0 : ¬ b = 0 := by simpa using ‹(b != 0) = true›
      go_region
      all_goals (try go_wp2)
      all_goals (
        go_roundw
        case rel =>
          refine ⟨b, a.tmod b, rfl, rfl, ?_, hal.drew⟩
          rw [← hg, euc_step a b hb0]
        case measure => simpa [intOf'] using tmod_lt a b hb0)
    · have hb0 : b = 0 := by simpa using ‹(b != 0) = false›
      subst hb0
      go_ret
      refine ⟨?_, hal⟩
      rw [← hg, euc_zero]
      rfl

theorem div_c (B : Nat) (a0 b0 : Int) (w : World) :
    Calls prog 33 #[.int .i64 a0, .int .i64 b0] w fun e w' => e = .returned (.int .i64 (divI a0 b0)) ∧ Below B w w' := by
  go_enter func33, ntmps33
  go_wp2
  go_loopw [0, 1] (fun va vb wr => ∃ a b : Int, va = .int .i64 a ∧ vb = .int .i64 b ∧ euc a b = euc a0 b0 ∧ Below B w wr) (fun _ vb _ => (intOf' vb).natAbs)
  case atStart => exact ⟨a0, b0, rfl, rfl, rfl, Below.refl _ _⟩
  case round =>
    obtain ⟨a, b, rfl, rfl, hg, hal⟩ := hrel
    go_wp2
    · have hb0 : ¬ b = 0 := by simpa using ‹(b != 0) = true›
      go_region
      all_goals (try go_wp2)
      all_goals (
        go_roundw
        case rel =>
          refine ⟨b, a.tmod b, rfl, rfl, ?_, hal.drew⟩
          rw [← hg, euc_step a b hb0]
        case measure => simpa [intOf'] using tmod_lt a b hb0)
    all_goals (
      have hb0 : b = 0 := by simpa using ‹(b != 0) = false›
      subst hb0
      go_ret
      refine ⟨?_, hal⟩
      rw [divI, ← hg, euc_zero]
      have hw : wrap64 (-a) = IntKind.wrap .i64 (-a) := by unfold wrap64; exact (IntKind.wrap_i64 (-a)).symm)
    · have e : max a (IntKind.wrap .i64 (-a)) = IntKind.wrap .i64 (-a) := by rw [← hw]; omega
      rw [e, ← hw]; rfl
    · have e : max a (IntKind.wrap .i64 (-a)) = a := by rw [← hw]; omega
      rw [e]; rfl
end Go.Proofs.Tryz
