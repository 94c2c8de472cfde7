/- Lists of games checked, on both sides: by the kit's walk. Totals and differences by the reference; what valid games hold: by the kit's walk. -/
import Derived.Test.YtbfonnoebbjenaaGreatDoorAxPb
import Derived.Test.YtbfonnoebbjenaaGreatDoorAxK
import Derived.Test.YtbfonnoebbjenaaGreatDoorAxR
import Derived.Test.YtbfonnoebbjenaaGreatDoorAxH
import Derived.Test.YtbfonnoebbjenaaGreatDoorAxSh
namespace Go.Proofs.Tryz
open Go Go.Am Go.RowKit Go.Op
set_option maxRecDepth 100000

/-! ### the season's -/
end Go.Proofs.Tryz

namespace Go.Proofs.Tryz
open Go Go.Am Go.RowKit Go.Op
set_option maxRecDepth 100000

/-! ### plain -/
theorem bookK_ok {g : Nat → GmD} : ∀ {k i : Nat}, bookK g i k = 0 → ∀ j, i ≤ j → j < i + k → gmE (g j) = 0
  | 0, i, _, j, h1, h2 => by omega
  | k + 1, i, h, j, h1, h2 => by
    rw [bookK] at h
    by_cases hq : gmE (g i) = 0
    · rw [if_pos hq] at h
      split at h
      · cases h
      · split at h
        · cases h
        · rcases Nat.lt_or_eq_of_le h1 with q | rfl
          · exact bookK_ok h j q (by omega)
          · exact hq
    · rw [if_neg hq] at h; exact absurd h hq
theorem bookE_ok {g : Nat → GmD} {n : Nat} (h : bookE g n = 0) : n ≤ 64 ∧ ∀ j, j < n → gmE (g j) = 0 := by
  unfold bookE at h
  split at h
  · cases h
  · exact ⟨by omega, fun j hj => bookK_ok h j (Nat.zero_le _) (by omega)⟩
/-! ### the reference's -/
end Go.Proofs.Tryz
