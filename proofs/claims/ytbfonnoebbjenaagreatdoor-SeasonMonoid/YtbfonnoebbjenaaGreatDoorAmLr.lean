/- On the season seat's program: StreakOf, and the reference's, run round by round. -/
import Derived.Test.YtbfonnoebbjenaaGreatDoorAmL2
namespace Go.Proofs.Tryz
open Go Go.Am
theorem runP_a : (nats 10).all runP = true := by kernel_rfl
theorem runP_b : runP 10 = true := by kernel_rfl
theorem runP_c : runP 11 = true := by kernel_rfl
theorem runP_d : runP 12 = true := by kernel_rfl
theorem runR_a : (nats 10).all runR = true := by kernel_rfl
theorem runR_b : runR 10 = true := by kernel_rfl
theorem runR_c : runR 11 = true := by kernel_rfl
theorem runR_d : runR 12 = true := by kernel_rfl

end Go.Proofs.Tryz
