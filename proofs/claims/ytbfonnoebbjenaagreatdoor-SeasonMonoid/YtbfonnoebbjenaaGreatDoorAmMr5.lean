/- On the season seat's program: SeasonMonoid's run, held by the kernel, a part. -/
import Derived.Test.YtbfonnoebbjenaaGreatDoorAmM3
namespace Go.Proofs.Tryz
open Go Go.Am
theorem m_8_2_0 : runC 8 2 0 9 = true := by kernel_rfl
theorem m_9_1_0 : runC 9 1 0 10 = true := by kernel_rfl
theorem m_11_1_0 : runC 11 1 0 12 = true := by kernel_rfl
theorem m_11_2_3 : runC 11 2 3 10 = true := by kernel_rfl
theorem m_11_3_9 : runC 11 3 9 12 = true := by kernel_rfl
theorem m_12_3_0 : runC 12 3 0 2 = true := by kernel_rfl
end Go.Proofs.Tryz
