/- On the season seat's program: SeasonMonoid's run, held by the kernel, a part. -/
import Derived.Test.YtbfonnoebbjenaaGreatDoorAmM3
namespace Go.Proofs.Tryz
open Go Go.Am
theorem m_7_2_0 : runC 7 2 0 8 = true := by kernel_rfl
theorem m_9_3_0 : runC 9 3 0 5 = true := by kernel_rfl
theorem m_10_3_0 : runC 10 3 0 3 = true := by kernel_rfl
theorem m_11_3_3 : runC 11 3 3 5 = true := by kernel_rfl
theorem m_12_2_1 : runC 12 2 1 7 = true := by kernel_rfl
theorem m_12_3_5 : runC 12 3 5 7 = true := by kernel_rfl
end Go.Proofs.Tryz
