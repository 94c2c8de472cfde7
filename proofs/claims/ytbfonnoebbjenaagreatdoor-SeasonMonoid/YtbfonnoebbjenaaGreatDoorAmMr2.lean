/- On the season seat's program: SeasonMonoid's run, held by the kernel, a part. -/
import Derived.Test.YtbfonnoebbjenaaGreatDoorAmM3
namespace Go.Proofs.Tryz
open Go Go.Am
theorem m_7_1_0 : runC 7 1 0 8 = true := by kernel_rfl
theorem m_9_2_8 : runC 9 2 8 10 = true := by kernel_rfl
theorem m_10_2_5 : runC 10 2 5 11 = true := by kernel_rfl
theorem m_11_3_2 : runC 11 3 2 3 = true := by kernel_rfl
theorem m_12_2_0 : runC 12 2 0 1 = true := by kernel_rfl
theorem m_12_3_4 : runC 12 3 4 5 = true := by kernel_rfl
end Go.Proofs.Tryz
