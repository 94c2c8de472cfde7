/- On the season seat's program: SeasonMonoid's run, held by the kernel, a part. -/
import Derived.Test.YtbfonnoebbjenaaGreatDoorAmM3
namespace Go.Proofs.Tryz
open Go Go.Am
theorem m_8_1_0 : runC 8 1 0 9 = true := by kernel_rfl
theorem m_10_1_0 : runC 10 1 0 11 = true := by kernel_rfl
theorem m_10_3_6 : runC 10 3 6 11 = true := by kernel_rfl
theorem m_11_2_0 : runC 11 2 0 3 = true := by kernel_rfl
theorem m_11_2_10 : runC 11 2 10 12 = true := by kernel_rfl
theorem m_12_3_2 : runC 12 3 2 3 = true := by kernel_rfl
end Go.Proofs.Tryz
