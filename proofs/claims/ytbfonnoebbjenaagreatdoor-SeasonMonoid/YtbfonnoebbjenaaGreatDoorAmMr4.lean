/- On the season seat's program: SeasonMonoid's run, held by the kernel, a part. -/
import Derived.Test.YtbfonnoebbjenaaGreatDoorAmM3
namespace Go.Proofs.Tryz
open Go Go.Am
theorem m_7_3_0 : runC 7 3 0 8 = true := by kernel_rfl
theorem m_9_3_5 : runC 9 3 5 10 = true := by kernel_rfl
theorem m_10_3_3 : runC 10 3 3 6 = true := by kernel_rfl
theorem m_11_3_5 : runC 11 3 5 9 = true := by kernel_rfl
theorem m_12_2_7 : runC 12 2 7 13 = true := by kernel_rfl
theorem m_12_3_7 : runC 12 3 7 13 = true := by kernel_rfl
end Go.Proofs.Tryz
