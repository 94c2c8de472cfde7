/- On the season seat's program: SeasonMonoid's run, held by the kernel, a part. -/
import Derived.Test.YtbfonnoebbjenaaGreatDoorAmM3
namespace Go.Proofs.Tryz
open Go Go.Am
theorem m_8_3_0 : runC 8 3 0 9 = true := by kernel_rfl
theorem m_9_2_0 : runC 9 2 0 8 = true := by kernel_rfl
theorem m_10_2_0 : runC 10 2 0 5 = true := by kernel_rfl
theorem m_11_3_0 : runC 11 3 0 2 = true := by kernel_rfl
theorem m_12_1_0 : runC 12 1 0 13 = true := by kernel_rfl
theorem m_12_3_3 : runC 12 3 3 4 = true := by kernel_rfl
theorem m_small : ((nats 5).all fun n => (nats 4).all fun s => runC n s 0 (n + 1)) = true := by kernel_rfl
theorem m_5 : ((nats 4).all fun s => runC 5 s 0 6) = true := by kernel_rfl
theorem m_6 : ((nats 4).all fun s => runC 6 s 0 7) = true := by kernel_rfl
theorem m_nil : runM (.sc (.slice none 0 0)) 0 0 0 0 = true := by kernel_rfl
end Go.Proofs.Tryz
