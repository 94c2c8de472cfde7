/- On the seat of the open Play statements: PlayCounts: the kernel's runs. -/
import Derived.Test.YthlmjjdlmidnlaaGreatDoorArU
namespace Go.Proofs.Tryz
open Go Go.Am
set_option maxRecDepth 100000
theorem runU4tttt (g : Nat → List Int → Int) : runUs 4 g [true, true, true, true] 0 = true := by kernel_rfl
theorem runU4tttf (g : Nat → List Int → Int) : runUs 4 g [true, true, true, false] 0 = true := by kernel_rfl
end Go.Proofs.Tryz
