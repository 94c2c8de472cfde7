/- On the seat of the open Play statements: PlayCounts: the kernel's runs. On the seat of the open Play statements: PlayCounts: the kernel's runs. -/
import Derived.Test.YthlmjjdlmidnlaaGreatDoorArU
namespace Go.Proofs.Tryz
open Go Go.Am
set_option maxRecDepth 100000
theorem runUn (g : Nat → List Int → Int) : runU none g [(.le mL (L 6), false)] = true := by kernel_rfl
theorem runUe0 (g : Nat → List Int → Int) : runU (some 0) g [(.eq (plX 0) (L 0), false)] = true := by kernel_rfl
theorem runUe1 (g : Nat → List Int → Int) : runU (some 1) g [(.eq (plX 1) (L 0), false)] = true := by kernel_rfl
theorem runUe2 (g : Nat → List Int → Int) : runU (some 2) g [(.eq (plX 2) (L 0), false)] = true := by kernel_rfl
theorem runUe3 (g : Nat → List Int → Int) : runU (some 3) g [(.eq (plX 3) (L 0), false)] = true := by kernel_rfl
theorem runUe4 (g : Nat → List Int → Int) : runU (some 4) g [(.eq (plX 4) (L 0), false)] = true := by kernel_rfl
theorem runUe5 (g : Nat → List Int → Int) : runU (some 5) g [(.eq (plX 5) (L 0), false)] = true := by kernel_rfl
theorem runUe6 (g : Nat → List Int → Int) : runU (some 6) g [(.eq (plX 6) (L 0), false)] = true := by kernel_rfl
theorem runU0 (g : Nat → List Int → Int) : runUs 0 g [] 0 = true := by kernel_rfl
theorem runU1 (g : Nat → List Int → Int) : runUs 1 g [] 1 = true := by kernel_rfl
theorem runU2 (g : Nat → List Int → Int) : runUs 2 g [] 2 = true := by kernel_rfl
end Go.Proofs.Tryz

namespace Go.Proofs.Tryz
open Go Go.Am
set_option maxRecDepth 100000
theorem runU3t (g : Nat → List Int → Int) : runUs 3 g [true] 2 = true := by kernel_rfl
theorem runU3f (g : Nat → List Int → Int) : runUs 3 g [false] 2 = true := by kernel_rfl
end Go.Proofs.Tryz
