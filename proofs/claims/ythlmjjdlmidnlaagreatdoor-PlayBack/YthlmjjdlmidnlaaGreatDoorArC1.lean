/- On the seat of the open Play statements: a play, checked by the program: the kernel's runs (no move, one, too many). -/
import Derived.Test.YthlmjjdlmidnlaaGreatDoorArC
namespace Go.Proofs.Tryz
open Go Go.Am
set_option maxRecDepth 100000
theorem run0a (g : Nat → List Int → Int) : runP (some 0) g (outOk (some 0)) ((.eq eN (L 0), true) :: okF) (isV (syC (.var 900))) = true := by kernel_rfl
theorem run0b (g : Nat → List Int → Int) : runP (some 0) g (outOk (some 0)) ((.eq eN (L 1), true) :: okF) (isV (syC (.var 900))) = true := by kernel_rfl
theorem run1a (g : Nat → List Int → Int) : runP (some 1) g (outOk (some 1)) ((.eq eN (L 0), true) :: okF) (isV (syC (.var 900))) = true := by kernel_rfl
theorem run1b (g : Nat → List Int → Int) : runP (some 1) g (outOk (some 1)) ((.eq eN (L 1), true) :: okF) (isV (syC (.var 900))) = true := by kernel_rfl
end Go.Proofs.Tryz
