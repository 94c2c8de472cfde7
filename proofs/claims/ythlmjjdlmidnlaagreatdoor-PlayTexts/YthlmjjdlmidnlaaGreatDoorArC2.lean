/- On the seat of the open Play statements: a play, checked by the program: the kernel's runs (two moves, three). -/
import Derived.Test.YthlmjjdlmidnlaaGreatDoorArC
namespace Go.Proofs.Tryz
open Go Go.Am
set_option maxRecDepth 100000
theorem run2a (g : Nat → List Int → Int) : runP (some 2) g (outOk (some 2)) ((.eq eN (L 0), true) :: okF) (isV (syC (.var 900))) = true := by kernel_rfl
theorem run2b (g : Nat → List Int → Int) : runP (some 2) g (outOk (some 2)) ((.eq eN (L 1), true) :: okF) (isV (syC (.var 900))) = true := by kernel_rfl
theorem run3a (g : Nat → List Int → Int) : runP (some 3) g (outOk (some 3)) ((.eq eN (L 0), true) :: okF) (isV (syC (.var 900))) = true := by kernel_rfl
theorem run3b (g : Nat → List Int → Int) : runP (some 3) g (outOk (some 3)) ((.eq eN (L 1), true) :: okF) (isV (syC (.var 900))) = true := by kernel_rfl
end Go.Proofs.Tryz
