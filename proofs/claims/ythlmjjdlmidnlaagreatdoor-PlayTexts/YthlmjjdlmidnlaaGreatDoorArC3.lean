/- On the seat of the open Play statements: a play, checked by the program: the kernel's runs (four moves). -/
import Derived.Test.YthlmjjdlmidnlaaGreatDoorArC
namespace Go.Proofs.Tryz
open Go Go.Am
set_option maxRecDepth 100000
theorem run4a (g : Nat → List Int → Int) : runP (some 4) g (outOk (some 4)) ((.eq eN (L 0), true) :: okF) (isV (syC (.var 900))) = true := by kernel_rfl
theorem run4b (g : Nat → List Int → Int) : runP (some 4) g (outOk (some 4)) ((.eq eN (L 1), true) :: okF) (isV (syC (.var 900))) = true := by kernel_rfl
end Go.Proofs.Tryz
