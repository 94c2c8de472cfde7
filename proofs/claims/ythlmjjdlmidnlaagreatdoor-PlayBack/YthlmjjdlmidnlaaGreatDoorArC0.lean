/- On the seat of the open Play statements: a play, checked by the program: the kernel's runs (pitches too many or wrong; no moves). On the seat of the open Play statements: a play, checked by the program: the kernel's runs (too many moves, an event too long). -/
import Derived.Test.YthlmjjdlmidnlaaGreatDoorArC
namespace Go.Proofs.Tryz
open Go Go.Am
set_option maxRecDepth 100000
theorem runLong (g : Nat → List Int → Int) : runP none g outBad [(.le yN (L 24), false)] (isV (iC 5)) = true := by kernel_rfl
theorem runBad (g : Nat → List Int → Int) : runP none g outBad badF (isV (iC 14)) = true := by kernel_rfl
end Go.Proofs.Tryz

namespace Go.Proofs.Tryz
open Go Go.Am
set_option maxRecDepth 100000
theorem runNa (g : Nat → List Int → Int) : runP none g (outOk none) ((.le mL (L 4), false) :: (.eq eN (L 0), true) :: okF) (isV (syC (.var 900))) = true := by kernel_rfl
theorem runNb (g : Nat → List Int → Int) : runP none g (outOk none) ((.le mL (L 4), false) :: (.eq eN (L 1), true) :: okF) (isV (syC (.var 900))) = true := by kernel_rfl
theorem runE (g : Nat → List Int → Int) : runP none g (outOk none) ((.le eN (L 1), false) :: okF) (isV (syC (.var 900))) = true := by kernel_rfl
end Go.Proofs.Tryz
