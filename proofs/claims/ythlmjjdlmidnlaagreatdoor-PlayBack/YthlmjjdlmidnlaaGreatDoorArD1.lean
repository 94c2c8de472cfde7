/- On the seat of the open Play statements: the reference's check of pitches: the kernel's runs. -/
import Derived.Test.YthlmjjdlmidnlaaGreatDoorArD
namespace Go.Proofs.Tryz
open Go Go.Am
set_option maxRecDepth 100000
theorem runLongR (g : Nat → List Int → Int) : runR g outBadR [(.le yN (L 24), false)] (isV (iC 5)) = true := by kernel_rfl
theorem runBadR (g : Nat → List Int → Int) : runR g outBadR badF (isV (iC 14)) = true := by kernel_rfl
theorem runOkR (g : Nat → List Int → Int) : runR g outOkR okF (isV (iC 0)) = true := by kernel_rfl
end Go.Proofs.Tryz
