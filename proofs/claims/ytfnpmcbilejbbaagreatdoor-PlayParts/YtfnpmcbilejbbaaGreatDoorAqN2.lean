/- On the play seat's program: Count: the kernel's runs, a pitch too many or none at all. -/
import Derived.Test.YtfnpmcbilejbbaaGreatDoorAqN
import Derived.KernelRfl
namespace Go.Proofs.Tryz
open Go Go.Am
set_option maxRecDepth 100000

theorem countBad (g : Nat → List Int → Int) : runN g outBad ((.eq (.var 920) (L 0), false) :: inF) (fun _ => isC (iC 0) (iC 0) (syC (.var 921)) (iC 14)) = true := by kernel_rfl
end Go.Proofs.Tryz
