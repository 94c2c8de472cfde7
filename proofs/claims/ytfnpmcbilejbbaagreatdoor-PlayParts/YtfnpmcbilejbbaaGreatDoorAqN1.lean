/- On the play seat's program: Count: the kernel's runs, no error. -/
import Derived.Test.YtfnpmcbilejbbaaGreatDoorAqN
import Derived.KernelRfl
namespace Go.Proofs.Tryz
open Go Go.Am
set_option maxRecDepth 100000

theorem countOk (g : Nat → List Int → Int) : runN g outOk ((.eq (.var 920) (L 0), true) :: inF) (fun _ => isC (syC (.var 910)) (syC (.var 911)) (iC 0) (iC 0)) = true := by kernel_rfl
end Go.Proofs.Tryz
