/- On the play seat's program: Count: the kernel's runs, arguments out of range. -/
import Derived.Test.YtfnpmcbilejbbaaGreatDoorAqN
import Derived.KernelRfl
namespace Go.Proofs.Tryz
open Go Go.Am
set_option maxRecDepth 100000

theorem countOut0 (g : Nat → List Int → Int) : runN g outOk [(.le (L 0) yB, false)] (fun _ => isC (iC 0) (iC 0) (iC 0) (iC 3)) = true := by kernel_rfl
theorem countOut1 (g : Nat → List Int → Int) : runN g outOk [(.le (L 0) yB, true), (.le yB (L 3), false)] (fun _ => isC (iC 0) (iC 0) (iC 0) (iC 3)) = true := by kernel_rfl
theorem countOut2 (g : Nat → List Int → Int) : runN g outOk [(.le (L 0) yB, true), (.le yB (L 3), true), (.le (L 0) yS, false)] (fun _ => isC (iC 0) (iC 0) (iC 0) (iC 3)) = true := by kernel_rfl
theorem countOut3 (g : Nat → List Int → Int) : runN g outOk [(.le (L 0) yB, true), (.le yB (L 3), true), (.le (L 0) yS, true), (.le yS (L 2), false)] (fun _ => isC (iC 0) (iC 0) (iC 0) (iC 3)) = true := by kernel_rfl
theorem countOut4 (g : Nat → List Int → Int) : runN g outOk [(.le (L 0) yB, true), (.le yB (L 3), true), (.le (L 0) yS, true), (.le yS (L 2), true), (.le yN (L 24), false)] (fun _ => isC (iC 0) (iC 0) (iC 0) (iC 5)) = true := by kernel_rfl
end Go.Proofs.Tryz
