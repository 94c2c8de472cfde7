/- On the seat of the open Play statements: Count, the program: the kernel's runs. On the seat of the open Play statements: Count, the program: the kernel's runs. -/
import Derived.Test.YthlmjjdlmidnlaaGreatDoorArN
namespace Go.Proofs.Tryz.Cn
open Go Go.Am
set_option maxRecDepth 100000
theorem countOk (g : Nat → List Int → Int) : runN g outOk ((.eq (.var 920) (L 0), true) :: inF) (fun _ => isC (syC (.var 910)) (syC (.var 911)) (iC 0) (iC 0)) = true := by kernel_rfl
end Go.Proofs.Tryz.Cn

namespace Go.Proofs.Tryz.Cn
open Go Go.Am
set_option maxRecDepth 100000
theorem countBad (g : Nat → List Int → Int) : runN g outBad ((.eq (.var 920) (L 0), false) :: inF) (fun _ => isC (iC 0) (iC 0) (syC (.var 921)) (iC 14)) = true := by kernel_rfl
theorem countOut0 (g : Nat → List Int → Int) : runN g outOk [(.le (L 0) yB, false)] (fun _ => isC (iC 0) (iC 0) (iC 0) (iC 3)) = true := by kernel_rfl
theorem countOut1 (g : Nat → List Int → Int) : runN g outOk [(.le (L 0) yB, true), (.le yB (L 3), false)] (fun _ => isC (iC 0) (iC 0) (iC 0) (iC 3)) = true := by kernel_rfl
theorem countOut2 (g : Nat → List Int → Int) : runN g outOk [(.le (L 0) yB, true), (.le yB (L 3), true), (.le (L 0) yS, false)] (fun _ => isC (iC 0) (iC 0) (iC 0) (iC 3)) = true := by kernel_rfl
theorem countOut3 (g : Nat → List Int → Int) : runN g outOk [(.le (L 0) yB, true), (.le yB (L 3), true), (.le (L 0) yS, true), (.le yS (L 2), false)] (fun _ => isC (iC 0) (iC 0) (iC 0) (iC 3)) = true := by kernel_rfl
theorem countOut4 (g : Nat → List Int → Int) : runN g outOk [(.le (L 0) yB, true), (.le yB (L 3), true), (.le (L 0) yS, true), (.le yS (L 2), true), (.le yN (L 24), false)] (fun _ => isC (iC 0) (iC 0) (iC 0) (iC 5)) = true := by kernel_rfl
end Go.Proofs.Tryz.Cn
