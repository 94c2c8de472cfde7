/- On the play seat's program: PlayParts: arguments out of range. -/
import Derived.Test.YtfnpmcbilejbbaaGreatDoorAqLp
import Derived.KernelRfl
namespace Go.Proofs.Tryz
open Go Go.Am Go.Gc Go.Pc
set_option maxRecDepth 100000

theorem partsOut0 (g : Nat → List Int → Int) : runP g noAnn [(.le yN (L 24), false)] = true := by kernel_rfl
theorem partsOut1 (g : Nat → List Int → Int) : runP g noAnn [(.le yN (L 24), true), (.le (L 0) yB, false)] = true := by kernel_rfl
theorem partsOut2 (g : Nat → List Int → Int) : runP g noAnn [(.le yN (L 24), true), (.le (L 0) yB, true), (.le yB (L 3), false)] = true := by kernel_rfl
theorem partsOut3 (g : Nat → List Int → Int) : runP g noAnn [(.le yN (L 24), true), (.le (L 0) yB, true), (.le yB (L 3), true), (.le (L 0) yS, false)] = true := by kernel_rfl
theorem partsOut4 (g : Nat → List Int → Int) : runP g noAnn [(.le yN (L 24), true), (.le (L 0) yB, true), (.le yB (L 3), true), (.le (L 0) yS, true), (.le yS (L 2), false)] = true := by kernel_rfl
end Go.Proofs.Tryz
