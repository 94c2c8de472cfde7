/- On the play seat's program: PlayParts: a pitch too many, or none at all. -/
import Derived.Test.YtfnpmcbilejbbaaGreatDoorAqLp
import Derived.KernelRfl
namespace Go.Proofs.Tryz
open Go Go.Am Go.Gc Go.Pc
set_option maxRecDepth 100000

def inP : Asg := [(.le yN (L 24), true), (.le (L 0) yB, true), (.le yB (L 3), true), (.le (L 0) yS, true), (.le yS (L 2), true)]
def errF : Asg := [(.eq uE (L 0), false), (.eq uE (L 14), true), (.le (L 0) uI, true), (.le yN uI, false), (.le uI yN, true), (.eq uB (L 0), true), (.eq uS (L 0), true), (.eq (aE 23 yO uI) (L 0), true)]
def badF (e : E) : Asg := [(.eq (bE e) (L 66), false), (.eq (bE e) (L 67), false), (.eq (bE e) (L 83), false), (.eq (bE e) (L 70), false), (.eq (bE e) (L 88), false), (.eq (bE e) (L 72), false)]
def atF : Asg := [(.le uI (L 0), true)]
def backE : E := wE (.sub uI (L 1))
def behF : Asg := [(.le uI (L 0), false), (.le (L 0) backE, true), (.le yN backE, false)]
def reaF : Nat → Asg
  | 0 => badF uI
  | 1 => [(.eq (aE 20 yO uI) (L 4), true)]
  | 2 => [(.eq (aE 21 yO uI) (L 3), true)]
  | 3 => [(.eq (bE backE) (L 88), true)]
  | _ => [(.eq (bE backE) (L 72), true)]
theorem partsErr (g : Nat → List Int → Int) : runP g noAnn (inP ++ errF ++ atF ++ badF uI) = true := by kernel_rfl
theorem partsErr0 (g : Nat → List Int → Int) : runP g noAnn (inP ++ errF ++ behF ++ reaF 0) = true := by kernel_rfl
theorem partsErr1 (g : Nat → List Int → Int) : runP g noAnn (inP ++ errF ++ behF ++ reaF 1) = true := by kernel_rfl
theorem partsErr2 (g : Nat → List Int → Int) : runP g noAnn (inP ++ errF ++ behF ++ reaF 2) = true := by kernel_rfl
theorem partsErr3 (g : Nat → List Int → Int) : runP g noAnn (inP ++ errF ++ behF ++ reaF 3) = true := by kernel_rfl
theorem partsErr4 (g : Nat → List Int → Int) : runP g noAnn (inP ++ errF ++ behF ++ reaF 4) = true := by kernel_rfl
end Go.Proofs.Tryz
