/- On the seat of the open Play statements: IsName, and the reference's: the kernel's runs. -/
import Derived.Test.YthlmjjdlmidnlaaGreatDoorArIn
import Derived.KernelRfl
namespace Go.Proofs.Tryz.Nm
open Go Go.Am
set_option maxRecDepth 100000

theorem nameNone (g : Nat → List Int → Int) : runI g 41 annI [(.le yN (L 0), true), (.eq yN (L 0), true)] (orDead g false) = true := by kernel_rfl
theorem nameLong (g : Nat → List Int → Int) : runI g 41 annI [(.le yN (L 0), false), (.eq yN (L 0), false), (.le yN (L 24), false)] (orDead g false) = true := by kernel_rfl
theorem nameYes (g : Nat → List Int → Int) : runI g 41 annI ((.eq yN (L 0), false) :: (.eq (.var 950) (L 0), true) :: nmF) (orDead g true) = true := by kernel_rfl
theorem nameNo (g : Nat → List Int → Int) : runI g 41 annI ((.eq yN (L 0), false) :: (.eq (.var 950) (L 0), false) :: nmF) (orDead g false) = true := by kernel_rfl
theorem refNone (g : Nat → List Int → Int) : runI g 42 annJ [(.le yN (L 0), true), (.eq yN (L 0), true)] (orDead g false) = true := by kernel_rfl
theorem refLong (g : Nat → List Int → Int) : runI g 42 annJ [(.le yN (L 0), false), (.eq yN (L 0), false), (.le yN (L 24), false)] (orDead g false) = true := by kernel_rfl
theorem refYes (g : Nat → List Int → Int) : runI g 42 annJ ((.eq yN (L 0), false) :: (.eq (.var 950) (L 0), true) :: nmF) (orDead g true) = true := by kernel_rfl
theorem refNo (g : Nat → List Int → Int) : runI g 42 annJ ((.eq yN (L 0), false) :: (.eq (.var 950) (L 0), false) :: nmF) (orDead g false) = true := by kernel_rfl
end Go.Proofs.Tryz.Nm
