/- On the play seat's program: PlayParts: all pitches allowed. -/
import Derived.Test.YtfnpmcbilejbbaaGreatDoorAqLp2
import Derived.KernelRfl
namespace Go.Proofs.Tryz
open Go Go.Am Go.Gc Go.Pc
set_option maxRecDepth 100000

def fT : E := .var 930
def fS : E := .var 931
def hpP : T O := mkT [(0, .cells [syC yB, syC yS] 38 false), (1, .cells [syC uB, syC uS] 38 false)]
def uCut : E := vE 4
def commP : List (Nat × V) := [(0, strC yO yN), (1, vc (.sy .u8 uCut)), (5, vc (.ptr 0 0)), (7, vc (.ptr 1 0)), (8, vc (syC uI))]
def headP (i : Nat) : Fr × St := (⟨223, mkT (commP ++ [(14, vc (syC (tB i))), (15, vc (syC (tS i))), (134, vc (syC yN)), (135, vc (iC i))])⟩, ⟨hpP, 50⟩)
def factP : Nat → Asg
  | 0 => []
  | i + 1 => [(.le yN (L i), false)]
def outP : Exit × Fr × St := (.exit 0, ⟨223, mkT (commP ++ [(14, vc (syC fT)), (15, vc (syC fS))])⟩, ⟨hpP, 50⟩)
def annP : Ann := fun g r => bif Nat.beq g 4 && Nat.beq r 14 then some { n := 25, head := headP, facts := factP, outs := some [outP] } else none
def okF : Asg := [(.eq uE (L 0), true), (.eq uI (L 0), true), (.eq uB fT, true), (.eq uS fS, true), (.le fT (L 4), true), (.le fS (L 3), true)]
def n1 : E := wE (.add yN (L 1))
def uK : E := .rem (wE uCut) n1
def modF : Asg := [(.eq n1 (L 0), false), (.le (L 0) uK, true), (.le uK yN, true), (.eq (aE 23 yO uK) (L 0), true)]
def resE (k : Nat) : E := appE k [aE 20 yO uK, aE 21 yO uK, .add yO uK, .sub yN uK]
def fullF : Nat → Asg
  | 0 => [(.le (aE 20 yO uK) (L 3), false), (.eq uK yN, true)]
  | 1 => [(.le (aE 20 yO uK) (L 3), true), (.le (aE 21 yO uK) (L 2), false), (.eq uK yN, true)]
  | _ => [(.le (aE 20 yO uK) (L 3), true), (.le (aE 21 yO uK) (L 2), true), (.eq (resE 23) (L 0), true), (.eq (resE 20) uB, true), (.eq (resE 21) uS, true)]
theorem partsOk0 (g : Nat → List Int → Int) : runP g annP (inP ++ okF ++ modF ++ fullF 0) = true := by kernel_rfl
theorem partsOk1 (g : Nat → List Int → Int) : runP g annP (inP ++ okF ++ modF ++ fullF 1) = true := by kernel_rfl
theorem partsOk2 (g : Nat → List Int → Int) : runP g annP (inP ++ okF ++ modF ++ fullF 2) = true := by kernel_rfl
end Go.Proofs.Tryz
