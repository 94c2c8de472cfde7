/- On the seat of the open Play statements: Count, the program's and the reference's, round by round: what the kernel runs. -/
import Derived.Test.YthlmjjdlmidnlaaGreatDoorArDc
import Derived.Test.YthlmjjdlmidnlaaGreatDoorAmGc
namespace Go.Proofs.Tryz.Cn
open Go Go.Am
set_option maxRecDepth 100000

/-- the symbols: balls, strikes, where the string begins, its length -/
def yB : E := vE 0
def yS : E := vE 1
def yO : E := vE 2
def yN : E := vE 3
def byE (o : E) (i : Nat) : E := appE 1000 [.add o (L i)]
def sB (i : Nat) : E := .var (100 + 4 * i)
def sS (i : Nat) : E := .var (101 + 4 * i)
def sOv (i : Nat) : E := .var (102 + 4 * i)
def sGo (i : Nat) : E := .var (103 + 4 * i)
def inc (e : E) : E := wE (.add e (L 1))
def foul (e : E) : E := .max e (.min (inc e) (L 2))
def is (o : E) (i : Nat) (c : Int) (a b : DT) : DT := .node (.eq (byE o i) (L c)) a b
def over3 (x y : E) : DT := .node (.eq x (L 4)) (dLf 1) (.node (.eq y (L 3)) (dLf 1) (dLf 0))
def dB : Nat → DT
  | 0 => .leaf yB
  | i + 1 => is yO i 66 (.leaf (inc (sB i))) (.leaf (sB i))
def dS : Nat → DT
  | 0 => .leaf yS
  | i + 1 => is yO i 66 (.leaf (sS i)) (is yO i 67 (.leaf (inc (sS i))) (is yO i 83 (.leaf (inc (sS i))) (is yO i 70 (.leaf (foul (sS i))) (.leaf (sS i)))))
def dOv : Nat → DT
  | 0 => dLf 0
  | i + 1 => is yO i 66 (over3 (inc (sB i)) (sS i)) (is yO i 67 (over3 (sB i) (inc (sS i))) (is yO i 83 (over3 (sB i) (inc (sS i))) (is yO i 70 (over3 (sB i) (foul (sS i))) (dLf 1))))
def dGo : Nat → DT
  | 0 => dLf 1
  | i + 1 => .node (.eq (sGo i) (L 1)) (.node (.eq (sOv i) (L 0)) (is yO i 66 (dLf 1) (is yO i 67 (dLf 1) (is yO i 83 (dLf 1) (is yO i 70 (dLf 1) (is yO i 88 (dLf 1) (is yO i 72 (dLf 1) (dLf 0))))))) (dLf 0)) (dLf 0)
/-- at the end: from round 24 - m on -/
def dFin (x : Nat → E) : Nat → DT
  | 0 => .leaf (x 24)
  | m + 1 => .node (.le yN (L (24 - (m + 1 : Nat) : Nat))) (.leaf (x (24 - (m + 1)))) (dFin x m)
def dErr : Nat → DT
  | 0 => dLf 0
  | m + 1 => .node (.le yN (L (24 - (m + 1 : Nat) : Nat))) (dLf 0) (.node (.eq (sGo (24 - m)) (L 1)) (dErr m) (dLf 1))
def dIdx : Nat → DT
  | 0 => dLf 0
  | m + 1 => .node (.le yN (L (24 - (m + 1 : Nat) : Nat))) (dLf 0) (.node (.eq (sGo (24 - m)) (L 1)) (dIdx m) (dLf (24 - (m + 1) : Nat)))
def defC (m : Nat) : Option DT :=
  bif Nat.blt m 100 then none else bif Nat.blt m 204 then
    (match (m - 100) % 4 with
    | 0 => some (dB ((m - 100) / 4))
    | 1 => some (dS ((m - 100) / 4))
    | 2 => some (dOv ((m - 100) / 4))
    | _ => some (dGo ((m - 100) / 4)))
  else bif Nat.beq m 910 then some (dFin sB 24) else bif Nat.beq m 911 then some (dFin sS 24) else bif Nat.beq m 920 then some (dErr 24) else bif Nat.beq m 921 then some (dIdx 24) else none

def strC (o n : E) : V := .a (.c (.ot 0 o n))
def hpC : T O := mkT [(0, .cells [iC 0, iC 0] 69 false)]
def headC (i : Nat) : Fr × St :=
  (⟨71, mkT [(0, vc (syC (sB i))), (1, vc (syC (sS i))), (2, strC yO yN), (6, vc (.ptr 0 0)), (7, vc (iC 0)), (8, vc (iC 0)), (10, vc (.sb (sOv i))), (27, vc (syC yN)), (28, vc (iC i))]⟩, ⟨hpC, 50⟩)
def goF : Nat → Asg
  | 0 => [(.eq (sGo 0) (L 1), true)]
  | i + 1 => (.eq (sGo (i + 1)) (L 1), true) :: goF i
def factC : Nat → Asg
  | 0 => goF 0
  | i + 1 => (.le yN (L i), false) :: goF (i + 1)
def outOk : Exit × Fr × St := (.exit 0, ⟨71, mkT [(0, vc (syC (.var 910))), (1, vc (syC (.var 911))), (6, vc (.ptr 0 0))]⟩, ⟨hpC, 50⟩)
def outBad : Exit × Fr × St := (.ret, ⟨71, mkT [(6, vc (.ptr 0 0)), (7, vc (syC (.var 921))), (8, vc (iC 14))]⟩, ⟨hpC, 50⟩)
def annC (o : Exit × Fr × St) : Ann := fun g r => bif Nat.beq g 43 && Nat.beq r 6 then some { n := 25, head := headC, facts := factC, outs := some [o] } else none

noncomputable def cxN (g : Nat → List Int → Int) : Cx := cxW cx.prim g defC noRows
noncomputable def runN (g : Nat → List Int → Int) (o : Exit × Fr × St) (l0 : Asg) (K : Asg → V → St → Bool) : Bool :=
  paths 60 l0 (askCallF (cxN g) (annC o) noTails 100 0 43 [sE yB, sE yS, strC yO yN] ⟨.nil, 0⟩) fun l => callG (withT (cxN g) l) (runL (cxN g) (annC o) 100 noTails l) 0 43 [sE yB, sE yS, strC yO yN] ⟨.nil, 0⟩ (K l)
def inF : Asg := [(.le (L 0) yB, true), (.le yB (L 3), true), (.le (L 0) yS, true), (.le yS (L 2), true), (.le yN (L 24), true)]
def resC (a b c d : C) : V := .tup [.agg [a, b], .c c, .c d]
def isC (a b c d : C) : V → St → Bool := fun v _ => eqVv v (resC a b c d)

/-! ### the reference's -/
def hs6 (i : Nat) : E := appE 66 (byE yO i :: bytesE [66, 67, 83, 70, 88, 72])
def dGoR : Nat → DT
  | 0 => dLf 1
  | i + 1 => .node (.eq (sGo i) (L 1)) (.node (.eq (hs6 i) (L 0)) (dLf 0) (.node (.eq (sOv i) (L 0)) (dLf 1) (dLf 0))) (dLf 0)
def defR (m : Nat) : Option DT :=
  bif Nat.blt m 100 then none else bif Nat.blt m 204 then
    (match (m - 100) % 4 with
    | 0 => some (dB ((m - 100) / 4))
    | 1 => some (dS ((m - 100) / 4))
    | 2 => some (dOv ((m - 100) / 4))
    | _ => some (dGoR ((m - 100) / 4)))
  else bif Nat.beq m 910 then some (dFin sB 24) else bif Nat.beq m 911 then some (dFin sS 24) else bif Nat.beq m 920 then some (dErr 24) else bif Nat.beq m 921 then some (dIdx 24) else none
def headR (i : Nat) : Fr × St :=
  (⟨77, mkT [(0, vc (syC (sB i))), (1, vc (syC (sS i))), (2, strC yO yN), (6, vc (.ptr 0 0)), (7, vc (iC 0)), (8, vc (iC 0)), (9, vc (.sb (sOv i))), (10, vc (iC i))]⟩, ⟨hpC, 50⟩)
def outOkR : Exit × Fr × St := (.exit 0, ⟨77, mkT [(0, vc (syC (.var 910))), (1, vc (syC (.var 911))), (6, vc (.ptr 0 0))]⟩, ⟨hpC, 50⟩)
def outBadR : Exit × Fr × St := (.ret, ⟨77, mkT [(6, vc (.ptr 0 0)), (7, vc (syC (.var 921))), (8, vc (iC 14))]⟩, ⟨hpC, 50⟩)
def annR (o : Exit × Fr × St) : Ann := fun g r => bif Nat.beq g 44 && Nat.beq r 7 then some { n := 25, head := headR, facts := factC, outs := some [o] } else none
noncomputable def tNR : FuncId → Option PT := addP 97 pHas cx.prim
noncomputable def cxNR (g : Nat → List Int → Int) : Cx := cxW tNR g defR noRows
noncomputable def runNR (g : Nat → List Int → Int) (o : Exit × Fr × St) (l0 : Asg) (K : Asg → V → St → Bool) : Bool :=
  paths 60 l0 (askCallF (cxNR g) (annR o) noTails 100 0 44 [sE yB, sE yS, strC yO yN] ⟨.nil, 0⟩) fun l => callG (withT (cxNR g) l) (runL (cxNR g) (annR o) 100 noTails l) 0 44 [sE yB, sE yS, strC yO yN] ⟨.nil, 0⟩ (K l)
end Go.Proofs.Tryz.Cn
