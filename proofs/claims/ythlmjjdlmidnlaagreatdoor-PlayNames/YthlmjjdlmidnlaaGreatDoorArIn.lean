/- On the seat of the open Play statements: IsName, and the reference's, byte by byte: what the kernel runs. -/
import Derived.Test.YthlmjjdlmidnlaaGreatDoorArC
namespace Go.Proofs.Tryz.Nm
open Go Go.Am
set_option maxRecDepth 100000

/-- the symbols: where the string begins, its length -/
def yO : E := vE 2
def yN : E := vE 3
def byE (o : E) (i : Nat) : E := appE 1000 [.add o (L i)]
def strC (o n : E) : V := .a (.c (.ot 0 o n))

/-- all bytes before i are those of a name -/
def sA (i : Nat) : E := .var (300 + i)
def clsT (i : Nat) : DT :=
  let b := byE yO i
  let rest : DT := match i with
    | 0 => dLf 0
    | _ => .node (.eq b (L 95)) (dLf 1) (.node (.le (L 48) b) (.node (.le b (L 57)) (dLf 1) (dLf 0)) (dLf 0))
  let low : DT := .node (.le (L 97) b) (.node (.le b (L 122)) (dLf 1) rest) rest
  .node (.le (L 65) b) (.node (.le b (L 90)) (dLf 1) low) low
def dA : Nat → DT
  | 0 => dLf 1
  | i + 1 => .node (.eq (sA i) (L 1)) (clsT i) (dLf 0)
def dNm : Nat → DT
  | 0 => dLf 0
  | m + 1 => .node (.le yN (L (24 - (m + 1 : Nat) : Nat))) (dLf 0) (.node (.eq (sA (24 - m)) (L 1)) (dNm m) (dLf 1))
def defN (m : Nat) : Option DT :=
  bif Nat.blt m 300 then none else bif Nat.blt m 326 then some (dA (m - 300)) else bif Nat.beq m 950 then some (dNm 24) else none

noncomputable def cxI (g : Nat → List Int → Int) : Cx := cxW cx.prim g defN noRows
def alF : Nat → Asg
  | 0 => [(.eq (sA 0) (L 1), true)]
  | i + 1 => (.eq (sA (i + 1)) (L 1), true) :: alF i
def factI : Nat → Asg
  | 0 => alF 0
  | i + 1 => (.le yN (L i), false) :: alF (i + 1)
/-- the program's: the range's iterator lies in block 0 -/
def headI (i : Nat) : Fr × St := (⟨52, mkT [(0, strC yO yN), (15, vc (.ptr 0 0))]⟩, ⟨mkT [(0, .sot 0 yO yN i)], 50⟩)
def annI : Ann := fun g r => bif Nat.beq g 41 && Nat.beq r 4 then some { n := 25, head := headI, facts := factI, outs := none } else none
/-- the reference's -/
def headJ (i : Nat) : Fr × St := (⟨42, mkT [(0, strC yO yN), (3, vc (iC i))]⟩, ⟨.nil, 50⟩)
def annJ : Ann := fun g r => bif Nat.beq g 42 && Nat.beq r 4 then some { n := 25, head := headJ, facts := factI, outs := none } else none
noncomputable def runI (g : Nat → List Int → Int) (f : FuncId) (ann : Ann) (l0 : Asg) (K : Asg → V → St → Bool) : Bool :=
  paths 60 l0 (askCallF (cxI g) ann noTails 100 0 f [strC yO yN] ⟨.nil, 0⟩) fun l => callG (withT (cxI g) l) (runL (cxI g) ann 100 noTails l) 0 f [strC yO yN] ⟨.nil, 0⟩ (K l)
def isBool (b : Bool) : V → St → Bool := fun v _ => eqVv v (.a (.c (.sc (.bool b))))
def nmF : Asg := [(.eq (sA 0) (L 1), true), (.le yN (L 0), false), (.le yN (L 24), true)]
/-- The answer, unless the facts can't be. -/
noncomputable def orDead (g : Nat → List Int → Int) (b : Bool) : Asg → V → St → Bool := fun l v st => dead (withT (cxI g) l) l || isBool b v st
end Go.Proofs.Tryz.Nm
