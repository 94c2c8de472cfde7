/- On the seat of the open Play statements: a play, checked by the program: symbols, heads, what the kernel runs. -/
import Derived.Test.YthlmjjdlmidnlaaGreatDoorArMc
import Derived.Test.YthlmjjdlmidnlaaGreatDoorArH
namespace Go.Proofs.Tryz
open Go Go.Am
set_option maxRecDepth 100000

/-- the symbols: the pitches' place and length, the event's, whether it is late, how many moves (where these are not told) -/
def yO : E := vE 0
def yN : E := vE 1
def eO : E := vE 2
def eN : E := vE 3
def lX : E := vE 4
def mL : E := vE 5
/-- a move's: from, to, whether it is an out, the string's place and length, the touches' place and number -/
def pv (i j : Nat) : E := vE (10 + 10 * i + j)
def bP (i : Nat) : E := appE 1000 [.add yO (L i)]
def eB : E := appE 1001 [.add eO (L 0)]
def inP (i : Nat) : E := appE 61 [bP i]
def lastE : E := wE (.sub yN (L 1))
def sGo (i : Nat) : E := .var (100 + i)
def dLast (i : Nat) : DT := .node (.eq (L i) lastE) (dLf 1) (dLf 0)
def dGo : Nat → DT
  | 0 => dLf 1
  | i + 1 => .node (.eq (sGo i) (L 1)) (.node (.le (bP i) (L 127)) (.node (.eq (inP i) (L 0)) (dLf 0) (.node (.eq (bP i) (L 88)) (dLast i) (.node (.eq (bP i) (L 72)) (dLast i) (dLf 1)))) (dLf 0)) (dLf 0)
def dErr : Nat → DT
  | 0 => dLf 0
  | m + 1 => .node (.le yN (L (24 - (m + 1 : Nat) : Nat))) (dLf 0) (.node (.eq (sGo (24 - m)) (L 1)) (dErr m) (dLf 1))

/-- the moves -/
def mvE (i : Nat) : MvE := ⟨pv i 0, pv i 1, pv i 2, 2 + i, pv i 3, pv i 4, i, pv i 5, pv i 6⟩
def mvA (i : Nat) : E := mvApp (mvE i)
def mvC (i : Nat) : List C := [syC (pv i 0), syC (pv i 1), .sb (pv i 2), .ot (2 + i) (pv i 3) (pv i 4), .ost i (pv i 5) (pv i 6)]
def rowC : Nat → Nat → List C
  | 0, _ => []
  | n + 1, i => mvC i ++ rowC n (i + 1)
def mvsD : Nat → Nat → DT
  | 0, _ => dLf 0
  | n + 1, 0 => .node (.eq (mvA 0) (L 0)) (mvsD n 1) (.leaf (mvA 0))
  | n + 1, i + 1 => .node (.eq (mvA (i + 1)) (L 0)) (.node (.le (pv i 0) (pv (i + 1) 0)) (dLf 11) (mvsD n (i + 2))) (.leaf (mvA (i + 1)))
def evIn : E := appE 62 (eB :: bytesE [75, 87, 72, 73, 88, 78, 89])
/-- what comes behind the pitches: n moves; too many of them -/
def evD (d : DT) : DT := .node (.eq eN (L 0)) d (.node (.eq eN (L 1)) (.node (.le (L 0) evIn) d (dLf 13)) (dLf 13))
def restD (n : Nat) : DT := evD (mvsD n 0)
def manyD : DT := evD (dLf 5)
/-- what a run ends with: n moves, or more than four -/
def endD : Option Nat → DT
  | some n => restD n
  | none => manyD
def defP (k : Option Nat) (m : Nat) : Option DT :=
  bif Nat.blt m 100 then none else bif Nat.blt m 125 then some (dGo (m - 100)) else bif Nat.beq m 920 then some (dErr 24) else bif Nat.beq m 900 then some (endD k) else none

def moveSl : Option Nat → C
  | some 0 => .slx (L 0)
  | some (n + 1) => .osl 9 0 (n + 1)
  | none => .slx mL
def playC (k : Option Nat) : List C := [.ot 0 yO yN, .ot 1 eO eN, .sb lX, moveSl k]
def rowsP (k : Option Nat) (r : Nat) : Option (List C) := bif Nat.beq r 9 then some (rowC (k.getD 0) 0) else none
def mkT {α : Type} : List (Nat × α) → T α
  | [] => .nil
  | (n, x) :: l => (mkT l).set n (some x)
def hpP (k : Option Nat) : O := .cells (playC k) 24 false
def headP (k : Option Nat) (i : Nat) : Fr × St := (⟨95, mkT [(1, vc (.ptr 0 0)), (16, vc (.ptr 1 0))]⟩, ⟨mkT [(0, hpP k), (1, .sot 0 yO yN i)], 50⟩)
def goF : Nat → Asg
  | 0 => [(.eq (sGo 0) (L 1), true)]
  | i + 1 => (.eq (sGo (i + 1)) (L 1), true) :: goF i
def factP : Nat → Asg
  | 0 => goF 0
  | i + 1 => (.le yN (L i), false) :: goF (i + 1)
def outOk (k : Option Nat) : Exit × Fr × St := (.exit 0, ⟨95, mkT [(1, vc (.ptr 0 0))]⟩, ⟨mkT [(0, hpP k)], 50⟩)
def outBad : Exit × Fr × St := (.ret, ⟨95, mkT [(2, vc (iC 14))]⟩, ⟨.nil, 50⟩)
def tailP (k : Option Nat) : Heads := { n := 1, head := fun _ => (⟨95, mkT [(1, vc (.ptr 0 0))]⟩, ⟨mkT [(0, hpP k)], 50⟩), facts := fun _ => [], outs := some [(.ret, ⟨95, mkT [(2, vc (syC (.var 900)))]⟩, ⟨.nil, 500⟩)] }
def annP (k : Option Nat) (o : Exit × Fr × St) : Ann := fun g r => bif Nat.beq g 15 then (bif Nat.beq r 4 then some { n := 25, head := headP k, facts := factP, outs := some [o] } else bif Nat.beq r 1009 then some (tailP k) else none) else none

noncomputable def tP : FuncId → Option PT := addP 69 pRune (addP 189 pIdx (addP 18 pMv (addP 20 pMv cx.prim)))
noncomputable def cxP (k : Option Nat) (g : Nat → List Int → Int) : Cx := cxW tP g (defP k) (rowsP k)
def argsP (k : Option Nat) : List V := [.a (.agg (playC k))]
noncomputable def runP (k : Option Nat) (g : Nat → List Int → Int) (o : Exit × Fr × St) (l0 : Asg) (K : V → St → Bool) : Bool :=
  paths 30 l0 (askCallF (cxP k g) (annP k o) noTails 200 0 15 (argsP k) ⟨.nil, 0⟩) fun l => callG (withT (cxP k g) l) (runL (cxP k g) (annP k o) 200 noTails l) 0 15 (argsP k) ⟨.nil, 0⟩ K
def isV (c : C) : V → St → Bool := fun v _ => eqVv v (vc c)
def okF : Asg := [(.eq (.var 920) (L 0), true), (.le yN (L 24), true)]
def badF : Asg := [(.eq (.var 920) (L 0), false), (.le yN (L 24), true)]
end Go.Proofs.Tryz
