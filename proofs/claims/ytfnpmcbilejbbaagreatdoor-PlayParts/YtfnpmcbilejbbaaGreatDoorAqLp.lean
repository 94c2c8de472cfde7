/- On the play seat's program: PlayParts: what the kernel runs. -/
import Derived.Test.YtfnpmcbilejbbaaGreatDoorAqNc
import Derived.Test.YtfnpmcbilejbbaaGreatDoorAqZd
namespace Go.Proofs.Tryz
open Go Go.Am Go.Gc Go.Pc
set_option maxRecDepth 100000

noncomputable def tP : FuncId → Option PT := addP 6 pTrue (addP 15 pC cx.prim)

/-! ### the law's own totals -/
def tB (i : Nat) : E := .var (200 + 2 * i)
def tS (i : Nat) : E := .var (201 + 2 * i)
def dTB : Nat → DT
  | 0 => .leaf yB
  | i + 1 => is yO i 66 (.leaf (inc (tB i))) (.leaf (tB i))
def dTS : Nat → DT
  | 0 => .leaf yS
  | i + 1 => is yO i 66 (.leaf (tS i)) (is yO i 67 (.leaf (inc (tS i))) (is yO i 83 (.leaf (inc (tS i))) (is yO i 70 (.node (.le (L 2) (tS i)) (.leaf (tS i)) (.leaf (inc (tS i)))) (.leaf (tS i)))))
def defP (m : Nat) : Option DT :=
  bif Nat.blt m 200 then none else bif Nat.blt m 252 then
    (match (m - 200) % 2 with
    | 0 => some (dTB ((m - 200) / 2))
    | _ => some (dTS ((m - 200) / 2)))
  else bif Nat.beq m 930 then some (dFin tB 24) else bif Nat.beq m 931 then some (dFin tS 24) else none

noncomputable def cxP (g : Nat → List Int → Int) : Cx := cxW tP g defP noRows
def argsP : List V := [strC yO yN, .a (.c (.sy .u8 (vE 4))), .a (.agg [syC yB, syC yS])]
def isTrueP (v : V) (_ : St) : Bool := isTrue v
noncomputable def runP (g : Nat → List Int → Int) (ann : Ann) (l0 : Asg) : Bool :=
  paths 60 l0 (askCall (cxP g) ann noTails 100 0 4 argsP ⟨.nil, 0⟩) fun l => callG (withT (cxP g) l) (runL (cxP g) ann 100 noTails l) 0 4 argsP ⟨.nil, 0⟩ isTrueP

def aE (k : Nat) (o n : E) : E := appE k [yB, yS, o, n]
def uB : E := aE 20 yO yN
def uS : E := aE 21 yO yN
def uI : E := aE 22 yO yN
def uE : E := aE 23 yO yN
def bE (e : E) : E := appE 1000 [.add yO e]
end Go.Proofs.Tryz
