/- On the season seat's program: StreakOf, and the reference's, round by round. -/
import Derived.Test.YtbfonnoebbjenaaGreatDoorAmL1
import Derived.Test.YtbfonnoebbjenaaGreatDoorAmStk
namespace Go.Proofs.Tryz
open Go Go.Am
set_option maxRecDepth 100000

/-- the symbols: a truth value; the program's numbers after i rounds; the reference's -/
def pV (i j : Nat) : E := .var (100 + 4 * i + j)
def rV (i j : Nat) : E := .var (200 + 4 * i + j)
def onB (i : Nat) (t f : DT) : DT := .node (.eq (.var i) (L 0)) f t

def defP : Nat → Nat → DT
  | 0, _ => .leaf (L 0)
  | i + 1, 0 => .leaf (pE (pV i 0) (L 1))
  | i + 1, 1 => onB i (.node (.eq (pV i 1) (pV i 0)) (.leaf (pE (pV i 0) (L 1))) (.leaf (pV i 1))) (.node (.eq (pV i 1) (pV i 0)) (.leaf (pE (pV i 0) (L 0))) (.leaf (pV i 1)))
  | i + 1, 2 => onB i (.leaf (pE (L 1) (pV i 2))) (.leaf (L 0))
  | i + 1, _ => onB i (.leaf (.max (.max (pV i 3) (L 1)) (pE (pV i 2) (L 1)))) (.leaf (.max (.max (pV i 3) (L 0)) (pE (pV i 2) (L 0))))

def defR : Nat → Nat → DT
  | 0, _ => .leaf (L 0)
  | i + 1, 0 => onB i (.leaf (pE (rV i 0) (L 1))) (.leaf (L 0))
  | i + 1, 1 => onB i (.node (.eq (pE (rV i 0) (L 1)) (L (i + 1))) (.leaf (pE (rV i 0) (L 1))) (.leaf (rV i 1))) (.leaf (rV i 1))
  | i + 1, 2 => onB i (.leaf (.max (rV i 2) (pE (rV i 0) (L 1)))) (.leaf (.max (rV i 2) (L 0)))
  | _ + 1, _ => .leaf (L 0)

def defS (m : Nat) : Option DT :=
  bif Nat.blt m 100 then none else bif Nat.blt m 200 then some (defP ((m - 100) / 4) ((m - 100) % 4)) else bif Nat.blt m 300 then some (defR ((m - 200) / 4) ((m - 200) % 4)) else none

def bitsC (n : Nat) : List C := (List.range n).map fun j => .sb (.var j)
def rowS (n : Nat) : Nat → Option (List C) := fun k => bif Nat.beq k 0 then some (bitsC n) else none

def iC (n : Nat) : C := .sc (.int .i64 n)
def sC (e : E) : C := .sy .i64 e
def mkT {α : Type} : List (Nat × α) → T α
  | [] => .nil
  | (n, x) :: l => (mkT l).set n (some x)
def zero4 : List C := [iC 0, iC 0, iC 0, iC 0]

def headP (n i : Nat) : Fr × St :=
  (⟨21, mkT [(2, .a (.c (.ptr 1 0))), (3, .a (.c (.ptr 2 0))), (7, .a (.c (.osl 0 0 n))), (8, .a (.c (iC n))), (9, .a (.c (iC i)))]⟩,
   ⟨mkT [(0, .cells zero4 73 false), (1, .cells zero4 73 false), (2, .cells [sC (pV i 0), sC (pV i 1), sC (pV i 2), sC (pV i 3)] 73 false)], 3 + 5 * i⟩)
def annP (n : Nat) : Ann := fun g r => bif Nat.beq g 111 && Nat.beq r 3 then some ⟨n + 1, headP n⟩ else none

def headR (n i : Nat) : Fr × St :=
  (⟨35, mkT [(0, .a (.c (.osl 0 0 n))), (2, .a (.c (.ptr 0 0))), (3, .a (.c (.ptr 1 0))), (4, .a (.c (sC (rV i 0)))), (5, .a (.c (iC i)))]⟩,
   ⟨mkT [(0, .cells zero4 72 false), (1, .cells [iC n, sC (rV i 1), iC 0, sC (rV i 2)] 72 false)], 2⟩)
def annR (n : Nat) : Ann := fun g r => bif Nat.beq g 41 && Nat.beq r 4 then some ⟨n + 1, headR n⟩ else none

noncomputable def cxS (n : Nat) : Cx := cxW cx.prim (fun _ _ => 0) defS (rowS n)
def resP (n : Nat) : V := .tup [.agg [sC (pV n 0), sC (pV n 1), sC (pV n 2), sC (pV n 3)], .c (iC 0)]
def resR (n : Nat) : V := .a (.agg [iC n, sC (rV n 1), sC (rV n 0), sC (rV n 2)])

noncomputable def runP (n : Nat) : Bool :=
  paths 5 [] (askCall (cxS n) (annP n) noTails 100 0 39 [.a (.c (.osl 0 0 n))] ⟨.nil, 0⟩) fun l => callF (withT (cxS n) l) (runA (cxS n) (annP n) 100 noTails l) 0 39 [.a (.c (.osl 0 0 n))] ⟨.nil, 0⟩ fun v _ => eqVv v (resP n)
noncomputable def runR (n : Nat) : Bool :=
  paths 5 [] (askCall (cxS n) (annR n) noTails 100 0 41 [.a (.c (.osl 0 0 n))] ⟨.nil, 0⟩) fun l => callF (withT (cxS n) l) (runA (cxS n) (annR n) 100 noTails l) 0 41 [.a (.c (.osl 0 0 n))] ⟨.nil, 0⟩ fun v _ => eqVv v (resR n)
end Go.Proofs.Tryz
