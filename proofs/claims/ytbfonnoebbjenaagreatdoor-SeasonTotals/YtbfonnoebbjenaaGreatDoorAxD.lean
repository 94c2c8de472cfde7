/- Plain: what the checks of games and books answer. -/
import Derived.Test.YtbfonnoebbjenaaGreatDoorAxC
namespace Go.Proofs.Tryz
open Go Go.Am Go.RowKit Go.Op
set_option maxRecDepth 100000

def nmE (l : List UInt8) : Int := if isNm l = true then 0 else 8
def inE (n lo hi : Int) : Int := if n < lo ∨ hi < n then 3 else 0
/-- The counts from the place i on. -/
def cntE (c : Nat → Int) : Nat → Nat → Int
  | _, 0 => 0
  | i, k + 1 => if inE (c i) 0 999 = 0 then cntE c (i + 1) k else inE (c i) 0 999
/-- A line by itself. -/
def lineE (t0 t1 : List UInt8) (x : LnD) : Int := if isNm x.p = true then (if x.t ≠ t0 ∧ x.t ≠ t1 then 10 else cntE x.c 0 12) else 8
/-- A line that doesn't come behind the one ahead of it. -/
def lateB (l : Nat → LnD) (i : Nat) : Bool := decide (0 < i) && (bytesLess (l i).p (l (i - 1)).p || (l i).p == (l (i - 1)).p)
/-- The lines from the place i on. -/
def linesE (t0 t1 : List UInt8) (l : Nat → LnD) : Nat → Nat → Int
  | _, 0 => 0
  | i, k + 1 => if lineE t0 t1 (l i) = 0 then (if lateB l i = true then 11 else linesE t0 t1 l (i + 1) k) else lineE t0 t1 (l i)
/-- The first error of a list. -/
def fstE : List Int → Int
  | [] => 0
  | e :: r => if e = 0 then fstE r else e
def headL (g : GmD) : List Int := [nmE g.nm, inE g.ver 1 999999999, inE g.day 0 99999, nmE g.t0, nmE g.t1, if g.t0 = g.t1 then 9 else 0, inE g.s0 0 999, inE g.s1 0 999, if 60 < g.k then 5 else 0]
/-- What CheckGame answers. -/
def gmE (g : GmD) : Int := if fstE (headL g) = 0 then linesE g.t0 g.t1 g.l 0 g.k else fstE (headL g)
/-- A game comes before another one. -/
def befB (a b : GmD) : Bool := decide (a.day < b.day) || (decide (a.day = b.day) && bytesLess a.nm b.nm)
/-- A game with the name is among the first ones. -/
def seenB (g : Nat → GmD) (nm : List UInt8) : Nat → Bool
  | 0 => false
  | i + 1 => seenB g nm i || ((g i).nm == nm)
/-- The games from the place i on. -/
def bookK (g : Nat → GmD) : Nat → Nat → Int
  | _, 0 => 0
  | i, k + 1 => if gmE (g i) = 0 then (if seenB g (g i).nm i = true then 9 else if 0 < i ∧ befB (g (i - 1)) (g i) = false then 11 else bookK g (i + 1) k) else gmE (g i)
/-- What CheckBook answers. -/
def bookE (g : Nat → GmD) (n : Nat) : Int := if 64 < n then 5 else bookK g 0 n
end Go.Proofs.Tryz
