/- On the season seat's program: how SeasonMonoid is run: its context, its loop's heads, its tail. On the season seat's program: SeasonMonoid's run, in parts. -/
import Derived.Test.YtbfonnoebbjenaaGreatDoorAmM2
namespace Go.Proofs.Tryz
open Go Go.Am
set_option maxRecDepth 100000

/-- the list that a consE is -/
def unE : E → Option (List E)
  | .nil => some []
  | .pair a b => (unE b).map (a :: ·)
  | _ => none

def isLit (n : Int) : C → Bool
  | .sc (.int .i64 m) => decide (m = n)
  | _ => false

/-- the list whose streak the cells are -/
def asStk : List C → Option (List E)
  | [.sy .i64 (.app 0 a), .sy .i64 (.app 1 b), .sy .i64 (.app 2 c), .sy .i64 (.app 3 d)] => bif a.same b && a.same c && a.same d then unE a else none
  | [a, b, c, d] => bif isLit 0 a && isLit 0 b && isLit 0 c && isLit 0 d then some [] else bif isLit 1 a && isLit 1 b && isLit 1 c && isLit 1 d then some [L 1] else none
  | _ => none

def pJoin (_ : Nat) (args : List V) (st : St) : Option (V × St) :=
  match args with
  | [.a (.agg a), .a (.agg b)] => (match asStk a, asStk b with
    | some p, some q => bif Nat.ble (p.length + q.length) 100 then some (.tup [appA (p ++ q), .c (iC 0)], st) else none
    | _, _ => none)
  | _ => none

def pStreakM (fl : Nat) (args : List V) (st : St) : Option (V × St) :=
  match args with
  | [.a (.c (.sc (.slice none 0 _)))] => some (.tup [appA [], .c (iC 0)], st)
  | args => pStreak fl args st

noncomputable def primM (f : FuncId) : Option (Nat → List V → St → Option (V × St)) :=
  bif Nat.beq f 15 then some pAwake else bif Nat.beq f 39 then some pStreakM else bif Nat.beq f 40 then some pJoin else bif Nat.beq f 44 then some pCheck else cx.prim f

def dtR (i : Nat) : Nat → Nat → DT
  | 0, r => .leaf (.max (.var (500 + i)) (L r))
  | f + 1, r => .node (.eq (.var (i + r)) (L 0)) (.leaf (.max (.var (500 + i)) (L r))) (dtR i f (r + 1))
def defM (n : Nat) (m : Nat) : Option DT :=
  bif Nat.beq m 500 then some (.leaf (L 0)) else bif Nat.blt 500 m && Nat.blt m 514 then some (dtR (m - 501) (n - (m - 501)) 0) else none

noncomputable def cxM (n : Nat) : Cx := cxW primM fnsF (defM n) (rowS n)

def esM (n : Nat) : List E := (List.range n).map fun j => .var j
def appE (j : Nat) (es : List E) : E := .app j (consE es)
def cellsS (es : List E) : List C := [sC (appE 0 es), sC (appE 1 es), sC (appE 2 es), sC (appE 3 es)]

def remA (n : Nat) : E := .rem (.wrap .i64 (.var 600)) (L (n + 1))
def remB (n i : Nat) : E := .rem (.wrap .i64 (.var 601)) (L (n + 1 - i))
/-- what the tail needs -/
def factsT (n : Nat) : Asg :=
  let es := esM n
  let rv := es.reverse
  let mo := es ++ [L 1]
  [(.eq (appE 0 rv) (appE 0 es), true), (.eq (appE 1 rv) (appE 2 es), true), (.eq (appE 2 rv) (appE 1 es), true), (.eq (appE 3 rv) (appE 3 es), true),
   (.eq (appE 0 mo) (L (n + 1)), true), (.eq (appE 2 mo) (pE (appE 2 es) (L 1)), true), (.eq (appE 3 mo) (.max (appE 3 es) (pE (appE 2 es) (L 1))), true),
   (.eq (.app 20 (consE [appE 0 es, appE 1 es, appE 2 es, appE 3 es])) (L 0), true), (.eq (appE 3 es) (.var (500 + n)), true)]
def asgM (n i m : Nat) : Asg := (.eq (remA n) (L i), true) :: (.eq (remB n i) (L m), true) :: factsT n

def b2n (b : Bool) : Nat := bif b then 1 else 0
def id9 (n : Nat) : Nat := 2 + 2 * n + b2n (Nat.blt 0 n)
def id17 (n s : Nat) : Nat := id9 n + 7 + s
def heapM (n s : Nat) : T O :=
  mkT [(id9 n, .cells (cellsS (esM n)) 73 false), (id9 n + 1, .cells (cellsS (esM n).reverse) 73 false), (id17 n s + 3, .cells (cellsS (esM n)) 73 false), (id17 n s + 4, .cells (cellsS (esM n)) 73 false),
    (id17 n s + 5, .cells (cellsS (esM n)) 73 false), (id17 n s + 6, .cells (cellsS (esM n ++ [L 1])) 73 false)]
def tmpsM (x : C) (n s : Nat) : List (Nat × V) :=
  [(0, .a (.c x)), (9, .a (.c (.ptr (id9 n) 0))), (11, .a (.c (.ptr (id9 n + 1) 0))), (23, .a (.c (.ptr (id17 n s + 3) 0))), (25, .a (.c (.ptr (id17 n s + 4) 0))), (27, .a (.c (.ptr (id17 n s + 5) 0))), (29, .a (.c (.ptr (id17 n s + 6) 0)))]
def headM (x : C) (n s i : Nat) : Fr × St := (⟨281, mkT (tmpsM x n s ++ [(31, .a (.c (sC (.var (500 + i))))), (193, .a (.c (iC n))), (194, .a (.c (iC i)))])⟩, ⟨heapM n s, 100⟩)
def annM (x : C) (n s : Nat) : Ann := fun g r => bif Nat.beq g 7 && Nat.beq r 25 then some ⟨n + 1, headM x n s⟩ else none
def tailM (x : C) (n s : Nat) : Tails := fun g r => bif Nat.beq g 7 && Nat.beq r 23 then [(⟨281, mkT (tmpsM x n s)⟩, ⟨heapM n s, 100⟩, factsT n)] else []

def argsM (x : C) : List V := [.a (.c x), .a (.agg [.sy .u8 (.var 600), .sy .u8 (.var 601)])]
def isTrueM : V → Bool
  | .a (.c (.sc (.bool true))) => true
  | _ => false
noncomputable def runM (x : C) (n s i m : Nat) : Bool := callF (withT (cxM n) (asgM n i m)) (runA (cxM n) (annM x n s) 100 (tailM x n s) (asgM n i m)) 0 7 (argsM x) ⟨.nil, 0⟩ fun v _ => isTrueM v
def sOf (n i m : Nat) : Nat := b2n (Nat.blt 0 i) + b2n (Nat.blt 0 m) + b2n (Nat.blt (i + m) n)
noncomputable def runMn (x : C) (n s : Nat) : Bool := (nats (n + 1)).all fun i => (nats (n + 1 - i)).all fun m => bif Nat.beq (sOf n i m) s then runM x n s i m else true
end Go.Proofs.Tryz

namespace Go.Proofs.Tryz
open Go Go.Am
noncomputable def runC (n s lo hi : Nat) : Bool := (nats hi).all fun i => bif Nat.ble lo i then (nats (n + 1 - i)).all (fun m => bif Nat.beq (sOf n i m) s then runM (.osl 0 0 n) n s i m else true) else true

theorem sOf_val (n i m : Nat) : sOf n i m = (if 0 < i then 1 else 0) + (if 0 < m then 1 else 0) + (if i + m < n then 1 else 0) := by
  have h : ∀ a b : Nat, b2n (Nat.blt a b) = if a < b then 1 else 0 := fun a b => by
    by_cases hq : a < b
    · have : Nat.blt a b = true := by simp [Nat.blt, Nat.ble_eq]; omega
      rw [this, if_pos hq]; rfl
    · have : Nat.blt a b = false := by
        cases hb : Nat.blt a b with
        | false => rfl
        | true => simp [Nat.blt, Nat.ble_eq] at hb; omega
      rw [this, if_neg hq]; rfl
  simp only [sOf, h]
end Go.Proofs.Tryz
