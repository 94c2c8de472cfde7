/- The abstract machine: definitions. An evaluator of the model's code over a heap of the call's own blocks, in which the tape's answers (an array's capacity, a region's order, a map's order) are not seen. -/
import Derived.Calls
import Derived.Orders
namespace Go.Am

/-- What symbols stand for. -/
structure Env where
  v : Nat → Int
  f : Nat → List Int → Int
  out : Nat → Nat × Nat
  mem : Nat → Nat → Option Value

/-- A term over symbols. -/
inductive E where
  | var (n : Nat)
  | lit (i : Int)
  | add (a b : E)
  | sub (a b : E)
  | mul (a b : E)
  | quo (a b : E)
  | rem (a b : E)
  | max (a b : E)
  | min (a b : E)
  | wrap (k : IntKind) (a : E)
  | app (f : Nat) (a : E)
  | pair (a b : E)
  | nil
  deriving Inhabited

namespace E
def vals (ρ : Env) : E → List Int
  | .var n => [ρ.v n]
  | .lit i => [i]
  | .add a b => [(a.vals ρ).headD 0 + (b.vals ρ).headD 0]
  | .sub a b => [(a.vals ρ).headD 0 - (b.vals ρ).headD 0]
  | .mul a b => [(a.vals ρ).headD 0 * (b.vals ρ).headD 0]
  | .quo a b => [((a.vals ρ).headD 0).tdiv ((b.vals ρ).headD 0)]
  | .rem a b => [((a.vals ρ).headD 0).tmod ((b.vals ρ).headD 0)]
  | .max a b => [if (b.vals ρ).headD 0 > (a.vals ρ).headD 0 then (b.vals ρ).headD 0 else (a.vals ρ).headD 0]
  | .min a b => [if (b.vals ρ).headD 0 < (a.vals ρ).headD 0 then (b.vals ρ).headD 0 else (a.vals ρ).headD 0]
  | .wrap k a => [k.wrap ((a.vals ρ).headD 0)]
  | .app f a => [ρ.f f (a.vals ρ)]
  | .pair a b => (a.vals ρ).headD 0 :: b.vals ρ
  | .nil => []

def val (ρ : Env) (e : E) : Int := (e.vals ρ).headD 0

def same : E → E → Bool
  | .var n, .var m => Nat.beq n m
  | .lit i, .lit j => decide (i = j)
  | .add a b, .add c d => a.same c && b.same d
  | .sub a b, .sub c d => a.same c && b.same d
  | .mul a b, .mul c d => a.same c && b.same d
  | .quo a b, .quo c d => a.same c && b.same d
  | .rem a b, .rem c d => a.same c && b.same d
  | .max a b, .max c d => a.same c && b.same d
  | .min a b, .min c d => a.same c && b.same d
  | .wrap k a, .wrap l b => decide (k = l) && a.same b
  | .app f a, .app g b => Nat.beq f g && a.same b
  | .pair a b, .pair c d => a.same c && b.same d
  | .nil, .nil => true
  | _, _ => false
end E

/-- A comparison of terms. -/
inductive Tst where
  | le (a b : E)
  | eq (a b : E)
  deriving Inhabited

def Tst.holds (ρ : Env) : Tst → Bool
  | .le a b => decide (a.val ρ ≤ b.val ρ)
  | .eq a b => a.val ρ == b.val ρ

/-- A term by cases. -/
inductive DT where
  | leaf (e : E)
  | node (t : Tst) (a b : DT)

def DT.eval (ρ : Env) : DT → Int
  | .leaf e => e.val ρ
  | .node t a b => bif t.holds ρ then a.eval ρ else b.eval ρ

/-- A cell: a value that is the same in the real run, a symbol's value, or a reference into the call's own blocks. -/
inductive C where
  | sc (v : Value)
  | sy (k : IntKind) (e : E)
  | sb (e : E)
  | slx (e : E)
  | stx (e : E)
  | osl (k off len : Nat)
  | optr (k off : Nat)
  | ptr (id off : Nat)
  | sl (id off len cap : Nat) (flex : Bool)
  | mp (id : Nat)
  | fn (f : FuncId) (caps : List Nat)
  | unk
  deriving Inhabited

inductive A where
  | c (x : C)
  | agg (l : List C)
  deriving Inhabited

inductive V where
  | a (x : A)
  | tup (l : List A)
  deriving Inhabited

/-- A tree of numbers. -/
inductive T (α : Type) where
  | nil
  | node (v : Option α) (l r : T α)

namespace T
variable {α : Type}
def get : T α → Nat → Option α
  | .nil, _ => none
  | .node v l r, n => bif Nat.beq n 0 then v else bif Nat.beq (n % 2) 1 then l.get (n / 2) else r.get (n / 2 - 1)

def put : Nat → T α → Nat → Option α → T α
  | 0, t, _, _ => t
  | f + 1, .nil, n, o => bif Nat.beq n 0 then .node o .nil .nil else bif Nat.beq (n % 2) 1 then .node none (put f .nil (n / 2) o) .nil else .node none .nil (put f .nil (n / 2 - 1) o)
  | f + 1, .node v l r, n, o => bif Nat.beq n 0 then .node o l r else bif Nat.beq (n % 2) 1 then .node v (put f l (n / 2) o) r else .node v l (put f r (n / 2 - 1) o)

def set (t : T α) (n : Nat) (o : Option α) : T α := put (n + 1) t n o
end T

inductive O where
  | cells (l : List C) (elem : TypeId) (flex : Bool)
  | map (es : List (C × A × Nat)) (clock : Nat)
  | sit (s : ByteArray) (pos : Nat)
  | mit (m : Option Nat) (since : Nat) (seen : List Nat) (stepped : Nat)
  deriving Inhabited

structure St where
  heap : T O
  next : Nat

structure Fr where
  n : Nat
  t : T V

/-- What is kept of a type. -/
structure Ty where
  under : TypeDesc
  size : Nat
  bytes : Nat
  zero : List Value

inductive Step where
  | p (i : Nat)
  | r (i : Nat) (as : List Nat)
  | a (i : Nat)
  | q (i : Nat) (as : List Nat)
  | w (i : Nat)

structure Cx where
  fn : Nat → Option Func
  ty : Nat → Option Ty
  base : Nat → Nat → Option Value
  plan : FuncId → Nat → Option (List Step)
  eqT : TypeId → Bool
  prim : FuncId → Option (Nat → List V → St → Option (V × St))
  known : List (Tst × Bool)
  fns : Nat → List Int → Int
  defs : Nat → Option DT
  outer : Nat → Option (List C)

abbrev Asg := List (Tst × Bool)

/-- The bounds of a term that a fact gives. -/
def bnd : Tst → Bool → Option (E × Option Int × Option Int)
  | .le (.lit j) y, true => some (y, some j, none)
  | .le (.lit j) y, false => some (y, none, some (j - 1))
  | .le y (.lit j), true => some (y, none, some j)
  | .le y (.lit j), false => some (y, some (j + 1), none)
  | .eq y (.lit j), true => some (y, some j, some j)
  | .eq (.lit j) y, true => some (y, some j, some j)
  | _, _ => none

def geO : Option Int → Int → Bool
  | some l, i => decide (i ≤ l)
  | none, _ => false
def gtO : Option Int → Int → Bool
  | some l, i => decide (i < l)
  | none, _ => false
def leO : Option Int → Int → Bool
  | some l, i => decide (l ≤ i)
  | none, _ => false
def ltO : Option Int → Int → Bool
  | some l, i => decide (l < i)
  | none, _ => false

def byBnd (y : E) (lo hi : Option Int) : Tst → Option Bool
  | .le (.lit i) x => bif y.same x then (bif geO lo i then some true else bif ltO hi i then some false else none) else none
  | .le x (.lit i) => bif y.same x then (bif leO hi i then some true else bif gtO lo i then some false else none) else none
  | .eq x (.lit i) => bif y.same x && (ltO hi i || gtO lo i) then some false else none
  | .eq (.lit i) x => bif y.same x && (ltO hi i || gtO lo i) then some false else none
  | _ => none

/-- What a fact says of a comparison of the same terms. -/
def bySame : Tst → Bool → Tst → Option Bool
  | .le c d, v, .le a b => bif a.same c && b.same d then some v else bif !v && (a.same d && b.same c) then some true else none
  | .le c d, v, .eq a b => bif !v && ((a.same c && b.same d) || (a.same d && b.same c)) then some false else none
  | .eq c d, v, .eq a b => bif (a.same c && b.same d) || (a.same d && b.same c) then some v else none
  | .eq c d, v, .le a b => bif v && ((a.same c && b.same d) || (a.same d && b.same c)) then some true else none

def infer (f : Tst) (v : Bool) (t : Tst) : Option Bool :=
  match bySame f v t with
  | some b => some b
  | none => match bnd f v with
    | some (y, lo, hi) => byBnd y lo hi t
    | none => none

def lookA : Asg → Tst → Option Bool
  | [], _ => none
  | (f, v) :: l, t => match infer f v t with
    | some b => some b
    | none => lookA l t

/-- What is known of a comparison. -/
def ask (cx : Cx) : Tst → Option Bool
  | .le (.lit i) (.lit j) => some (decide (i ≤ j))
  | .eq (.lit i) (.lit j) => some (decide (i = j))
  | .le a b => bif a.same b then some true else lookA cx.known (.le a b)
  | .eq a b => bif a.same b then some true else lookA cx.known (.eq a b)

/-- A truth value that stands behind a symbol, told. -/
def resB (cx : Cx) : V → Option V
  | .a (.c (.sb e)) => (ask cx (.eq e (.lit 0))).map fun b => .a (.c (.sc (.bool (!b))))
  | v => some v

/-- An integer as a term. -/
def toE : C → Option (IntKind × E)
  | .sc (.int k n) => some (k, .lit n)
  | .sy k e => some (k, e)
  | _ => none

/-- Two integers, not both plain. -/
def symE : C → C → Option (IntKind × E × IntKind × E)
  | .sc (.int k n), .sy k' e => some (k, .lit n, k', e)
  | .sy k e, .sc (.int k' n) => some (k, e, k', .lit n)
  | .sy k e, .sy k' e' => some (k, e, k', e')
  | _, _ => none

def symV : V → V → Option (IntKind × E × IntKind × E)
  | .a (.c x), .a (.c y) => symE x y
  | _, _ => none

def scal : Value → Bool
  | .agg _ => false
  | .tuple _ => false
  | _ => true

def isAggT : TypeDesc → Bool
  | .struct _ => true
  | .array _ _ => true
  | _ => false

def isAggV : Value → Bool
  | .agg _ => true
  | _ => false

/-- What is kept of a type of a program. -/
def tyOf (P : Program) (t : TypeId) : Option Ty :=
  match P.info? t, P.underlying t with
  | some i, some u => match i.zero with
    | some z => bif Nat.beq z.cells.toList.length i.size && z.cells.toList.all scal && (bif isAggT u then isAggV z else scal z) then some ⟨u, i.size, i.bytes, z.cells.toList⟩ else none
    | none => none
  | _, _ => none

def Fr.get (fr : Fr) (t : Nat) : Option V := fr.t.get t
def Fr.put (fr : Fr) (d : Option Tmp) (v : V) : Option Fr :=
  match d with
  | none => some fr
  | some d => bif Nat.blt d fr.n then some ⟨fr.n, fr.t.set d (some v)⟩ else none

def sc (v : Value) : V := .a (.c (.sc v))
def vint (n : Int) : V := sc (.int .i64 n)

def ev (fr : Fr) : Operand → Option V
  | .tmp t => fr.get t
  | .const v => bif scal v then some (sc v) else none
  | .global g => some (sc (.pointer (some ⟨g, 0, none⟩)))
  | .func f => some (.a (.c (.fn f [])))

def cellsOf : V → Option (List C)
  | .a (.c (.sc v)) => bif scal v then some [.sc v] else none
  | .a (.c x) => some [x]
  | .a (.agg l) => some l
  | .tup _ => none

/-- cells put together as a value of a type -/
def pack (ty : Ty) (l : List C) : Option V :=
  bif isAggT ty.under then some (.a (.agg l)) else match l with | [x] => some (.a (.c x)) | _ => none

def St.get (st : St) (id : Nat) : Option O := st.heap.get id
def St.put (st : St) (id : Nat) (o : Option O) : St := ⟨st.heap.set id o, st.next⟩
def St.new (st : St) (o : O) : St := ⟨st.heap.set st.next (some o), st.next + 1⟩

def sub (l : List C) (off n : Nat) : Option (List C) :=
  let r := (l.drop off).take n
  bif Nat.beq r.length n then some r else none

def splice (l : List C) (off : Nat) (new : List C) : Option (List C) :=
  bif Nat.ble (off + new.length) l.length then some (l.take off ++ (new ++ l.drop (off + new.length))) else none

def baseCells (cx : Cx) (b : Nat) : Nat → Nat → Option (List C)
  | _, 0 => some []
  | off, n + 1 => match cx.base b off with
    | some v => bif scal v then (baseCells cx b (off + 1) n).map (C.sc v :: ·) else none
    | none => none

/-- n cells from a place -/
def loadN (cx : Cx) (st : St) (a : C) (n : Nat) : Option (List C) :=
  match a with
  | .ptr id off => match st.get id with
    | some (.cells l _ _) => sub l off n
    | _ => none
  | .sc (.pointer (some ⟨b, off, none⟩)) => baseCells cx b off n
  | .optr k off => (match cx.outer k with
    | some l => sub l off n
    | none => none)
  | _ => none

def storeN (fl : Nat) (st : St) (a : C) (new : List C) : Option St :=
  match a with
  | .ptr id off => bif Nat.ble fl id then (match st.get id with
    | some (.cells l e fx) => match splice l off new with
      | some l' => some (st.put id (some (.cells l' e fx)))
      | none => none
    | _ => none) else none
  | _ => none

def toC : V → Option C
  | .a (.c x) => some x
  | _ => none

def toInt : V → Option Int
  | .a (.c (.sc (.int _ n))) => some n
  | _ => none

def toBool : V → Option Bool
  | .a (.c (.sc (.bool b))) => some b
  | _ => none

/-- the place 'n' cells behind a place -/
def behind (a : C) (n : Nat) : Option C :=
  match a with
  | .ptr id off => some (.ptr id (off + n))
  | .sc (.pointer (some ⟨b, off, none⟩)) => some (.sc (.pointer (some ⟨b, off + n, none⟩)))
  | .optr k off => some (.optr k (off + n))
  | _ => none

/-- A slice's cells: where, how many elements, the capacity. -/
def sliceOf : V → Option (Option C × Nat × Nat × Bool)
  | .a (.c (.sl id off len cap fx)) => some (some (.ptr id off), len, cap, fx)
  | .a (.c (.sc (.slice none len cap))) => some (none, len, cap, false)
  | .a (.c (.sc (.slice (some ⟨b, off, none⟩) len cap))) => some (some (.sc (.pointer (some ⟨b, off, none⟩))), len, cap, false)
  | _ => none

/-- A slice's cells, to be read: where, and how many elements. -/
def sliceRd : V → Option (Option C × Nat)
  | .a (.c (.osl k off len)) => some (some (.optr k off), len)
  | x => (sliceOf x).map fun (a, n, _, _) => (a, n)

def mkSlice (a : Option C) (len cap : Nat) (fx : Bool) : Option V :=
  match a with
  | none => some (sc (.slice none len cap))
  | some (.ptr id off) => some (.a (.c (.sl id off len cap fx)))
  | some (.sc (.pointer (some a))) => some (sc (.slice (some a) len cap))
  | _ => none

def fillC (place : Nat → Option (Nat × Nat)) (cells : List C) : List (Nat × V) → Option (List C)
  | [] => some cells
  | (i, v) :: rest => match place i, cellsOf v with
    | some (off, size), some cs =>
      bif Nat.beq cs.length size then (match splice cells off cs with
        | some cells' => fillC place cells' rest
        | none => none) else none
    | _, _ => none

def evParts (fr : Fr) : List (Nat × Operand) → Option (List (Nat × V))
  | [] => some []
  | (i, x) :: rest => match ev fr x, evParts fr rest with
    | some v, some r => some ((i, v) :: r)
    | _, _ => none

def evArgs (fr : Fr) : List Operand → Option (List V)
  | [] => some []
  | x :: rest => match ev fr x, evArgs fr rest with
    | some v, some r => some (v :: r)
    | _, _ => none

def zeroC (ty : Ty) : List C := ty.zero.map C.sc
def rep (n : Nat) (l : List C) : List C := match n with | 0 => [] | n + 1 => l ++ rep n l

/-- A run that asks the program alone. -/
def pureSem {α : Type} (p : Program) : Nat → Sem α → Option α
  | _, .pure a => some a
  | n + 1, .program k => pureSem p n (k p)
  | _, _ => none

inductive R where
  | val (v : V) (st : St)
  | skip (st : St)
  | call (f : FuncId) (args : List V)
  | any (l : List (V × St))
  | fail

def R.ofV (st : St) : Option V → R
  | some v => .val v st
  | none => .fail
def R.ofVS : Option (V × St) → R
  | some (v, st) => .val v st
  | none => .fail
def R.ofS : Option St → R
  | some st => .skip st
  | none => .fail

def refIsNil : TypeDesc → C → Option Bool
  | .pointer _, .sc (.pointer a) => some a.isNone
  | .pointer _, .ptr _ _ => some false
  | .slice _, .sc (.slice a _ _) => some a.isNone
  | .slice _, .sl _ _ _ _ _ => some false
  | .map _ _, .sc (.map a) => some a.isNone
  | .map _ _, .mp _ => some false
  | .func _ _ _, .sc .nilFunc => some true
  | .func _ _ _, .fn _ _ => some false
  | _, _ => none

/-- '==' where one side is nil -/
def nilCmp (d : TypeDesc) (x y : C) : Option Bool :=
  match refIsNil d x, refIsNil d y with
  | some true, some b => some b
  | some b, some true => some b
  | _, _ => none

def partA (cx : Cx) (t : TypeId) (l : List C) (off : Nat) : Option A :=
  match cx.ty t with
  | some ty => match (sub l off ty.size).bind (pack ty) with
    | some (.a x) => some x
    | _ => none
  | none => none

def eqFs (cx : Cx) (E : TypeId → A → A → Option Bool) (xs ys : List C) : List Field → Option Bool
  | [] => some true
  | f :: fs => match partA cx f.type xs f.offset, partA cx f.type ys f.offset with
    | some a, some b => match E f.type a b with
      | some true => eqFs cx E xs ys fs
      | some false => some false
      | none => none
    | _, _ => none

def eqArr (cx : Cx) (E : TypeId → A → A → Option Bool) (xs ys : List C) (e : TypeId) (size : Nat) : Nat → Nat → Option Bool
  | 0, _ => some true
  | n + 1, i => match partA cx e xs (i * size), partA cx e ys (i * size) with
    | some a, some b => match E e a b with
      | some true => eqArr cx E xs ys e size n (i + 1)
      | some false => some false
      | none => none
    | _, _ => none

/-- '==' at a type whose parts are bools, integers, strings -/
def eqA (cx : Cx) : Nat → TypeId → A → A → Option Bool
  | 0, _, _, _ => none
  | d + 1, t, x, y => match cx.ty t with
    | some ty => (match ty.under, x, y with
      | .bool, .c (.sc (.bool a)), .c (.sc (.bool b)) => some (a == b)
      | .int _, .c (.sc (.int k a)), .c (.sc (.int k' b)) => bif decide (k = k') then some (a == b) else none
      | .string, .c (.sc (.string a)), .c (.sc (.string b)) => some (a.toList == b.toList)
      | .int _, .c a, .c b => (match symE a b with
        | some (k, a, k', b) => bif decide (k = k') then ask cx (.eq a b) else none
        | none => none)
      | .struct fs, .agg xs, .agg ys => bif cx.eqT t then eqFs cx (eqA cx d) xs ys fs.toList else none
      | .array n e, .agg xs, .agg ys => match cx.ty e with
        | some ety => eqArr cx (eqA cx d) xs ys e ety.size n 0
        | none => none
      | _, _, _ => none)
    | none => none

/-- a pointer's type whose element has a size -/
def elemOk (cx : Cx) (t : TypeId) : Bool :=
  match cx.ty t with
  | some ty => (match ty.under with
    | .pointer e => match cx.ty e with
      | some ety => !(Nat.beq ety.size 0)
      | none => false
    | _ => false)
  | none => false

def syB (b : Option Bool) (neg : Bool) : Option V := b.map fun b => .a (.c (.sc (.bool (bif neg then !b else b))))

/-- Which of the numbers below 'n' a term is. -/
def askIs (cx : Cx) (e : E) : Nat → Nat → Option Nat
  | 0, _ => none
  | n + 1, r => match ask cx (.eq e (.lit r)) with
    | some true => some r
    | some false => askIs cx e n (r + 1)
    | none => none

/-- An operator at terms. -/
def symbin (cx : Cx) (op : BinOp) (k : IntKind) (a : E) (k' : IntKind) (b : E) : Option V :=
  bif decide (k = k') then
    (match op with
    | .add => some (.a (.c (.sy k (.wrap k (.add a b)))))
    | .sub => some (.a (.c (.sy k (.wrap k (.sub a b)))))
    | .mul => some (.a (.c (.sy k (.wrap k (.mul a b)))))
    | .eql => syB (ask cx (.eq a b)) false
    | .neq => syB (ask cx (.eq a b)) true
    | .lss => syB (ask cx (.le b a)) true
    | .leq => syB (ask cx (.le a b)) false
    | .gtr => syB (ask cx (.le a b)) true
    | .geq => syB (ask cx (.le b a)) false
    | .quo => (match ask cx (.eq b (.lit 0)) with
      | some false => some (.a (.c (.sy k (.wrap k (.quo a b)))))
      | _ => none)
    | .rem => (match ask cx (.eq b (.lit 0)) with
      | some false => (match b with
        | .lit (.ofNat n) => bif Nat.ble n 64 then (askIs cx (.rem a b) n 0).map fun r : Nat => V.a (.c (.sc (.int k (Int.ofNat r)))) else some (.a (.c (.sy k (.rem a b))))
        | _ => some (.a (.c (.sy k (.rem a b)))))
      | _ => none)
    | _ => none) else none

def binop0 (cx : Cx) (op : BinOp) (t : TypeId) (x y : V) : Option V :=
  match op, x, y with
  | .shl, .a (.c (.sc (.int k a))), .a (.c (.sc (.int yk b))) => (pureSem default 0 (Op.shift .shl k a yk b)).map sc
  | .shr, .a (.c (.sc (.int k a))), .a (.c (.sc (.int yk b))) => (pureSem default 0 (Op.shift .shr k a yk b)).map sc
  | op, .a (.c (.sc (.int k a))), .a (.c (.sc (.int k' b))) =>
    bif decide (k = k') then
      (match op with
      | .add => some (sc (.int k (k.wrap (a + b))))
      | .sub => some (sc (.int k (k.wrap (a - b))))
      | .mul => some (sc (.int k (k.wrap (a * b))))
      | .eql => some (sc (.bool (a == b)))
      | .neq => some (sc (.bool (a != b)))
      | .lss => some (sc (.bool (a < b)))
      | .leq => some (sc (.bool (a ≤ b)))
      | .gtr => some (sc (.bool (a > b)))
      | .geq => some (sc (.bool (a ≥ b)))
      | .quo => (pureSem default 0 (Op.intDiv .quo k a b)).map sc
      | .rem => (pureSem default 0 (Op.intDiv .rem k a b)).map sc
      | op => (pureSem default 0 (Op.intBits op k a b)).map sc)
    else none
  | op, .a (.c (.sc (.string a))), .a (.c (.sc (.string b))) => (pureSem default 0 (Op.stringOp op a b)).map sc
  | .eql, .a (.c (.sc (.bool a))), .a (.c (.sc (.bool b))) => match cx.ty t with
    | some ty => (match ty.under with | .bool => some (sc (.bool (a == b))) | _ => none)
    | none => none
  | .neq, .a (.c (.sc (.bool a))), .a (.c (.sc (.bool b))) => match cx.ty t with
    | some ty => (match ty.under with | .bool => some (sc (.bool !(a == b))) | _ => none)
    | none => none
  | .eql, .a (.c (.ptr i o)), .a (.c (.ptr j q)) => bif Nat.beq i j && elemOk cx t then some (sc (.bool (Nat.beq o q))) else none
  | .neq, .a (.c (.ptr i o)), .a (.c (.ptr j q)) => bif Nat.beq i j && elemOk cx t then some (sc (.bool !(Nat.beq o q))) else none
  | .eql, .a (.c x), .a (.c y) => match cx.ty t with
    | some ty => (nilCmp ty.under x y).map fun b => sc (.bool b)
    | none => none
  | .neq, .a (.c x), .a (.c y) => match cx.ty t with
    | some ty => (nilCmp ty.under x y).map fun b => sc (.bool !b)
    | none => none
  | .eql, .a (.agg l), .a (.agg m) => bif cx.eqT t then (eqA cx 8 t (.agg l) (.agg m)).map fun b => sc (.bool b) else none
  | .neq, .a (.agg l), .a (.agg m) => bif cx.eqT t then (eqA cx 8 t (.agg l) (.agg m)).map fun b => sc (.bool !b) else none
  | _, _, _ => none

def binop (cx : Cx) (op : BinOp) (t : TypeId) (x y : V) : Option V :=
  match symV x y with
  | some (k, a, k', b) => symbin cx op k a k' b
  | none => binop0 cx op t x y

def keyEq : TypeDesc → Value → C → Option Bool
  | .int _, .int k a, .sc (.int k' b) => bif decide (k = k') then some (a == b) else none
  | .string, .string a, .sc (.string b) => some (a == b)
  | .bool, .bool a, .sc (.bool b) => some (a == b)
  | _, _, _ => none

def findE (kd : TypeDesc) (k : Value) : List (C × A × Nat) → Nat → Option (Option (Nat × A))
  | [], _ => some none
  | (c, v, _) :: es, i => match keyEq kd k c with
    | some true => some (some (i, v))
    | some false => findE kd k es (i + 1)
    | none => none

def mapEs (st : St) : V → Option (List (C × A × Nat) × Nat)
  | .a (.c (.mp id)) => match st.get id with
    | some (.map es clock) => some (es, clock)
    | _ => none
  | .a (.c (.sc (.map none))) => some ([], 0)
  | _ => none

def ofA (x : A) : V := .a x
def toA : V → Option A
  | .a x => some x
  | .tup _ => none

def keyable : TypeDesc → Bool
  | .int _ => true
  | .string => true
  | .bool => true
  | _ => false

def lookup (cx : Cx) (t : TypeId) (m k : V) (ok : Bool) (st : St) : Option V :=
  match cx.ty t with
  | some ty => (match ty.under with
    | .map kt et => match cx.ty kt, cx.ty et, mapEs st m, k with
      | some kty, some ety, some (es, _), .a (.c (.sc kv)) =>
        bif keyable kty.under then (match findE kty.under kv es 0 with
          | some (some (_, v)) => some (bif ok then .tup [v, .c (.sc (.bool true))] else ofA v)
          | some none => match pack ety (zeroC ety) with
            | some (.a z) => some (bif ok then .tup [z, .c (.sc (.bool false))] else .a z)
            | _ => none
          | none => none) else none
      | _, _, _, _ => none
    | _ => none)
  | none => none

def modifyE : List (C × A × Nat) → Nat → C → A → List (C × A × Nat)
  | [], _, _, _ => []
  | (_, _, b) :: es, 0, k, x => (k, x, b) :: es
  | e :: es, i + 1, k, x => e :: modifyE es i k x

def mapUpdate (cx : Cx) (fl : Nat) (t : TypeId) (m k x : V) (st : St) : Option St :=
  match cx.ty t with
  | some ty => (match ty.under with
    | .map kt _ => match cx.ty kt, m, k, toA x with
      | some kty, .a (.c (.mp id)), .a (.c (.sc kv)), some xa =>
        bif keyable kty.under && Nat.ble fl id then (match st.get id with
          | some (.map es clock) => match findE kty.under kv es 0 with
            | some (some (i, _)) => some (st.put id (some (.map (modifyE es i (.sc kv) xa) clock)))
            | some none => some (st.put id (some (.map (es ++ [(.sc kv, xa, clock)]) (clock + 1))))
            | none => none
          | _ => none) else none
      | _, _, _, _ => none
    | _ => none)
  | none => none

def eraseE : List (C × A × Nat) → Nat → List (C × A × Nat)
  | [], _ => []
  | _ :: es, 0 => es
  | e :: es, i + 1 => e :: eraseE es i

def mapDelete (cx : Cx) (fl : Nat) (t : TypeId) (m k : V) (st : St) : Option St :=
  match cx.ty t with
  | some ty => (match ty.under with
    | .map kt _ => match cx.ty kt, m, k with
      | some kty, .a (.c (.mp id)), .a (.c (.sc kv)) =>
        bif keyable kty.under && Nat.ble fl id then (match st.get id with
          | some (.map es clock) => match findE kty.under kv es 0 with
            | some (some (i, _)) => some (st.put id (some (.map (eraseE es i) clock)))
            | some none => some st
            | none => none
          | _ => none) else none
      | _, _, _ => none
    | _ => none)
  | none => none

def rangeOp (_cx : Cx) (ty : Ty) (x : V) (st : St) : Option (V × St) :=
  match ty.under, x with
  | .string, .a (.c (.sc (.string s))) => some (.a (.c (.ptr st.next 0)), st.new (.sit s 0))
  | .map _ _, .a (.c (.sc (.map none))) => some (.a (.c (.ptr st.next 0)), st.new (.mit none 0 [] 0))
  | .map _ _, .a (.c (.mp id)) => match st.get id with
    | some (.map _ clock) => some (.a (.c (.ptr st.next 0)), st.new (.mit (some id) clock [] clock))
    | _ => none
  | _, _ => none

def memN (n : Nat) : List Nat → Bool
  | [] => false
  | x :: xs => Nat.beq n x || memN n xs

def unseen (seen : List Nat) : List (C × A × Nat) → List (C × A × Nat)
  | [] => []
  | (k, v, b) :: es => bif memN b seen then unseen seen es else (k, v, b) :: unseen seen es

def allBelow (n : Nat) : List (C × A × Nat) → Bool
  | [] => true
  | (_, _, b) :: es => Nat.blt b n && allBelow n es

def overV : V := .tup [.c (.sc (.bool false))]

def nextOp (fl : Nat) (x : V) (isString : Bool) (st : St) : R :=
  match x with
  | .a (.c (.ptr r 0)) =>
    bif Nat.ble fl r then (match st.get r, isString with
    | some (.sit s pos), true =>
      bif Nat.blt pos s.size then
        (match Utf8.decode s pos with
        | (c, width) => .val (.tup [.c (.sc (.bool true)), .c (.sc (.int .i64 pos)), .c (.sc (.int .i32 c))]) (st.put r (some (.sit s (pos + width)))))
      else .val overV st
    | some (.mit none _ _ _), false => .val overV st
    | some (.mit (some m) since seen last), false => match st.get m with
      | some (.map es clock) =>
        bif Nat.beq clock since && Nat.beq last since && allBelow since es then
          (match unseen seen es with
          | [] => .val overV st
          | left => .any (left.map fun (k, v, b) => (.tup [.c (.sc (.bool true)), .c k, v], st.put r (some (.mit (some m) since (seen ++ [b]) clock)))))
        else .fail
      | _ => .fail
    | _, _ => .fail) else .fail
  | _ => .fail

def lastOf : List Nat → Option Nat
  | [] => none
  | [x] => some x
  | _ :: xs => lastOf xs

def findB (b : Nat) : List (C × A × Nat) → Option (C × A)
  | [] => none
  | (k, v, b') :: es => bif Nat.beq b' b then some (k, v) else findB b es

def entryOp (x : V) (st : St) : Option V :=
  match x with
  | .a (.c (.ptr r 0)) => match st.get r with
    | some (.mit (some m) _ seen stepped) => match st.get m, lastOf seen with
      | some (.map es clock), some b => bif Nat.beq clock stepped then (findB b es).map fun (k, v) => .tup [.c k, v] else none
      | _, _ => none
    | _ => none
  | _ => none

def bound (x : Option V) (d : Nat) : Option Nat :=
  match x with
  | none => some d
  | some v => match toInt v with
    | some (.ofNat n) => some n
    | _ => none

def evO (fr : Fr) : Option Operand → Option (Option V)
  | none => some none
  | some x => (ev fr x).map some

def sliceOp (cx : Cx) (t : TypeId) (x : V) (lo hi mx : Option V) : Option V :=
  bif mx.isSome && hi.isNone then none else
  match cx.ty t with
  | some ty => (match ty.under, x with
    | .string, .a (.c (.sc (.string s))) => match mx, bound lo 0, bound hi s.size with
      | none, some l, some h => bif Nat.ble l h && Nat.ble h s.size then some (sc (.string (s.extract l h))) else none
      | _, _, _ => none
    | .slice e, .a (.c (.osl k off len)) => match cx.ty e, mx, bound lo 0, bound hi len with
      | some ety, none, some l, some h => bif Nat.ble l h && Nat.ble h len then (bif Nat.beq l h then some (.a (.c (.slx (.lit 0)))) else some (.a (.c (.osl k (off + l * ety.size) (h - l))))) else none
      | _, _, _, _ => none
    | .slice e, x => match sliceOf x, cx.ty e with
      | some (a, len, cap, fx), some ety =>
        match bound mx cap, bound lo 0, bound hi len with
        | some m, some l, some h =>
          bif Nat.ble l h && Nat.ble h m && Nat.ble m cap then
            (match a with
            | none => mkSlice none (h - l) (m - l) false
            | some p =>
              let fx' := fx && mx.isNone
              bif fx' && Nat.beq m l && !(Nat.beq l 0) then none
              else match (bif Nat.beq m l then some p else behind p (l * ety.size)) with
                | some p' => mkSlice (some p') (h - l) (m - l) fx'
                | none => none)
          else none
        | _, _, _ => none
      | _, _ => none
    | .array n e, .a (.c p) => match cx.ty e with
      | some ety =>
        match bound mx n, bound lo 0, bound hi n with
        | some m, some l, some h =>
          bif Nat.ble l h && Nat.ble h m && Nat.ble m n then
            (match (bif Nat.beq m l then behind p 0 else behind p (l * ety.size)) with
            | some p' => mkSlice (some p') (h - l) (m - l) false
            | none => none)
          else none
        | _, _, _ => none
      | none => none
    | _, _ => none)
  | none => none

def idxOk (i : Int) (n : Nat) : Option Nat :=
  match i with
  | .ofNat k => bif Nat.blt k n then some k else none
  | _ => none

def indexAddr (cx : Cx) (t : TypeId) (x ix : V) : Option V :=
  match cx.ty t, toInt ix with
  | some ty, some i => (match ty.under with
    | .array len e => match idxOk i len, cx.ty e, toC x with
      | some k, some ety, some p => (behind p (k * ety.size)).map fun p => .a (.c p)
      | _, _, _ => none
    | .slice e => match sliceRd x, cx.ty e with
      | some (some p, len), some ety => match idxOk i len with
        | some k => (behind p (k * ety.size)).map fun p => .a (.c p)
        | none => none
      | _, _ => none
    | _ => none)
  | _, _ => none

def indexOp (cx : Cx) (t : TypeId) (x ix : V) : Option V :=
  match cx.ty t, toInt ix with
  | some ty, some i => (match ty.under, x with
    | .array len e, .a (.agg cs) => match idxOk i len, cx.ty e with
      | some k, some ety => match sub cs (k * ety.size) ety.size with
        | some l => pack ety l
        | none => none
      | _, _ => none
    | .string, .a (.c (.sc (.string s))) => match idxOk i s.size with
      | some k => match s[k]? with
        | some b => some (sc (.int .u8 b.toNat))
        | none => none
      | none => none
    | _, _ => none)
  | _, _ => none

def fieldAddr (cx : Cx) (t : TypeId) (x : V) (f : Nat) : Option V :=
  match cx.ty t, toC x with
  | some ty, some p => (match ty.under with
    | .struct fs => match fs[f]? with
      | some fd => match cx.ty fd.type with
        | some fty => bif Nat.beq fty.size 0 then none else (behind p fd.offset).map fun p => .a (.c p)
        | none => none
      | none => none
    | _ => none)
  | _, _ => none

def fieldOp (cx : Cx) (t : TypeId) (x : V) (f : Nat) : Option V :=
  match cx.ty t, x with
  | some ty, .a (.agg cs) => (match ty.under with
    | .struct fs => match fs[f]? with
      | some fd => match cx.ty fd.type with
        | some fty => match sub cs fd.offset fty.size with
          | some l => pack fty l
          | none => none
        | none => none
      | none => none
    | _ => none)
  | _, _ => none

def buildOp (cx : Cx) (t : TypeId) (parts : List (Nat × V)) : Option V :=
  match cx.ty t with
  | some ty => (match ty.under with
    | .struct fs => bif fs.toList.all fun fd => (cx.ty fd.type).isSome then
        (fillC (fun i => match fs.toList[i]? with
        | some fd => (cx.ty fd.type).map fun fty => (fd.offset, fty.size)
        | none => none) (zeroC ty) parts).map fun l => .a (.agg l) else none
    | .array _ e => match cx.ty e with
      | some ety => (fillC (fun i => some (i * ety.size, ety.size)) (zeroC ty) parts).map fun l => .a (.agg l)
      | none => none
    | _ => none)
  | none => none

def buildSlice (cx : Cx) (t : TypeId) (len : Nat) (parts : List (Nat × V)) (st : St) : Option (V × St) :=
  match cx.ty t with
  | some ty => (match ty.under with
    | .slice e => match cx.ty e with
      | some ety => bif Nat.ble (len * ety.size) 16777216 then
          (match fillC (fun i => some (i * ety.size, ety.size)) (rep len (zeroC ety)) parts with
          | some l => some (.a (.c (.sl st.next 0 len len false)), st.new (.cells l e false))
          | none => none) else none
      | none => none
    | _ => none)
  | none => none

def makeSlice (cx : Cx) (t : TypeId) (len cap : V) (st : St) : Option (V × St) :=
  match cx.ty t, bound (some len) 0, bound (some cap) 0 with
  | some ty, some l, some c => (match ty.under with
    | .slice e => match cx.ty e with
      | some ety => bif Nat.ble l c && Nat.ble c 1000000 && Nat.ble (c * ety.bytes) 100000000 then
          some (.a (.c (.sl st.next 0 l c false)), st.new (.cells (rep c (zeroC ety)) e false)) else none
      | none => none
    | _ => none)
  | _, _, _ => none

/-- the cells of what is appended or copied: the first n elements -/
def srcCells (cx : Cx) (st : St) (size : Nat) (x : V) (n : Nat) : Option (List C) :=
  match x with
  | .a (.c (.sc (.string s))) => bif Nat.ble n s.size && Nat.beq size 1 then some ((s.data.toList.take n).map fun b => C.sc (.int .u8 b.toNat)) else none
  | .a (.c (.slx (.lit (.ofNat 0)))) => bif Nat.beq n 0 then some [] else none
  | x => match sliceRd x with
    | some (none, _) => bif Nat.beq n 0 then some [] else none
    | some (some p, _) => bif Nat.beq (n * size) 0 then some [] else loadN cx st p (n * size)
    | none => none

def lenOf (x : V) : Option Nat :=
  match x with
  | .a (.c (.sc (.string s))) => some s.size
  | .a (.c (.slx (.lit (.ofNat 0)))) => some 0
  | x => (sliceRd x).map fun (_, n) => n

def srcKind : TypeDesc → Bool
  | .slice _ => true
  | .string => true
  | _ => false

def appendOp (cx : Cx) (fl : Nat) (st ty xt : TypeId) (s x : V) (h : St) : Option (V × St) :=
  let _ := ty
  match cx.ty st, cx.ty xt, sliceOf s, lenOf x with
  | some sty, some xty, some (b, len, cap, fx), some n => bif !(srcKind xty.under) then none else (match sty.under with
    | .slice e => match cx.ty e with
      | some ety =>
        let need := len + n
        bif Nat.beq ety.size 0 || !(Nat.ble ((2 * need + 1024) * (ety.bytes + 1)) 70000000000000) then none else
        match srcCells cx h ety.size x n with
        | some new =>
          bif Nat.ble need cap then
            (bif Nat.beq n 0 then (mkSlice b need cap fx).map fun v => (v, h)
            else match b with
              | some p => match behind p (len * ety.size) with
                | some p' => match storeN fl h p' new, mkSlice b need cap fx with
                  | some h', some v => some (v, h')
                  | _, _ => none
                | none => none
              | none => none)
          else bif fx then
            (match b with
            | some (.ptr id 0) => bif Nat.ble fl id then (match h.get id with
              | some (.cells l e' true) => bif Nat.beq l.length (cap * ety.size) && Nat.beq e' e && Nat.ble len cap then
                  some (.a (.c (.sl h.next 0 need need true)), (h.new (.cells (l.take (len * ety.size) ++ new) e true)).put id none) else none
              | _ => none) else none
            | _ => none)
          else
            (match srcCells cx h ety.size s len with
            | some old => some (.a (.c (.sl h.next 0 need need true)), h.new (.cells (old ++ new) e true))
            | none => none)
        | none => none
      | none => none
    | _ => none)
  | _, _, _, _ => none

def copyOp (cx : Cx) (fl : Nat) (dt : TypeId) (d x : V) (h : St) : Option (V × St) :=
  match cx.ty dt, sliceOf d, lenOf x with
  | some dty, some (b, dlen, _, _), some xl => (match dty.under with
    | .slice e => match cx.ty e with
      | some ety =>
        let n := Nat.min xl dlen
        match srcCells cx h ety.size x n with
        | some new => match b with
          | none => some (vint n, h)
          | some p => bif Nat.beq (n * ety.size) 0 then some (vint n, h) else (storeN fl h p new).map fun h' => (vint n, h')
        | none => none
      | none => none
    | _ => none)
  | _, _, _ => none

def clearOp (cx : Cx) (fl : Nat) (t : TypeId) (x : V) (h : St) : Option (V × St) :=
  match cx.ty t, sliceOf x with
  | some ty, some (b, n, _, _) => (match ty.under with
    | .slice e => match cx.ty e, b with
      | some ety, some p => bif Nat.beq n 0 then some (.tup [], h) else (storeN fl h p (rep n (zeroC ety))).map fun h' => (.tup [], h')
      | some _, none => some (.tup [], h)
      | none, _ => none
    | _ => none)
  | _, _ => none

def lenOp (cx : Cx) (t : TypeId) (x : V) (h : St) : Option V :=
  match cx.ty t with
  | some ty => (match ty.under with
    | .string => match x with | .a (.c (.sc (.string s))) => some (vint s.size) | .a (.c (.stx e)) => some (.a (.c (.sy .i64 e))) | _ => none
    | .array n _ => some (vint n)
    | .pointer e => match cx.ty e with
      | some ety => (match ety.under with | .array n _ => some (vint n) | _ => none)
      | none => none
    | .slice _ => match x with
      | .a (.c (.slx e)) => some (.a (.c (.sy .i64 e)))
      | _ => (sliceRd x).map fun (_, n) => vint n
    | .map _ _ => (mapEs h x).map fun (es, _) => vint es.length
    | _ => none)
  | none => none

def capOp (cx : Cx) (t : TypeId) (x : V) : Option V :=
  match cx.ty t with
  | some ty => (match ty.under with
    | .slice _ => match sliceOf x with
      | some (_, _, c, false) => some (vint c)
      | _ => none
    | _ => none)
  | none => none

def max2 : V → V → Option V
  | .a (.c (.sc (.int k x))), .a (.c (.sy _ y)) => some (.a (.c (.sy k (.max (.lit x) y))))
  | .a (.c (.sy k x)), .a (.c (.sc (.int _ y))) => some (.a (.c (.sy k (.max x (.lit y)))))
  | .a (.c (.sy k x)), .a (.c (.sy _ y)) => some (.a (.c (.sy k (.max x y))))
  | .a (.c (.sc (.int k x))), .a (.c (.sc (.int _ y))) => some (sc (.int k (if y > x then y else x)))
  | _, _ => none
def min2 : V → V → Option V
  | .a (.c (.sc (.int k x))), .a (.c (.sy _ y)) => some (.a (.c (.sy k (.min (.lit x) y))))
  | .a (.c (.sy k x)), .a (.c (.sc (.int _ y))) => some (.a (.c (.sy k (.min x (.lit y)))))
  | .a (.c (.sy k x)), .a (.c (.sy _ y)) => some (.a (.c (.sy k (.min x y))))
  | .a (.c (.sc (.int k x))), .a (.c (.sc (.int _ y))) => some (sc (.int k (if y < x then y else x)))
  | _, _ => none
def fold2 (f : V → V → Option V) : List V → V → Option V
  | [], v => some v
  | x :: xs, v => match f v x with
    | some v' => fold2 f xs v'
    | none => none

/-- a pointer to an untyped one and back, at a variable of the call's own -/
def unsafeConv (cx : Cx) (st : St) (sty dty : TypeDesc) (id off : Nat) : Bool :=
  match sty, dty, st.get id with
  | .pointer t, .unsafePointer, some (.cells l _ _) => (match cx.ty t with
    | some ety => !(Nat.beq ety.size 0) && Nat.blt off l.length
    | none => false)
  | .unsafePointer, .pointer u, some (.cells l e false) => (match cx.ty u with
    | some uty => Nat.beq e u && Nat.beq off 0 && Nat.beq l.length uty.size && !(Nat.beq uty.size 0)
    | none => false)
  | _, _, _ => false

def convOp (cx : Cx) (st : St) (src dst : TypeId) (x : V) : Option V :=
  match cx.ty src, cx.ty dst, x with
  | some _, some dty, .a (.c (.sc (.int _ n))) => (match dty.under with
    | .int k => some (sc (.int k (k.wrap n)))
    | _ => none)
  | some _, some dty, .a (.c (.sy _ e)) => (match dty.under with
    | .int k => some (.a (.c (.sy k (.wrap k e))))
    | _ => none)
  | some _, some dty, .a (.c (.sc (.string s))) => (match dty.under with
    | .string => some (sc (.string s))
    | _ => none)
  | some sty, some dty, .a (.c (.ptr id off)) => bif unsafeConv cx st sty.under dty.under id off then some (.a (.c (.ptr id off))) else none
  | _, _, _ => none

def unOp (op : UnOp) : V → Option V
  | .a (.c (.sc (.int k n))) => (pureSem default 0 (Op.unary op (.int k n))).map sc
  | .a (.c (.sc (.bool b))) => (match op with | .not => some (sc (.bool !b)) | _ => none)
  | _ => none

def capIds : List V → Option (List Nat)
  | [] => some []
  | .a (.c (.ptr id 0)) :: vs => (capIds vs).map (id :: ·)
  | _ => none

def bytesOf : List C → Option (List UInt8)
  | [] => some []
  | .sc (.int .u8 (.ofNat n)) :: l => bif Nat.blt n 256 then (bytesOf l).map (UInt8.ofNat n :: ·) else none
  | _ => none

def isPtrV : V → Bool
  | .a (.c (.ptr _ _)) => true
  | .a (.c (.sc (.pointer _))) => true
  | _ => false

def unsafeStr (cx : Cx) (fl : Nat) (pt : TypeId) (p n : V) (st : St) : Option (V × St) :=
  match n with
  | .a (.c (.sc (.int .i64 (.ofNat 0)))) => bif isPtrV p then some (sc (.string .empty), st) else none
  | .a (.c (.sc (.int .i64 (.ofNat n)))) => (match p, cx.ty pt with
    | .a (.c (.ptr id 0)), some pty => bif Nat.ble fl id then (match st.get id, pty.under with
      | some (.cells l e _), .pointer e' => (match cx.ty e with
        | some ety => bif Nat.beq e e' && Nat.beq ety.size 1 && Nat.ble n 9223372036854775807 && !(Nat.beq n 0) then (match (sub l 0 n).bind bytesOf with
          | some bs => some (sc (.string ⟨bs.toArray⟩), st.put id none)
          | none => none) else none
        | none => none)
      | _, _ => none) else none
    | _, _ => none)
  | _ => none

def builtinOp (cx : Cx) (fl : Nat) (b : Builtin) (ts : List TypeId) (ty : TypeId) (args : List V) (st : St) : R :=
  match b, ts, args with
  | .len, t :: _, [x] => .ofV st (lenOp cx t x st)
  | .cap, t :: _, [x] => .ofV st (capOp cx t x)
  | .append, [t, xt], [s, x] => .ofVS (appendOp cx fl t ty xt s x st)
  | .copy, t :: _, [d, x] => .ofVS (copyOp cx fl t d x st)
  | .clear, t :: _, [x] => .ofVS (clearOp cx fl t x st)
  | .delete, t :: _, [m, k] => match mapDelete cx fl t m k st with
    | some st' => .val (.tup []) st'
    | none => .fail
  | .unsafeSliceData, _, [.a (.c (.sl id off _ cap _))] => bif Nat.beq cap 0 then .fail else .val (.a (.c (.ptr id off))) st
  | .unsafeSliceData, _, [.a (.c (.sc (.slice none _ _)))] => .val (sc (.pointer none)) st
  | .unsafeString, [pt, _], [p, n] => .ofVS (unsafeStr cx fl pt p n st)
  | .max, _, x :: xs => .ofV st (fold2 max2 xs x)
  | .min, _, x :: xs => .ofV st (fold2 min2 xs x)
  | _, _, _ => .fail

/-- One operation. 'fl': blocks below it are not written. -/
def stepOp (cx : Cx) (fl : Nat) (fr : Fr) (st : St) (o : Op) (ty : TypeId) : R :=
  match o with
  | .move x => .ofV st (ev fr x)
  | .assign x => .ofV st (ev fr x)
  | .pick c a b => match ((ev fr c).bind (resB cx)).bind toBool with
    | some true => .ofV st (ev fr a)
    | some false => .ofV st (ev fr b)
    | none => .fail
  | .alloc t => match cx.ty t with
    | some ty => .val (.a (.c (.ptr st.next 0))) (st.new (.cells (zeroC ty) t false))
    | none => .fail
  | .box t x => match (ev fr x).bind cellsOf with
    | some l => .val (.a (.c (.ptr st.next 0))) (st.new (.cells l t false))
    | none => .fail
  | .build t parts => .ofV st ((evParts fr parts.toList).bind (buildOp cx t))
  | .buildSlice t len parts => .ofVS ((evParts fr parts.toList).bind fun ps => buildSlice cx t len ps st)
  | .load t a => match cx.ty t, (ev fr a).bind toC with
    | some ty, some p => .ofV st ((loadN cx st p (bif isAggT ty.under then ty.size else 1)).bind (pack ty))
    | _, _ => .fail
  | .store t a x => match cx.ty t, (ev fr a).bind toC, (ev fr x).bind cellsOf with
    | some ty, some p, some l => bif Nat.beq l.length ty.size && !(Nat.beq ty.size 0) then .ofS (storeN fl st p l) else .fail
    | _, _, _ => .fail
  | .nilCheck x => match ev fr x with
    | some (.a (.c (.ptr id off))) => .val (.a (.c (.ptr id off))) st
    | some (.a (.c (.fn f cs))) => .val (.a (.c (.fn f cs))) st
    | some (.a (.c (.sc (.pointer (some a))))) => .val (sc (.pointer (some a))) st
    | _ => .fail
  | .binOp op t x y _ => match ev fr x, ev fr y with
    | some a, some b => .ofV st (binop cx op t a b)
    | _, _ => .fail
  | .unOp op _ x => .ofV st (((ev fr x).bind (resB cx)).bind (unOp op))
  | .convert src dst x => .ofV st ((ev fr x).bind (convOp cx st src dst))
  | .makeFunc (.func f) first caps => bif Nat.beq first.size 0 then (match (evArgs fr caps.toList).bind capIds with
      | some ids => .val (.a (.c (.fn f ids))) st
      | none => .fail) else .fail
  | .makeMap _ none => .val (.a (.c (.mp st.next))) (st.new (.map [] 0))
  | .makeSlice t l c => match ev fr l, ev fr c with
    | some l, some c => .ofVS (makeSlice cx t l c st)
    | _, _ => .fail
  | .slice t x lo hi mx => match ev fr x, evO fr lo, evO fr hi, evO fr mx with
    | some x, some lo, some hi, some mx => .ofV st (sliceOp cx t x lo hi mx)
    | _, _, _, _ => .fail
  | .fieldAddr t x f => .ofV st ((ev fr x).bind fun v => fieldAddr cx t v f)
  | .field t x f => .ofV st ((ev fr x).bind fun v => fieldOp cx t v f)
  | .indexAddr t x ix => match ev fr x, ev fr ix with
    | some x, some ix => .ofV st (indexAddr cx t x ix)
    | _, _ => .fail
  | .index t x ix => match ev fr x, ev fr ix with
    | some x, some ix => .ofV st (indexOp cx t x ix)
    | _, _ => .fail
  | .lookup t m k ok => match ev fr m, ev fr k with
    | some m, some k => .ofV st (lookup cx t m k ok st)
    | _, _ => .fail
  | .mapUpdate t m k x => match ev fr m, ev fr k, ev fr x with
    | some m, some k, some x => .ofS (mapUpdate cx fl t m k x st)
    | _, _, _ => .fail
  | .range t x => match cx.ty t, ev fr x with
    | some ty, some v => .ofVS (rangeOp cx ty v st)
    | _, _ => .fail
  | .next it isS => match ev fr it with
    | some v => nextOp fl v isS st
    | none => .fail
  | .entry it => .ofV st ((ev fr it).bind fun v => entryOp v st)
  | .extract t ix => match ev fr t with
    | some (.tup l) => (match l[ix]? with | some x => .val (.a x) st | none => .fail)
    | _ => .fail
  | .call c => match c.callee with
    | .value f => match ev fr f, evArgs fr c.args.toList with
      | some (.a (.c (.fn g caps))), some args => .call g (args ++ caps.map fun id => .a (.c (.ptr id 0)))
      | _, _ => .fail
    | .builtin b => match evArgs fr c.args.toList with
      | some args => builtinOp cx fl b c.argTypes.toList ty args st
      | none => .fail
    | _ => .fail
  | _ => .fail

def mkArgs : List V → Nat → T V → T V
  | [], _, t => t
  | v :: vs, i, t => mkArgs vs (i + 1) (t.set i (some v))

def resultsOf (cx : Cx) (fr : Fr) (st : St) : List ResultVar → Option (List V)
  | [] => some []
  | .tmp t :: rs => match fr.get t, resultsOf cx fr st rs with
    | some v, some l => some (v :: l)
    | _, _ => none
  | .cell a t :: rs => match (fr.get a).bind toC, cx.ty t, resultsOf cx fr st rs with
    | some p, some ty, some l => match (loadN cx st p (bif isAggT ty.under then ty.size else 1)).bind (pack ty) with
      | some v => some (v :: l)
      | none => none
    | _, _, _ => none

def toAs : List V → Option (List A)
  | [] => some []
  | .a x :: vs => (toAs vs).map (x :: ·)
  | _ => none

def result (cx : Cx) (F : Func) (fr : Fr) (st : St) : Option V :=
  match resultsOf cx fr st F.results.toList with
  | some [v] => some v
  | some l => (toAs l).map .tup
  | none => none

/-- Is the operation wanted? none: it can't be told. -/
def wantedA (ops : List Oper) (o : Oper) (fr : Fr) : Option Bool :=
  match o.guard with
  | none => some true
  | some (j, want) => match ops[j]? with
    | some oj => match oj.dst with
      | some d => match fr.get d with
        | some (.a (.c (.sc (.bool b)))) => some (b == want)
        | some (.a (.c (.sc (.tuple _)))) => some false
        | _ => none
      | none => none
    | none => none

def undefV : V := sc undef

def insertAs (pend : List (Nat × Nat × O)) (as : List Nat) (st : St) : St :=
  match pend with
  | [] => st
  | (i, id, o) :: ps => insertAs ps as (bif memN i as then st.put id (some o) else st)
def insertAll (pend : List (Nat × Nat × O)) (st : St) : St :=
  match pend with
  | [] => st
  | (_, id, o) :: ps => insertAll ps (st.put id (some o))

abbrev RunT := Nat → FuncId → Code → Fr → St → (Exit → Fr → St → Bool) → Bool

/-- A call: by its own primitive, or its body. -/
def callF (cx : Cx) (R : RunT) (fl : Nat) (f : FuncId) (args : List V) (st : St) (K : V → St → Bool) : Bool :=
  match cx.prim f with
  | some p => (match p fl args st with
    | some (v, st) => K v st
    | none => false)
  | none => match cx.fn f with
    | none => false
    | some F => match F.body with
      | none => false
      | some c => bif Nat.ble args.length F.ntmps then
          R fl f c ⟨F.ntmps, mkArgs args 0 .nil⟩ st fun e fr st =>
            match e with
            | .normal => (match result cx F fr st with | some v => K v st | none => false)
            | .ret => (match result cx F fr st with | some v => K v st | none => false)
            | _ => false
        else false

def putK (fr : Fr) (d : Option Tmp) (v : V) (K : Fr → Bool) : Bool :=
  match fr.put d v with
  | some fr => K fr
  | none => false

def allK (K : V → St → Bool) : List (V × St) → Bool
  | [] => true
  | (v, st) :: l => K v st && allK K l

def runOp (cx : Cx) (R : RunT) (fl : Nat) (all : List Oper) (o : Oper) (fr : Fr) (st : St) (K : Fr → St → Bool) : Bool :=
  match wantedA all o fr with
  | none => false
  | some false => putK fr o.dst undefV fun fr => K fr st
  | some true => match stepOp cx fl fr st o.op o.type with
    | .val v st => putK fr o.dst v fun fr => K fr st
    | .skip st => putK fr o.dst undefV fun fr => K fr st
    | .call f args => callF cx R fl f args st fun v st => putK fr o.dst v fun fr => K fr st
    | .any l => allK (fun v st => putK fr o.dst v fun fr => K fr st) l
    | .fail => false

def runOps (cx : Cx) (R : RunT) (fl : Nat) (all : List Oper) : List Oper → Fr → St → (Fr → St → Bool) → Bool
  | [], fr, st, K => K fr st
  | o :: ops, fr, st, K => runOp cx R fl all o fr st fun fr st => runOps cx R fl all ops fr st K

/-- Operations that make nothing and write nothing. -/
def pureKind : Op → Bool
  | .move _ => true
  | .assign _ => true
  | .pick _ _ _ => true
  | .build _ _ => true
  | .load _ _ => true
  | .nilCheck _ => true
  | .binOp _ _ _ _ _ => true
  | .unOp _ _ _ => true
  | .convert _ _ _ => true
  | .slice _ _ _ _ _ => true
  | .fieldAddr _ _ _ => true
  | .field _ _ _ => true
  | .indexAddr _ _ _ => true
  | .index _ _ _ => true
  | .lookup _ _ _ _ => true
  | .entry _ => true
  | .extract _ _ => true
  | .call c => (match c.callee with
    | .builtin .len => true
    | .builtin .cap => true
    | .builtin .max => true
    | .builtin .min => true
    | .builtin .unsafeSliceData => true
    | _ => false)
  | _ => false

def cBelow (n : Nat) : C → Bool
  | .sc _ => true
  | .sy _ _ => true
  | .sb _ => true
  | .slx _ => true
  | .stx _ => true
  | .osl _ _ _ => true
  | .optr _ _ => true
  | .ptr id _ => Nat.blt id n
  | .sl id _ _ _ _ => Nat.blt id n
  | .mp id => Nat.blt id n
  | .fn _ caps => caps.all fun id => Nat.blt id n
  | .unk => true

def aBelow (n : Nat) : A → Bool
  | .c x => cBelow n x
  | .agg l => l.all (cBelow n)

def vBelow (n : Nat) : V → Bool
  | .a x => aBelow n x
  | .tup l => l.all (aBelow n)

/-- An operation that makes and writes nothing, over a heap. -/
def pureOp (cx : Cx) (all : List Oper) (o : Oper) (fr : Fr) (h : T O) : Option V :=
  match wantedA all o fr with
  | some false => some undefV
  | some true => bif pureKind o.op then (match stepOp cx 0 fr ⟨h, 0⟩ o.op o.type with
    | .val v _ => some v
    | _ => none) else none
  | none => none

def evBelow (n : Nat) (fr : Fr) (x : Operand) : Bool :=
  match ev fr x with
  | some v => vBelow n v
  | none => true

/-- An operation that makes one block, whatever the heap. -/
def newOp (cx : Cx) (all : List Oper) (o : Oper) (fr : Fr) (n : Nat) : Option (V × O) :=
  match wantedA all o fr with
  | some true => bif o.op.operands.toList.all (evBelow n fr) then
      (match stepOp cx n fr ⟨.nil, n⟩ o.op o.type with
      | .val v st' => bif Nat.beq st'.next (n + 1) then (st'.heap.get n).map fun ob => (v, ob) else none
      | _ => none) else none
  | _ => none

def runPlan (cx : Cx) (R : RunT) (fl : Nat) (ops : List Oper) : List Step → List (Nat × Nat × O) → Fr → St → (Fr → St → Bool) → Bool
  | [], pend, fr, st, K => K fr (insertAll pend st)
  | .p i :: pl, pend, fr, st, K => (match ops[i]? with
      | some o => (match pureOp cx ops o fr .nil with
        | some v => putK fr o.dst v fun fr => runPlan cx R fl ops pl pend fr st K
        | none => false)
      | none => false)
  | .r i as :: pl, pend, fr, st, K => (match ops[i]? with
      | some o => (match pureOp cx ops o fr (insertAs pend as st).heap with
        | some v => putK fr o.dst v fun fr => runPlan cx R fl ops pl pend fr st K
        | none => false)
      | none => false)
  | .a i :: pl, pend, fr, st, K => (match ops[i]? with
      | some o => (match newOp cx ops o fr st.next with
        | some (v, ob) => putK fr o.dst v fun fr => runPlan cx R fl ops pl (pend ++ [(i, st.next, ob)]) fr ⟨st.heap, st.next + 1⟩ K
        | none => (match pureOp cx ops o fr .nil with
          | some v => putK fr o.dst v fun fr => runPlan cx R fl ops pl pend fr st K
          | none => false))
      | none => false)
  | .q i as :: pl, pend, fr, st, K => (match ops[i]? with
      | some o => runOp cx R st.next ops o fr (insertAs pend as st) fun fr st' => runPlan cx R fl ops pl pend fr st' K
      | none => false)
  | .w i :: pl, pend, fr, st, K => (match ops[i]? with
      | some o => runOp cx R fl ops o fr (insertAll pend st) fun fr st' => runPlan cx R fl ops pl [] fr st' K
      | none => false)

def Step.idx : Step → Nat
  | .p i => i
  | .r i _ => i
  | .a i => i
  | .q i _ => i
  | .w i => i

def Step.chain : Step → Bool
  | .q _ _ => true
  | .w _ => true
  | _ => false

def edge (ops : List Oper) (x j : Nat) : Bool :=
  match ops[x]? with
  | some o => o.after.toList.any fun e => Region.binds .any e && Nat.beq e.on j
  | none => false

/-- what must have been done before 'i', among the steps before it (the last first) -/
def ancs (ops : List Oper) (i : Nat) : List Step → List Nat → List Nat
  | [], acc => acc
  | s :: pre, acc => bif edge ops i s.idx || acc.any (fun x => edge ops x s.idx) then ancs ops i pre (s.idx :: acc) else ancs ops i pre acc

/-- all that is still to come waits for one of 'd' -/
def allWait (ops : List Oper) : List Step → List Nat → Bool
  | [], _ => true
  | s :: pl, d => d.any (fun x => edge ops s.idx x) && allWait ops pl (s.idx :: d)

def tmpIs (t : Nat) : Operand → Bool
  | .tmp u => Nat.beq u t
  | _ => false

/-- does 'o' look at what 'j' yields? -/
def looks (ops : List Oper) (o : Oper) (j : Nat) : Bool :=
  match ops[j]? with
  | some oj => (match oj.dst with
    | some t => o.op.operands.toList.any (tmpIs t) || (match o.guard with
      | some (g, _) => (match ops[g]? with
        | some og => (match og.dst with | some u => Nat.beq u t | none => false)
        | none => false)
      | none => false)
    | none => false)
  | none => false

def sameDst (ops : List Oper) (o : Oper) (j : Nat) : Bool :=
  match ops[j]?, o.dst with
  | some oj, some t => (match oj.dst with | some u => Nat.beq u t | none => false)
  | _, _ => false

def isBlock : Step → Bool
  | .r _ _ => true
  | .a _ => true
  | _ => false

def nats : Nat → List Nat
  | 0 => []
  | n + 1 => n :: nats n

def planCheck (ops : List Oper) : List Step → List Step → Bool
  | pre, [] => (nats ops.length).all fun j => pre.any fun s => Nat.beq s.idx j
  | pre, s :: pl => (match ops[s.idx]? with
    | some o =>
      let an := ancs ops s.idx pre []
      (nats ops.length).all (fun j => bif looks ops o j then memN j an || (!(Nat.beq j s.idx) && pre.all fun q => !(Nat.beq q.idx j)) else true) &&
      pre.all (fun q => (match ops[q.idx]? with
        | some oq => bif looks ops oq s.idx then s.chain && memN q.idx an else true
        | none => false)) &&
      pre.all (fun q => !(Nat.beq q.idx s.idx) && !(sameDst ops o q.idx)) &&
      o.after.toList.all (fun e => bif Region.binds .any e then Nat.blt e.on s.idx else true) &&
      (match s with
      | .r _ as => as.all fun j => memN j an
      | .q _ as => as.all fun j => memN j an
      | .w _ => pre.all fun q => bif isBlock q then memN q.idx an else true
      | _ => true) &&
      (bif s.chain then allWait ops pl [s.idx] else true) && planCheck ops (s :: pre) pl
    | none => false)

/-- The plans of a function's drawn regions are plans of them. -/
def plansOk (cx : Cx) (g : FuncId) : Code → Bool
  | .region id ops draw => bif draw then (match cx.plan g id with | some pl => planCheck ops.toList [] pl | none => true) else true
  | .seq a b => plansOk cx g a && plansOk cx g b
  | .cond _ a b => plansOk cx g a && plansOk cx g b
  | .block _ b => plansOk cx g b
  | .loop b => plansOk cx g b
  | _ => true

def run (cx : Cx) : Nat → RunT
  | 0 => fun _ _ _ _ _ _ => false
  | n + 1 => fun fl g c fr st K =>
    match c with
    | .skip => K .normal fr st
    | .region id ops draw => bif draw then (match cx.plan g id with
        | some pl => runPlan cx (run cx n) fl ops.toList pl [] fr st (K .normal)
        | none => false) else runOps cx (run cx n) fl ops.toList ops.toList fr st (K .normal)
    | .seq a b => run cx n fl g a fr st fun e fr st => match e with
      | .normal => run cx n fl g b fr st K
      | e => K e fr st
    | .cond c a b => match ((ev fr c).bind (resB cx)).bind toBool with
      | some true => run cx n fl g a fr st K
      | some false => run cx n fl g b fr st K
      | none => false
    | .block id b => run cx n fl g b fr st fun e fr st => match e with
      | .exit i => bif Nat.beq i id then K .normal fr st else K (.exit i) fr st
      | e => K e fr st
    | .loop b => run cx n fl g b fr st fun e fr st => match e with
      | .normal => run cx n fl g (.loop b) fr st K
      | e => K e fr st
    | .exit id => K (.exit id) fr st
    | .ret => K .ret fr st
    | _ => false
end Go.Am
