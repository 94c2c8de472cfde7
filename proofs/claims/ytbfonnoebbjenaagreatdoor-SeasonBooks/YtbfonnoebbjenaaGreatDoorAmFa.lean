/- The abstract machine, laid out so that the kernel runs it fast: tables whose rows are closed; the same machine. -/
import Derived.Test.YtbfonnoebbjenaaGreatDoorAmFl
namespace Go.Am
open Go


noncomputable def evF (x : Operand) : Fr → Option V :=
  @Operand.rec (fun _ => Fr → Option V) (fun t fr => fr.t.getF t) (fun v _ => bif scal v then some (sc v) else none) (fun g _ => some (sc (.pointer (some ⟨g, 0, none⟩)))) (fun f _ => some (.a (.c (.fn f [])))) x

theorem evF_eq (x : Operand) (fr : Fr) : evF x fr = ev fr x := by
  cases x with
  | tmp t => exact T.getF_eq fr.t t
  | _ => rfl

noncomputable def evPartsF (fr : Fr) : List (Nat × Operand) → Option (List (Nat × V))
  | [] => some []
  | (i, x) :: rest => match evF x fr, evPartsF fr rest with
    | some v, some r => some ((i, v) :: r)
    | _, _ => none

theorem evPartsF_eq (fr : Fr) : ∀ l, evPartsF fr l = evParts fr l
  | [] => rfl
  | (i, x) :: rest => by simp only [evPartsF, evParts, evF_eq, evPartsF_eq fr rest]; rfl

noncomputable def evArgsF (fr : Fr) : List Operand → Option (List V)
  | [] => some []
  | x :: rest => match evF x fr, evArgsF fr rest with
    | some v, some r => some (v :: r)
    | _, _ => none

theorem evArgsF_eq (fr : Fr) : ∀ l, evArgsF fr l = evArgs fr l
  | [] => rfl
  | x :: rest => by simp only [evArgsF, evArgs, evF_eq, evArgsF_eq fr rest]; rfl

def asInt : V → Option (IntKind × Int)
  | .a (.c (.sc (.int k n))) => some (k, n)
  | _ => none

theorem asInt_some {v : V} {k : IntKind} {n : Int} (h : asInt v = some (k, n)) : v = .a (.c (.sc (.int k n))) := by
  unfold asInt at h
  split at h
  · simp only [Option.some.injEq, Prod.mk.injEq] at h; rw [h.1, h.2]
  · cases h

def ifK (k k' : IntKind) (v : V) : Option V := bif decide (k = k') then some v else none

/-- An operator at plain integers. -/
def intF (op : BinOp) : Cx → TypeId → IntKind → Int → IntKind → Int → Option V :=
  match op with
  | .add => fun _ _ k a k' b => ifK k k' (sc (.int k (k.wrap (a + b))))
  | .sub => fun _ _ k a k' b => ifK k k' (sc (.int k (k.wrap (a - b))))
  | .mul => fun _ _ k a k' b => ifK k k' (sc (.int k (k.wrap (a * b))))
  | .eql => fun _ _ k a k' b => ifK k k' (sc (.bool (a == b)))
  | .neq => fun _ _ k a k' b => ifK k k' (sc (.bool (a != b)))
  | .lss => fun _ _ k a k' b => ifK k k' (sc (.bool (a < b)))
  | .leq => fun _ _ k a k' b => ifK k k' (sc (.bool (a ≤ b)))
  | .gtr => fun _ _ k a k' b => ifK k k' (sc (.bool (a > b)))
  | .geq => fun _ _ k a k' b => ifK k k' (sc (.bool (a ≥ b)))
  | op => fun cx t k a k' b => binop0 cx op t (.a (.c (.sc (.int k a)))) (.a (.c (.sc (.int k' b))))

def binopF (cx : Cx) (op : BinOp) (t : TypeId) (x y : V) : Option V :=
  match asInt x with
  | none => binop cx op t x y
  | some (k, a) => match asInt y with
    | none => binop cx op t x y
    | some (k', b) => intF op cx t k a k' b

theorem binopF_eq (cx : Cx) (op : BinOp) (t : TypeId) (x y : V) : binopF cx op t x y = binop cx op t x y := by
  unfold binopF
  split
  · rfl
  · rename_i k a hx
    split
    · rfl
    · rename_i k' b hy
      rw [asInt_some hx, asInt_some hy]
      cases op <;> rfl

def bLen (cx : Cx) (_fl : Nat) (ts : List TypeId) (_ty : TypeId) (args : List V) (st : St) : R :=
  match ts, args with
  | t :: _, [x] => .ofV st (lenOp cx t x st)
  | _, _ => .fail
def bAppend (cx : Cx) (fl : Nat) (ts : List TypeId) (ty : TypeId) (args : List V) (st : St) : R :=
  match ts, args with
  | [t, xt], [s, x] => .ofVS (appendOp cx fl t ty xt s x st)
  | _, _ => .fail
def bMax (_cx : Cx) (_fl : Nat) (_ts : List TypeId) (_ty : TypeId) (args : List V) (st : St) : R :=
  match args with
  | x :: xs => .ofV st (fold2 max2 xs x)
  | _ => .fail

def blF (b : Builtin) : Cx → Nat → List TypeId → TypeId → List V → St → R :=
  match b with
  | .len => bLen
  | .append => bAppend
  | .max => bMax
  | b => fun cx fl ts ty args st => builtinOp cx fl b ts ty args st

theorem blF_eq (b : Builtin) (cx : Cx) (fl : Nat) (ts : List TypeId) (ty : TypeId) (args : List V) (st : St) : blF b cx fl ts ty args st = builtinOp cx fl b ts ty args st := by
  cases b <;> try rfl
  · rcases ts with _ | ⟨t, _ | ⟨t2, _ | ⟨t3, ts⟩⟩⟩ <;> rcases args with _ | ⟨x, _ | ⟨y, _ | ⟨z, args⟩⟩⟩ <;> rfl
  · rcases ts with _ | ⟨t, ts⟩ <;> rcases args with _ | ⟨x, _ | ⟨y, args⟩⟩ <;> rfl
  · rcases args with _ | ⟨x, args⟩ <;> rfl

noncomputable def stCallV (f : Operand) (as : Array Operand) (_cx : Cx) (_fl : Nat) (fr : Fr) (_st : St) (_ty : TypeId) : R :=
  match evF f fr, evArgsF fr as.toList with
  | some (.a (.c (.fn g caps))), some args => .call g (args ++ caps.map fun id => .a (.c (.ptr id 0)))
  | _, _ => .fail
noncomputable def stCallB (b : Builtin) (ts : Array TypeId) (as : Array Operand) (cx : Cx) (fl : Nat) (fr : Fr) (st : St) (ty : TypeId) : R :=
  match evArgsF fr as.toList with
  | some args => blF b cx fl ts.toList ty args st
  | none => .fail

noncomputable def stMove (x : Operand) (_cx : Cx) (_fl : Nat) (fr : Fr) (st : St) (_ty : TypeId) : R :=
  .ofV st (evF x fr)
noncomputable def stAssign (x : Operand) (_cx : Cx) (_fl : Nat) (fr : Fr) (st : St) (_ty : TypeId) : R :=
  .ofV st (evF x fr)
noncomputable def stPick (c : Operand) (a : Operand) (b : Operand) (cx : Cx) (_fl : Nat) (fr : Fr) (st : St) (_ty : TypeId) : R :=
  match ((evF c fr).bind (resB cx)).bind toBool with
    | some true => .ofV st (evF a fr)
    | some false => .ofV st (evF b fr)
    | none => .fail
noncomputable def stAlloc (t : TypeId) (cx : Cx) (_fl : Nat) (_fr : Fr) (st : St) (_ty : TypeId) : R :=
  match cx.ty t with
    | some ty => .val (.a (.c (.ptr st.next 0))) (st.new (.cells (zeroC ty) t false))
    | none => .fail
noncomputable def stBox (t : TypeId) (x : Operand) (_cx : Cx) (_fl : Nat) (fr : Fr) (st : St) (_ty : TypeId) : R :=
  match (evF x fr).bind cellsOf with
    | some l => .val (.a (.c (.ptr st.next 0))) (st.new (.cells l t false))
    | none => .fail
noncomputable def stBuild (t : TypeId) (parts : Array (Nat × Operand)) (cx : Cx) (_fl : Nat) (fr : Fr) (st : St) (_ty : TypeId) : R :=
  .ofV st ((evPartsF fr parts.toList).bind (buildF cx t))
noncomputable def stBuildSlice (t : TypeId) (len : Nat) (parts : Array (Nat × Operand)) (cx : Cx) (_fl : Nat) (fr : Fr) (st : St) (_ty : TypeId) : R :=
  .ofVS ((evPartsF fr parts.toList).bind fun ps => buildSlice cx t len ps st)
noncomputable def stLoad (t : TypeId) (a : Operand) (cx : Cx) (_fl : Nat) (fr : Fr) (st : St) (_ty : TypeId) : R :=
  match cx.ty t, (evF a fr).bind toC with
    | some ty, some p => .ofV st ((loadF cx st p (bif isAggT ty.under then ty.size else 1)).bind (pack ty))
    | _, _ => .fail
noncomputable def stStore (t : TypeId) (a : Operand) (x : Operand) (cx : Cx) (fl : Nat) (fr : Fr) (st : St) (_ty : TypeId) : R :=
  match cx.ty t, (evF a fr).bind toC, (evF x fr).bind cellsOf with
    | some ty, some p, some l => bif Nat.beq (lenF l) ty.size && !(Nat.beq ty.size 0) then .ofS (storeF fl st p l) else .fail
    | _, _, _ => .fail
noncomputable def stNilCheck (x : Operand) (_cx : Cx) (_fl : Nat) (fr : Fr) (st : St) (_ty : TypeId) : R :=
  match evF x fr with
    | some (.a (.c (.ptr id off))) => .val (.a (.c (.ptr id off))) st
    | some (.a (.c (.fn f cs))) => .val (.a (.c (.fn f cs))) st
    | some (.a (.c (.sc (.pointer (some a))))) => .val (sc (.pointer (some a))) st
    | _ => .fail
noncomputable def stBinOp (op : BinOp) (t : TypeId) (x : Operand) (y : Operand) (_u : TypeId) (cx : Cx) (_fl : Nat) (fr : Fr) (st : St) (_ty : TypeId) : R :=
  match evF x fr, evF y fr with
    | some a, some b => .ofV st (binopF cx op t a b)
    | _, _ => .fail
noncomputable def stUnOp (op : UnOp) (_t : TypeId) (x : Operand) (cx : Cx) (_fl : Nat) (fr : Fr) (st : St) (_ty : TypeId) : R :=
  .ofV st (((evF x fr).bind (resB cx)).bind (Am.unOp op))
noncomputable def stConvert (src : TypeId) (dst : TypeId) (x : Operand) (cx : Cx) (_fl : Nat) (fr : Fr) (st : St) (_ty : TypeId) : R :=
  .ofV st ((evF x fr).bind (convOp cx st src dst))
noncomputable def stMakeFunc (fn : Fn) (first : Array Operand) (caps : Array Operand) (_cx : Cx) (_fl : Nat) (fr : Fr) (st : St) (_ty : TypeId) : R :=
  match fn with
    | .func f => bif Nat.beq first.size 0 then (match (evArgsF fr caps.toList).bind capIds with
      | some ids => .val (.a (.c (.fn f ids))) st
      | none => .fail) else .fail
    | _ => .fail
noncomputable def stMakeMap (_t : TypeId) (r : Option Operand) (_cx : Cx) (_fl : Nat) (_fr : Fr) (st : St) (_ty : TypeId) : R :=
  match r with
    | none => .val (.a (.c (.mp st.next))) (st.new (.map [] 0))
    | some _ => .fail
noncomputable def stMakeSlice (t : TypeId) (l : Operand) (c : Operand) (cx : Cx) (_fl : Nat) (fr : Fr) (st : St) (_ty : TypeId) : R :=
  match evF l fr, evF c fr with
    | some l, some c => .ofVS (Am.makeSlice cx t l c st)
    | _, _ => .fail
noncomputable def stSlice (t : TypeId) (x : Operand) (lo : Option Operand) (hi : Option Operand) (mx : Option Operand) (cx : Cx) (_fl : Nat) (fr : Fr) (st : St) (_ty : TypeId) : R :=
  match evF x fr, evO fr lo, evO fr hi, evO fr mx with
    | some x, some lo, some hi, some mx => .ofV st (sliceOp cx t x lo hi mx)
    | _, _, _, _ => .fail
noncomputable def stFieldAddr (t : TypeId) (x : Operand) (f : Nat) (cx : Cx) (_fl : Nat) (fr : Fr) (st : St) (_ty : TypeId) : R :=
  .ofV st ((evF x fr).bind fun v => Am.fieldAddr cx t v f)
noncomputable def stField (t : TypeId) (x : Operand) (f : Nat) (cx : Cx) (_fl : Nat) (fr : Fr) (st : St) (_ty : TypeId) : R :=
  .ofV st ((evF x fr).bind fun v => fieldF cx t v f)
noncomputable def stIndexAddr (t : TypeId) (x : Operand) (ix : Operand) (cx : Cx) (_fl : Nat) (fr : Fr) (st : St) (_ty : TypeId) : R :=
  match evF x fr, evF ix fr with
    | some x, some ix => .ofV st (Am.indexAddr cx t x ix)
    | _, _ => .fail
noncomputable def stIndex (t : TypeId) (x : Operand) (ix : Operand) (cx : Cx) (_fl : Nat) (fr : Fr) (st : St) (_ty : TypeId) : R :=
  match evF x fr, evF ix fr with
    | some x, some ix => .ofV st (indexOp cx t x ix)
    | _, _ => .fail
noncomputable def stLookup (t : TypeId) (m : Operand) (k : Operand) (ok : Bool) (cx : Cx) (_fl : Nat) (fr : Fr) (st : St) (_ty : TypeId) : R :=
  match evF m fr, evF k fr with
    | some m, some k => .ofV st (Am.lookup cx t m k ok st)
    | _, _ => .fail
noncomputable def stMapUpdate (t : TypeId) (m : Operand) (k : Operand) (x : Operand) (cx : Cx) (fl : Nat) (fr : Fr) (st : St) (_ty : TypeId) : R :=
  match evF m fr, evF k fr, evF x fr with
    | some m, some k, some x => .ofS (Am.mapUpdate cx fl t m k x st)
    | _, _, _ => .fail
noncomputable def stRange (t : TypeId) (x : Operand) (cx : Cx) (_fl : Nat) (fr : Fr) (st : St) (_ty : TypeId) : R :=
  match cx.ty t, evF x fr with
    | some ty, some v => .ofVS (rangeOp cx ty v st)
    | _, _ => .fail
noncomputable def stNext (it : Operand) (isS : Bool) (_cx : Cx) (fl : Nat) (fr : Fr) (st : St) (_ty : TypeId) : R :=
  match evF it fr with
    | some v => nextOp fl v isS st
    | none => .fail
noncomputable def stEntry (it : Operand) (_cx : Cx) (_fl : Nat) (fr : Fr) (st : St) (_ty : TypeId) : R :=
  .ofV st ((evF it fr).bind fun v => entryOp v st)
noncomputable def stExtract (t : Operand) (ix : Nat) (_cx : Cx) (_fl : Nat) (fr : Fr) (st : St) (_ty : TypeId) : R :=
  match evF t fr with
    | some (.tup l) => (match l[ix]? with | some x => .val (.a x) st | none => .fail)
    | _ => .fail
noncomputable def stCall (c : Call) (cx : Cx) (fl : Nat) (fr : Fr) (st : St) (ty : TypeId) : R :=
  match c.callee with
    | .value f => stCallV f c.args cx fl fr st ty
    | .builtin b => stCallB b c.argTypes c.args cx fl fr st ty
    | _ => .fail
noncomputable def stFail : Cx → Nat → Fr → St → TypeId → R := fun _ _ _ _ _ => .fail
/-- One operation, by a table whose rows are closed. -/
noncomputable def stepF (o : Op) : Cx → Nat → Fr → St → TypeId → R :=
  @Op.rec (fun _ => Cx → Nat → Fr → St → TypeId → R)
    stMove
    stAssign
    stPick
    stAlloc
    stBox
    stBuild
    stBuildSlice
    (fun _ _ _ _ => stFail)
    stLoad
    stStore
    (fun _ => stFail)
    (fun _ => stFail)
    stNilCheck
    stBinOp
    stUnOp
    stConvert
    (fun _ _ => stFail)
    (fun _ _ => stFail)
    stMakeFunc
    stMakeMap
    (fun _ _ => stFail)
    stMakeSlice
    stSlice
    stFieldAddr
    stField
    stIndexAddr
    stIndex
    stLookup
    stMapUpdate
    (fun _ _ _ => stFail)
    (fun _ _ _ _ => stFail)
    stRange
    stNext
    stEntry
    (fun _ _ _ _ => stFail)
    stExtract
    stCall
    (fun _ => stFail)
    (fun _ => stFail)
    (fun _ => stFail)
    (fun _ _ => stFail)
    (fun _ _ _ => stFail)
    (fun _ _ => stFail)
    o

theorem stepF_eq (o : Op) (cx : Cx) (fl : Nat) (fr : Fr) (st : St) (ty : TypeId) : stepF o cx fl fr st ty = stepOp cx fl fr st o ty := by
  cases o
  case makeFunc fn first caps =>
    cases fn
    case func f =>
      show stMakeFunc (.func f) first caps cx fl fr st ty = _
      simp only [stMakeFunc, stepOp, evArgsF_eq]; rfl
    all_goals rfl
  case makeMap t r => cases r <;> rfl
  case call c =>
    obtain ⟨callee, args, ats⟩ := c
    cases callee with
    | value f => show stCallV _ _ cx fl fr st ty = _; simp only [stCallV, stepOp, evF_eq, evArgsF_eq]; rfl
    | builtin b => show stCallB _ _ _ cx fl fr st ty = _; simp only [stCallB, stepOp, evArgsF_eq, blF_eq]; rfl
    | invoke r n => rfl
  case move x => show stMove x cx fl fr st ty = _; simp only [stMove, stepOp, evF_eq]
  case assign x => show stAssign x cx fl fr st ty = _; simp only [stAssign, stepOp, evF_eq]
  case pick c a b => show stPick c a b cx fl fr st ty = _; simp only [stPick, stepOp, evF_eq]; rfl
  case box t x => show stBox t x cx fl fr st ty = _; simp only [stBox, stepOp, evF_eq]; rfl
  case build t p => show stBuild t p cx fl fr st ty = _; simp only [stBuild, stepOp, evPartsF_eq, show buildF cx t = buildOp cx t from funext (buildF_eq cx t)]
  case buildSlice t n p => show stBuildSlice t n p cx fl fr st ty = _; simp only [stBuildSlice, stepOp, evPartsF_eq]
  case load t a => show stLoad t a cx fl fr st ty = _; simp only [stLoad, stepOp, evF_eq, loadF_eq]; rfl
  case store t a x => show stStore t a x cx fl fr st ty = _; simp only [stStore, stepOp, evF_eq, storeF_eq, lenF_eq]; rfl
  case nilCheck x => show stNilCheck x cx fl fr st ty = _; simp only [stNilCheck, stepOp, evF_eq]; rfl
  case binOp op t x y u => show stBinOp op t x y u cx fl fr st ty = _; simp only [stBinOp, stepOp, evF_eq, binopF_eq]; rfl
  case unOp op t x => show stUnOp op t x cx fl fr st ty = _; simp only [stUnOp, stepOp, evF_eq]
  case convert s d x => show stConvert s d x cx fl fr st ty = _; simp only [stConvert, stepOp, evF_eq]
  case makeSlice t l c => show stMakeSlice t l c cx fl fr st ty = _; simp only [stMakeSlice, stepOp, evF_eq]; rfl
  case slice t x lo hi mx => show stSlice t x lo hi mx cx fl fr st ty = _; simp only [stSlice, stepOp, evF_eq]; rfl
  case fieldAddr t x f => show stFieldAddr t x f cx fl fr st ty = _; simp only [stFieldAddr, stepOp, evF_eq]
  case field t x f => show stField t x f cx fl fr st ty = _; simp only [stField, stepOp, evF_eq, fieldF_eq]
  case indexAddr t x ix => show stIndexAddr t x ix cx fl fr st ty = _; simp only [stIndexAddr, stepOp, evF_eq]; rfl
  case index t x ix => show stIndex t x ix cx fl fr st ty = _; simp only [stIndex, stepOp, evF_eq]; rfl
  case lookup t m k ok => show stLookup t m k ok cx fl fr st ty = _; simp only [stLookup, stepOp, evF_eq]; rfl
  case mapUpdate t m k x => show stMapUpdate t m k x cx fl fr st ty = _; simp only [stMapUpdate, stepOp, evF_eq]; rfl
  case range t x => show stRange t x cx fl fr st ty = _; simp only [stRange, stepOp, evF_eq]; rfl
  case next it s => show stNext it s cx fl fr st ty = _; simp only [stNext, stepOp, evF_eq]; rfl
  case entry it => show stEntry it cx fl fr st ty = _; simp only [stEntry, stepOp, evF_eq]
  case extract t ix => show stExtract t ix cx fl fr st ty = _; simp only [stExtract, stepOp, evF_eq]; rfl
  all_goals rfl
end Go.Am
