/- The abstract machine, laid out so that the kernel runs it fast: trees and lists. The abstract machine, laid out so that the kernel runs it fast: tables whose rows are closed; the same machine. -/
import Derived.Test.YthlmjjdlmidnlaaGreatDoorAmZb
namespace Go.Am
open Go

namespace T
variable {α : Type}
noncomputable def getF (t : T α) : Nat → Option α :=
  @T.rec α (fun _ => Nat → Option α) (fun _ => none) (fun v _ _ gl gr n => (@Bool.rec (fun _ => Option α) ((@Bool.rec (fun _ => Option α) (gr (n / 2 - 1)) (gl (n / 2)) (Nat.beq (n % 2) 1))) (v) (Nat.beq n 0))) t

theorem getF_eq : ∀ (t : T α) (n : Nat), t.getF n = t.get n
  | .nil, _ => rfl
  | .node v l r, n => by
    show (@Bool.rec (fun _ => Option α) ((@Bool.rec (fun _ => Option α) (r.getF (n / 2 - 1)) (l.getF (n / 2)) (Nat.beq (n % 2) 1))) (v) (Nat.beq n 0)) = (bif Nat.beq n 0 then v else bif Nat.beq (n % 2) 1 then l.get (n / 2) else r.get (n / 2 - 1))
    rw [getF_eq l, getF_eq r]
    cases Nat.beq n 0 <;> cases Nat.beq (n % 2) 1 <;> rfl

noncomputable def setF (t : T α) : Nat → Option α → T α :=
  @T.rec α (fun _ => Nat → Option α → T α) (fun n o => T.set .nil n o) (fun v l r sl sr n o => (@Bool.rec (fun _ => T α) ((@Bool.rec (fun _ => T α) (.node v l (sr (n / 2 - 1) o)) (.node v (sl (n / 2) o) r) (Nat.beq (n % 2) 1))) (.node o l r) (Nat.beq n 0))) t

theorem put_fuel : ∀ (f g : Nat) (t : T α) (n : Nat) (o : Option α), n < f → n < g → put f t n o = put g t n o
  | 0, _, _, _, _, h, _ => by omega
  | _ + 1, 0, _, _, _, _, h => by omega
  | f + 1, g + 1, t, n, o, h1, h2 => by
    rcases form n with rfl | ⟨k, rfl⟩ | ⟨k, rfl⟩
    · rw [put0, put0]
    · rw [put1, put1, put_fuel f g _ k o (by omega) (by omega)]
    · rw [put2, put2, put_fuel f g _ k o (by omega) (by omega)]

theorem setF_eq : ∀ (t : T α) (n : Nat) (o : Option α), t.setF n o = t.set n o
  | .nil, _, _ => rfl
  | .node v l r, n, o => by
    show (@Bool.rec (fun _ => T α) ((@Bool.rec (fun _ => T α) (.node v l (r.setF (n / 2 - 1) o)) (.node v (l.setF (n / 2) o) r) (Nat.beq (n % 2) 1))) (.node o l r) (Nat.beq n 0)) = _
    rw [setF_eq l, setF_eq r]
    rcases form n with rfl | ⟨k, rfl⟩ | ⟨k, rfl⟩
    · rw [set, put0]; rfl
    · rw [beq_false (by omega : 2 * k + 1 ≠ 0), beq_true (by omega : (2 * k + 1) % 2 = 1), show (2 * k + 1) / 2 = k by omega]
      simp only [set]
      rw [put1, put_fuel (2 * k + 1) (k + 1) _ k o (by omega) (by omega)]; rfl
    · rw [beq_false (by omega : 2 * k + 2 ≠ 0), beq_false (by omega : (2 * k + 2) % 2 ≠ 1), show (2 * k + 2) / 2 - 1 = k by omega]
      simp only [set]
      rw [put2, put_fuel (2 * k + 2) (k + 1) _ k o (by omega) (by omega)]; rfl
end T

section
variable {α β : Type}

noncomputable def consO (x : α) (o : Option (List α)) : Option (List α) := @Option.rec (List α) (fun _ => Option (List α)) none (fun l => some (x :: l)) o

noncomputable def lenF (l : List α) : Nat := @List.rec α (fun _ => Nat) 0 (fun _ _ n => n + 1) l
theorem lenF_eq : ∀ l : List α, lenF l = l.length
  | [] => rfl
  | _ :: l => congrArg (· + 1) (lenF_eq l)

noncomputable def takeF (l : List α) : Nat → Option (List α) :=
  @List.rec α (fun _ => Nat → Option (List α)) (fun n => (@Bool.rec (fun _ => Option (List α)) (none) (some []) (Nat.beq n 0))) (fun x _ ih n => (@Bool.rec (fun _ => Option (List α)) (consO x (ih (n - 1))) (some []) (Nat.beq n 0))) l

theorem takeF_eq : ∀ (l : List α) (n : Nat), takeF l n = bif Nat.beq (l.take n).length n then some (l.take n) else none
  | [], 0 => rfl
  | [], n + 1 => by
    show none = _
    simp only [List.take_nil, List.length_nil]; rfl
  | x :: l, 0 => rfl
  | x :: l, n + 1 => by
    show consO x (takeF l n) = _
    rw [takeF_eq l n]
    simp only [List.take_succ_cons, List.length_cons]
    have : Nat.beq ((l.take n).length + 1) (n + 1) = Nat.beq (l.take n).length n := rfl
    rw [this]
    cases Nat.beq (l.take n).length n <;> rfl

noncomputable def dropF (l : List α) : Nat → List α :=
  @List.rec α (fun _ => Nat → List α) (fun _ => []) (fun x xs ih n => (@Bool.rec (fun _ => List α) (ih (n - 1)) (x :: xs) (Nat.beq n 0))) l

theorem dropF_eq : ∀ (l : List α) (n : Nat), dropF l n = l.drop n
  | [], n => by cases n <;> rfl
  | x :: l, 0 => rfl
  | x :: l, n + 1 => dropF_eq l n

noncomputable def nthF (l : List α) : Nat → Option α :=
  @List.rec α (fun _ => Nat → Option α) (fun _ => none) (fun x _ ih n => (@Bool.rec (fun _ => Option α) (ih (n - 1)) (some x) (Nat.beq n 0))) l

theorem nthF_eq : ∀ (l : List α) (n : Nat), nthF l n = l[n]?
  | [], n => by simp [nthF]
  | x :: l, 0 => by simp [nthF]
  | x :: l, n + 1 => by
    have := nthF_eq l n
    simp only [List.getElem?_cons_succ]
    exact this

noncomputable def allF (p : α → Bool) (l : List α) : Bool := @List.rec α (fun _ => Bool) true (fun x _ ih => (@Bool.rec (fun _ => Bool) (false) (ih) (p x))) l
theorem allF_eq (p : α → Bool) : ∀ l : List α, allF p l = l.all p
  | [] => rfl
  | x :: l => by
    show (@Bool.rec (fun _ => Bool) (false) (allF p l) (p x)) = _
    rw [allF_eq p l, List.all_cons]; cases p x <;> rfl

noncomputable def overF (l : List α) : List α → Option (List α) :=
  @List.rec α (fun _ => List α → Option (List α)) (fun new => @List.rec α (fun _ => Option (List α)) (some []) (fun _ _ _ => none) new)
    (fun x xs ih new => @List.rec α (fun _ => Option (List α)) (some (x :: xs)) (fun y ys _ => consO y (ih ys)) new) l

noncomputable def spliceF (l : List α) : Nat → List α → Option (List α) :=
  @List.rec α (fun _ => Nat → List α → Option (List α)) (fun off new => (@Bool.rec (fun _ => Option (List α)) (none) (overF [] new) (Nat.beq off 0)))
    (fun x xs ih off new => (@Bool.rec (fun _ => Option (List α)) (consO x (ih (off - 1) new)) (overF (x :: xs) new) (Nat.beq off 0))) l

theorem overF_eq : ∀ (l new : List α), overF l new = bif Nat.ble new.length l.length then some (new ++ l.drop new.length) else none
  | [], [] => rfl
  | [], _ :: _ => rfl
  | x :: l, [] => rfl
  | x :: l, y :: new => by
    show consO y (overF l new) = _
    rw [overF_eq l new]
    simp only [List.length_cons, List.drop_succ_cons, List.cons_append]
    have : Nat.ble (new.length + 1) (l.length + 1) = Nat.ble new.length l.length := rfl
    rw [this]
    cases Nat.ble new.length l.length <;> rfl
end

theorem spliceF_eq : ∀ (l : List C) (off : Nat) (new : List C), spliceF l off new = splice l off new
  | [], 0, new => by
    show overF [] new = _
    rw [overF_eq, splice]; simp
  | [], off + 1, new => by
    show none = _
    simp only [splice, List.length_nil]
    have : Nat.ble (off + 1 + new.length) 0 = false := by
      cases h : Nat.ble (off + 1 + new.length) 0 with
      | false => rfl
      | true => have := Nat.le_of_ble_eq_true h; omega
    rw [this]; rfl
  | x :: l, 0, new => by
    show overF (x :: l) new = _
    rw [overF_eq, splice]; simp
  | x :: l, off + 1, new => by
    show consO x (spliceF l off new) = _
    rw [spliceF_eq l off new]
    simp only [splice, List.length_cons]
    have e : off + 1 + new.length = off + new.length + 1 := by omega
    rw [e]
    have : Nat.ble (off + new.length + 1) (l.length + 1) = Nat.ble (off + new.length) l.length := rfl
    rw [this]
    cases Nat.ble (off + new.length) l.length <;> simp [consO]

noncomputable def subF (l : List C) (off n : Nat) : Option (List C) := takeF (dropF l off) n
theorem subF_eq (l : List C) (off n : Nat) : subF l off n = sub l off n := by
  unfold subF sub; rw [dropF_eq, takeF_eq]

/-! ### cells and blocks, by tables whose rows are closed -/
section
variable {γ : Type}
/-- at a reference into an own block; at anything else -/
noncomputable def onPtr (p : Nat → Nat → γ) (e : C → γ) (c : C) : γ :=
  @C.rec (fun _ => γ) (fun v => e (.sc v)) (fun k x => e (.sy k x)) (fun x => e (.sb x)) (fun x => e (.slx x)) (fun x => e (.stx x)) (fun a b c => e (.osl a b c)) (fun a b => e (.optr a b)) p (fun a b c d f => e (.sl a b c d f)) (fun i => e (.mp i)) (fun f l => e (.fn f l)) (e .unk) (fun i => e (.yl i)) (fun a b c => e (.os a b c)) (fun a b c => e (.ot a b c)) (fun a b => e (.hi a b)) (fun a b c => e (.ost a b c)) (fun a b => e (.oat a b)) (fun a b => e (.rs a b)) c

noncomputable def onCells (p : List C → TypeId → Bool → γ) (e : γ) (o : Option O) : γ :=
  @Option.rec O (fun _ => γ) e (fun o => @O.rec (fun _ => γ) p (fun _ _ => e) (fun _ _ => e) (fun _ _ _ _ => e) e (fun _ _ _ _ => e) (fun _ _ _ _ _ _ _ _ => e) o) o
end

noncomputable def loadF (cx : Cx) (st : St) (a : C) (n : Nat) : Option (List C) :=
  onPtr (fun id off => onCells (fun l _ _ => subF l off n) none (st.heap.getF id)) (fun a => loadN cx st a n) a
theorem loadF_eq (cx : Cx) (st : St) (a : C) (n : Nat) : loadF cx st a n = loadN cx st a n := by
  cases a <;> try rfl
  rename_i id off
  show onCells (fun l _ _ => subF l off n) none (st.heap.getF id) = _
  unfold loadN
  simp only [St.get, T.getF_eq]
  cases st.heap.get id with
  | none => rfl
  | some o => cases o <;> simp [onCells, subF_eq]

noncomputable def storeF (fl : Nat) (st : St) (a : C) (new : List C) : Option St :=
  onPtr (fun id off => (@Bool.rec (fun _ => Option St) (none) (onCells (fun l e fx => @Option.rec (List C) (fun _ => Option St) none (fun l' => some ⟨st.heap.setF id (some (.cells l' e fx)), st.next⟩) (spliceF l off new)) none (st.heap.getF id)) (Nat.ble fl id))) (fun _ => none) a
theorem storeF_eq (fl : Nat) (st : St) (a : C) (new : List C) : storeF fl st a new = storeN fl st a new := by
  cases a <;> try rfl
  rename_i id off
  show (@Bool.rec (fun _ => Option St) (none) (onCells (fun l e fx => @Option.rec (List C) (fun _ => Option St) none (fun l' => some ⟨st.heap.setF id (some (.cells l' e fx)), st.next⟩) (spliceF l off new)) none (st.heap.getF id)) (Nat.ble fl id)) = _
  unfold storeN
  simp only [St.get, T.getF_eq, T.setF_eq]
  cases Nat.ble fl id
  · rfl
  · simp only [cond_true]
    cases st.heap.get id with
    | none => rfl
    | some o =>
      cases o <;> simp only [onCells]
      simp only [spliceF_eq]
      cases splice _ off new <;> rfl

noncomputable def fieldF (cx : Cx) (t : TypeId) (x : V) (f : Nat) : Option V :=
  match cx.ty t, x with
  | some ty, .a (.agg cs) => (match ty.under with
    | .struct fs => match fs[f]? with
      | some fd => match cx.ty fd.type with
        | some fty => match subF cs fd.offset fty.size with
          | some l => pack fty l
          | none => none
        | none => none
      | none => none
    | _ => none)
  | _, _ => none
theorem fieldF_eq (cx : Cx) (t : TypeId) (x : V) (f : Nat) : fieldF cx t x f = fieldOp cx t x f := by
  unfold fieldF fieldOp
  simp only [subF_eq]
  rfl

noncomputable def fillF (place : Nat → Option (Nat × Nat)) (cells : List C) : List (Nat × V) → Option (List C)
  | [] => some cells
  | (i, v) :: rest => match place i, cellsOf v with
    | some (off, size), some cs =>
      bif Nat.beq (lenF cs) size then (match spliceF cells off cs with
        | some cells' => fillF place cells' rest
        | none => none) else none
    | _, _ => none
theorem fillF_eq (place : Nat → Option (Nat × Nat)) : ∀ (ps : List (Nat × V)) (cells : List C), fillF place cells ps = fillC place cells ps
  | [], _ => rfl
  | (i, v) :: rest, cells => by
    have ih := fillF_eq place rest
    simp only [fillF, fillC, lenF_eq, spliceF_eq, ih]
    rfl

noncomputable def buildF (cx : Cx) (t : TypeId) (parts : List (Nat × V)) : Option V :=
  match cx.ty t with
  | some ty => (match ty.under with
    | .struct fs => bif fs.toList.all fun fd => (cx.ty fd.type).isSome then
        (fillF (fun i => match fs.toList[i]? with
        | some fd => (cx.ty fd.type).map fun fty => (fd.offset, fty.size)
        | none => none) (zeroC ty) parts).map fun l => .a (.agg l) else none
    | .array _ e => match cx.ty e with
      | some ety => (fillF (fun i => some (i * ety.size, ety.size)) (zeroC ty) parts).map fun l => .a (.agg l)
      | none => none
    | _ => none)
  | none => none
theorem buildF_eq (cx : Cx) (t : TypeId) (parts : List (Nat × V)) : buildF cx t parts = buildOp cx t parts := by
  unfold buildF buildOp
  simp only [fillF_eq]
  rfl
end Go.Am

namespace Go.Am
open Go


noncomputable def evF (x : Operand) : Fr → Option V :=
  @Operand.rec (fun _ => Fr → Option V) (fun t fr => fr.t.getF t) (fun v _ => bif scal v then some (sc v) else none) (fun g _ => some (sc (.pointer (some ⟨g, 0, none⟩)))) (fun f _ => some (.a (.c (.fn f [])))) x

theorem evF_eq (x : Operand) (fr : Fr) : evF x fr = ev fr x := by
  cases x with
  | tmp t => exact T.getF_eq fr.t t
  | _ => rfl

noncomputable def evPartsF (fr : Fr) : List (Nat × Operand) → Option (List (Nat × V))
  | [] => some []
  | (i, x) :: rest => match evF x fr, evPartsF fr rest with
    | some v, some r => some ((i, v) :: r)
    | _, _ => none

theorem evPartsF_eq (fr : Fr) : ∀ l, evPartsF fr l = evParts fr l
  | [] => rfl
  | (i, x) :: rest => by simp only [evPartsF, evParts, evF_eq, evPartsF_eq fr rest]; rfl

noncomputable def evArgsF (fr : Fr) : List Operand → Option (List V)
  | [] => some []
  | x :: rest => match evF x fr, evArgsF fr rest with
    | some v, some r => some (v :: r)
    | _, _ => none

theorem evArgsF_eq (fr : Fr) : ∀ l, evArgsF fr l = evArgs fr l
  | [] => rfl
  | x :: rest => by simp only [evArgsF, evArgs, evF_eq, evArgsF_eq fr rest]; rfl

def asInt : V → Option (IntKind × Int)
  | .a (.c (.sc (.int k n))) => some (k, n)
  | _ => none

theorem asInt_some {v : V} {k : IntKind} {n : Int} (h : asInt v = some (k, n)) : v = .a (.c (.sc (.int k n))) := by
  unfold asInt at h
  split at h
  · simp only [Option.some.injEq, Prod.mk.injEq] at h; rw [h.1, h.2]
  · cases h

def ifK (k k' : IntKind) (v : V) : Option V := bif decide (k = k') then some v else none

/-- An operator at plain integers. -/
def intF (op : BinOp) : Cx → TypeId → IntKind → Int → IntKind → Int → Option V :=
  match op with
  | .add => fun _ _ k a k' b => ifK k k' (sc (.int k (k.wrap (a + b))))
  | .sub => fun _ _ k a k' b => ifK k k' (sc (.int k (k.wrap (a - b))))
  | .mul => fun _ _ k a k' b => ifK k k' (sc (.int k (k.wrap (a * b))))
  | .eql => fun _ _ k a k' b => ifK k k' (sc (.bool (a == b)))
  | .neq => fun _ _ k a k' b => ifK k k' (sc (.bool (a != b)))
  | .lss => fun _ _ k a k' b => ifK k k' (sc (.bool (a < b)))
  | .leq => fun _ _ k a k' b => ifK k k' (sc (.bool (a ≤ b)))
  | .gtr => fun _ _ k a k' b => ifK k k' (sc (.bool (a > b)))
  | .geq => fun _ _ k a k' b => ifK k k' (sc (.bool (a ≥ b)))
  | op => fun cx t k a k' b => binop0 cx op t (.a (.c (.sc (.int k a)))) (.a (.c (.sc (.int k' b))))

def binopF (cx : Cx) (op : BinOp) (t : TypeId) (x y : V) : Option V :=
  match asInt x with
  | none => binop cx op t x y
  | some (k, a) => match asInt y with
    | none => binop cx op t x y
    | some (k', b) => intF op cx t k a k' b

theorem binopF_eq (cx : Cx) (op : BinOp) (t : TypeId) (x y : V) : binopF cx op t x y = binop cx op t x y := by
  unfold binopF
  split
  · rfl
  · rename_i k a hx
    split
    · rfl
    · rename_i k' b hy
      rw [asInt_some hx, asInt_some hy]
      cases op <;> rfl

def bLen (cx : Cx) (_fl : Nat) (ts : List TypeId) (_ty : TypeId) (args : List V) (st : St) : R :=
  match ts, args with
  | t :: _, [x] => .ofV st (lenOp cx t x st)
  | _, _ => .fail
def bAppend (cx : Cx) (fl : Nat) (ts : List TypeId) (ty : TypeId) (args : List V) (st : St) : R :=
  match ts, args with
  | [t, xt], [s, x] => .ofVS (appendX cx fl t ty xt s x st)
  | _, _ => .fail
def bMax (_cx : Cx) (_fl : Nat) (_ts : List TypeId) (_ty : TypeId) (args : List V) (st : St) : R :=
  match args with
  | x :: xs => .ofV st (fold2 max2 xs x)
  | _ => .fail

def blF (b : Builtin) : Cx → Nat → List TypeId → TypeId → List V → St → R :=
  match b with
  | .len => bLen
  | .append => bAppend
  | .max => bMax
  | b => fun cx fl ts ty args st => builtinOp cx fl b ts ty args st

theorem blF_eq (b : Builtin) (cx : Cx) (fl : Nat) (ts : List TypeId) (ty : TypeId) (args : List V) (st : St) : blF b cx fl ts ty args st = builtinOp cx fl b ts ty args st := by
  cases b <;> try rfl
  · rcases ts with _ | ⟨t, _ | ⟨t2, _ | ⟨t3, ts⟩⟩⟩ <;> rcases args with _ | ⟨x, _ | ⟨y, _ | ⟨z, args⟩⟩⟩ <;> rfl
  · rcases ts with _ | ⟨t, ts⟩ <;> rcases args with _ | ⟨x, _ | ⟨y, args⟩⟩ <;> rfl
  · rcases args with _ | ⟨x, args⟩ <;> rfl

noncomputable def stCallV (f : Operand) (as : Array Operand) (_cx : Cx) (_fl : Nat) (fr : Fr) (_st : St) (_ty : TypeId) : R :=
  match evF f fr, evArgsF fr as.toList with
  | some (.a (.c (.fn g caps))), some args => .call g (args ++ caps.map fun id => .a (.c (.ptr id 0)))
  | some (.a (.c (.yl id))), some args => .yield id args
  | _, _ => .fail
noncomputable def stCallB (b : Builtin) (ts : Array TypeId) (as : Array Operand) (cx : Cx) (fl : Nat) (fr : Fr) (st : St) (ty : TypeId) : R :=
  match evArgsF fr as.toList with
  | some args => blF b cx fl ts.toList ty args st
  | none => .fail

noncomputable def stMove (x : Operand) (cx : Cx) (_fl : Nat) (fr : Fr) (st : St) (_ty : TypeId) : R :=
  .ofV st ((evF x fr).map (tryB cx))
noncomputable def stAssign (x : Operand) (_cx : Cx) (_fl : Nat) (fr : Fr) (st : St) (_ty : TypeId) : R :=
  .ofV st (evF x fr)
noncomputable def stPick (c : Operand) (a : Operand) (b : Operand) (cx : Cx) (_fl : Nat) (fr : Fr) (st : St) (_ty : TypeId) : R :=
  match ((evF c fr).bind (resB cx)).bind toBool with
    | some true => .ofV st (evF a fr)
    | some false => .ofV st (evF b fr)
    | none => .fail
noncomputable def stAlloc (t : TypeId) (cx : Cx) (_fl : Nat) (_fr : Fr) (st : St) (_ty : TypeId) : R :=
  match cx.ty t with
    | some ty => .val (.a (.c (.ptr st.next 0))) (st.new (.cells (zeroC ty) t false))
    | none => .fail
noncomputable def stBox (t : TypeId) (x : Operand) (_cx : Cx) (_fl : Nat) (fr : Fr) (st : St) (_ty : TypeId) : R :=
  match (evF x fr).bind cellsOf with
    | some l => .val (.a (.c (.ptr st.next 0))) (st.new (.cells l t false))
    | none => .fail
noncomputable def stBuild (t : TypeId) (parts : Array (Nat × Operand)) (cx : Cx) (_fl : Nat) (fr : Fr) (st : St) (_ty : TypeId) : R :=
  .ofV st ((evPartsF fr parts.toList).bind (buildF cx t))
noncomputable def stBuildSlice (t : TypeId) (len : Nat) (parts : Array (Nat × Operand)) (cx : Cx) (_fl : Nat) (fr : Fr) (st : St) (_ty : TypeId) : R :=
  .ofVS ((evPartsF fr parts.toList).bind fun ps => buildSlice cx t len ps st)
noncomputable def stLoad (t : TypeId) (a : Operand) (cx : Cx) (_fl : Nat) (fr : Fr) (st : St) (_ty : TypeId) : R :=
  match cx.ty t, (evF a fr).bind toC with
    | some ty, some p => .ofV st ((loadF cx st p (bif isAggT ty.under then ty.size else 1)).bind (pack ty))
    | _, _ => .fail
noncomputable def stStore (t : TypeId) (a : Operand) (x : Operand) (cx : Cx) (fl : Nat) (fr : Fr) (st : St) (_ty : TypeId) : R :=
  match cx.ty t, (evF a fr).bind toC, (evF x fr).bind cellsOf with
    | some ty, some p, some l => bif Nat.beq (lenF l) ty.size && !(Nat.beq ty.size 0) then .ofS (storeF fl st p l) else .fail
    | _, _, _ => .fail
noncomputable def stNilCheck (x : Operand) (_cx : Cx) (_fl : Nat) (fr : Fr) (st : St) (_ty : TypeId) : R :=
  match evF x fr with
    | some (.a (.c (.ptr id off))) => .val (.a (.c (.ptr id off))) st
    | some (.a (.c (.fn f cs))) => .val (.a (.c (.fn f cs))) st
    | some (.a (.c (.sc (.pointer (some a))))) => .val (sc (.pointer (some a))) st
    | _ => .fail
noncomputable def stBinOp (op : BinOp) (t : TypeId) (x : Operand) (y : Operand) (_u : TypeId) (cx : Cx) (_fl : Nat) (fr : Fr) (st : St) (_ty : TypeId) : R :=
  match evF x fr, evF y fr with
    | some a, some b => .ofV st (binopF cx op t a b)
    | _, _ => .fail
noncomputable def stUnOp (op : UnOp) (_t : TypeId) (x : Operand) (cx : Cx) (_fl : Nat) (fr : Fr) (st : St) (_ty : TypeId) : R :=
  .ofV st (((evF x fr).bind (resB cx)).bind (Am.unOp op))
noncomputable def stConvert (src : TypeId) (dst : TypeId) (x : Operand) (cx : Cx) (_fl : Nat) (fr : Fr) (st : St) (_ty : TypeId) : R :=
  .ofV st ((evF x fr).bind (convOp cx st src dst))
noncomputable def stMakeFunc (fn : Fn) (first : Array Operand) (caps : Array Operand) (_cx : Cx) (_fl : Nat) (fr : Fr) (st : St) (_ty : TypeId) : R :=
  match fn with
    | .func f => bif Nat.beq first.size 0 then (match (evArgsF fr caps.toList).bind capIds with
      | some ids => .val (.a (.c (.fn f ids))) st
      | none => .fail) else .fail
    | _ => .fail
noncomputable def stMakeMap (_t : TypeId) (r : Option Operand) (_cx : Cx) (_fl : Nat) (_fr : Fr) (st : St) (_ty : TypeId) : R :=
  match r with
    | none => .val (.a (.c (.mp st.next))) (st.new (.map [] 0))
    | some _ => .fail
noncomputable def stMakeSlice (t : TypeId) (l : Operand) (c : Operand) (cx : Cx) (_fl : Nat) (fr : Fr) (st : St) (_ty : TypeId) : R :=
  match evF l fr, evF c fr with
    | some l, some c => .ofVS (Am.makeSlice cx t l c st)
    | _, _ => .fail
noncomputable def stSlice (t : TypeId) (x : Operand) (lo : Option Operand) (hi : Option Operand) (mx : Option Operand) (cx : Cx) (_fl : Nat) (fr : Fr) (st : St) (_ty : TypeId) : R :=
  match evF x fr, evO fr lo, evO fr hi, evO fr mx with
    | some x, some lo, some hi, some mx => .ofV st (sliceOp cx t x lo hi mx)
    | _, _, _, _ => .fail
noncomputable def stFieldAddr (t : TypeId) (x : Operand) (f : Nat) (cx : Cx) (_fl : Nat) (fr : Fr) (st : St) (_ty : TypeId) : R :=
  .ofV st ((evF x fr).bind fun v => Am.fieldAddr cx t v f)
noncomputable def stField (t : TypeId) (x : Operand) (f : Nat) (cx : Cx) (_fl : Nat) (fr : Fr) (st : St) (_ty : TypeId) : R :=
  .ofV st ((evF x fr).bind fun v => fieldF cx t v f)
noncomputable def stIndexAddr (t : TypeId) (x : Operand) (ix : Operand) (cx : Cx) (_fl : Nat) (fr : Fr) (st : St) (_ty : TypeId) : R :=
  match evF x fr, evF ix fr with
    | some x, some ix => .ofV st (Am.indexAddrX cx t x ix)
    | _, _ => .fail
noncomputable def stIndex (t : TypeId) (x : Operand) (ix : Operand) (cx : Cx) (_fl : Nat) (fr : Fr) (st : St) (_ty : TypeId) : R :=
  match evF x fr, evF ix fr with
    | some x, some ix => .ofV st (indexOp cx t x ix)
    | _, _ => .fail
noncomputable def stLookup (t : TypeId) (m : Operand) (k : Operand) (ok : Bool) (cx : Cx) (_fl : Nat) (fr : Fr) (st : St) (_ty : TypeId) : R :=
  match evF m fr, evF k fr with
    | some m, some k => .ofV st (Am.lookup cx t m k ok st)
    | _, _ => .fail
noncomputable def stMapUpdate (t : TypeId) (m : Operand) (k : Operand) (x : Operand) (cx : Cx) (fl : Nat) (fr : Fr) (st : St) (_ty : TypeId) : R :=
  match evF m fr, evF k fr, evF x fr with
    | some m, some k, some x => .ofS (Am.mapUpdate cx fl t m k x st)
    | _, _, _ => .fail
noncomputable def stRange (t : TypeId) (x : Operand) (cx : Cx) (_fl : Nat) (fr : Fr) (st : St) (_ty : TypeId) : R :=
  match cx.ty t, evF x fr with
    | some ty, some v => .ofVS (rangeOp cx ty v st)
    | _, _ => .fail
noncomputable def stNext (it : Operand) (isS : Bool) (cx : Cx) (fl : Nat) (fr : Fr) (st : St) (_ty : TypeId) : R :=
  match evF it fr with
    | some v => nextOp cx fl v isS st
    | none => .fail
noncomputable def stEntry (it : Operand) (_cx : Cx) (_fl : Nat) (fr : Fr) (st : St) (_ty : TypeId) : R :=
  .ofV st ((evF it fr).bind fun v => entryOp v st)
noncomputable def stExtract (t : Operand) (ix : Nat) (_cx : Cx) (_fl : Nat) (fr : Fr) (st : St) (_ty : TypeId) : R :=
  match evF t fr with
    | some (.tup l) => (match l[ix]? with | some x => .val (.a x) st | none => .fail)
    | _ => .fail
noncomputable def stCall (c : Call) (cx : Cx) (fl : Nat) (fr : Fr) (st : St) (ty : TypeId) : R :=
  match c.callee with
    | .value f => stCallV f c.args cx fl fr st ty
    | .builtin b => stCallB b c.argTypes c.args cx fl fr st ty
    | _ => .fail
noncomputable def stFail : Cx → Nat → Fr → St → TypeId → R := fun _ _ _ _ _ => .fail
/-- One operation, by a table whose rows are closed. -/
noncomputable def stepF (o : Op) : Cx → Nat → Fr → St → TypeId → R :=
  @Op.rec (fun _ => Cx → Nat → Fr → St → TypeId → R)
    stMove
    stAssign
    stPick
    stAlloc
    stBox
    stBuild
    stBuildSlice
    (fun _ _ _ _ => stFail)
    stLoad
    stStore
    (fun _ => stFail)
    (fun _ => stFail)
    stNilCheck
    stBinOp
    stUnOp
    stConvert
    (fun _ _ => stFail)
    (fun _ _ => stFail)
    stMakeFunc
    stMakeMap
    (fun _ _ => stFail)
    stMakeSlice
    stSlice
    stFieldAddr
    stField
    stIndexAddr
    stIndex
    stLookup
    stMapUpdate
    (fun _ _ _ => stFail)
    (fun _ _ _ _ => stFail)
    stRange
    stNext
    stEntry
    (fun _ _ _ _ => stFail)
    stExtract
    stCall
    (fun _ => stFail)
    (fun _ => stFail)
    (fun _ => stFail)
    (fun _ _ => stFail)
    (fun _ _ _ => stFail)
    (fun _ _ => stFail)
    o

theorem stepF_eq (o : Op) (cx : Cx) (fl : Nat) (fr : Fr) (st : St) (ty : TypeId) : stepF o cx fl fr st ty = stepOp cx fl fr st o ty := by
  cases o
  case makeFunc fn first caps =>
    cases fn
    case func f =>
      show stMakeFunc (.func f) first caps cx fl fr st ty = _
      simp only [stMakeFunc, stepOp, evArgsF_eq]; rfl
    all_goals rfl
  case makeMap t r => cases r <;> rfl
  case call c =>
    obtain ⟨callee, args, ats⟩ := c
    cases callee with
    | value f => show stCallV _ _ cx fl fr st ty = _; simp only [stCallV, stepOp, evF_eq, evArgsF_eq]; rfl
    | builtin b => show stCallB _ _ _ cx fl fr st ty = _; simp only [stCallB, stepOp, evArgsF_eq, blF_eq]; rfl
    | invoke r n => rfl
  case move x => show stMove x cx fl fr st ty = _; simp only [stMove, stepOp, evF_eq]
  case assign x => show stAssign x cx fl fr st ty = _; simp only [stAssign, stepOp, evF_eq]
  case pick c a b => show stPick c a b cx fl fr st ty = _; simp only [stPick, stepOp, evF_eq]; rfl
  case box t x => show stBox t x cx fl fr st ty = _; simp only [stBox, stepOp, evF_eq]; rfl
  case build t p => show stBuild t p cx fl fr st ty = _; simp only [stBuild, stepOp, evPartsF_eq, show buildF cx t = buildOp cx t from funext (buildF_eq cx t)]
  case buildSlice t n p => show stBuildSlice t n p cx fl fr st ty = _; simp only [stBuildSlice, stepOp, evPartsF_eq]
  case load t a => show stLoad t a cx fl fr st ty = _; simp only [stLoad, stepOp, evF_eq, loadF_eq]; rfl
  case store t a x => show stStore t a x cx fl fr st ty = _; simp only [stStore, stepOp, evF_eq, storeF_eq, lenF_eq]; rfl
  case nilCheck x => show stNilCheck x cx fl fr st ty = _; simp only [stNilCheck, stepOp, evF_eq]; rfl
  case binOp op t x y u => show stBinOp op t x y u cx fl fr st ty = _; simp only [stBinOp, stepOp, evF_eq, binopF_eq]; rfl
  case unOp op t x => show stUnOp op t x cx fl fr st ty = _; simp only [stUnOp, stepOp, evF_eq]
  case convert s d x => show stConvert s d x cx fl fr st ty = _; simp only [stConvert, stepOp, evF_eq]
  case makeSlice t l c => show stMakeSlice t l c cx fl fr st ty = _; simp only [stMakeSlice, stepOp, evF_eq]; rfl
  case slice t x lo hi mx => show stSlice t x lo hi mx cx fl fr st ty = _; simp only [stSlice, stepOp, evF_eq]; rfl
  case fieldAddr t x f => show stFieldAddr t x f cx fl fr st ty = _; simp only [stFieldAddr, stepOp, evF_eq]
  case field t x f => show stField t x f cx fl fr st ty = _; simp only [stField, stepOp, evF_eq, fieldF_eq]
  case indexAddr t x ix => show stIndexAddr t x ix cx fl fr st ty = _; simp only [stIndexAddr, stepOp, evF_eq]; rfl
  case index t x ix => show stIndex t x ix cx fl fr st ty = _; simp only [stIndex, stepOp, evF_eq]; rfl
  case lookup t m k ok => show stLookup t m k ok cx fl fr st ty = _; simp only [stLookup, stepOp, evF_eq]; rfl
  case mapUpdate t m k x => show stMapUpdate t m k x cx fl fr st ty = _; simp only [stMapUpdate, stepOp, evF_eq]; rfl
  case range t x => show stRange t x cx fl fr st ty = _; simp only [stRange, stepOp, evF_eq]; rfl
  case next it s => show stNext it s cx fl fr st ty = _; simp only [stNext, stepOp, evF_eq]; rfl
  case entry it => show stEntry it cx fl fr st ty = _; simp only [stEntry, stepOp, evF_eq]
  case extract t ix => show stExtract t ix cx fl fr st ty = _; simp only [stExtract, stepOp, evF_eq]; rfl
  all_goals rfl
end Go.Am
