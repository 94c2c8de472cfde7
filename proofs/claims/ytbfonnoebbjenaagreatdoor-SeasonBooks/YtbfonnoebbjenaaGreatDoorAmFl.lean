/- The abstract machine, laid out so that the kernel runs it fast: trees and lists. -/
import Derived.Test.YtbfonnoebbjenaaGreatDoorAmSy
namespace Go.Am
open Go

namespace T
variable {α : Type}
noncomputable def getF (t : T α) : Nat → Option α :=
  @T.rec α (fun _ => Nat → Option α) (fun _ => none) (fun v _ _ gl gr n => (@Bool.rec (fun _ => Option α) ((@Bool.rec (fun _ => Option α) (gr (n / 2 - 1)) (gl (n / 2)) (Nat.beq (n % 2) 1))) (v) (Nat.beq n 0))) t

theorem getF_eq : ∀ (t : T α) (n : Nat), t.getF n = t.get n
  | .nil, _ => rfl
  | .node v l r, n => by
    show (@Bool.rec (fun _ => Option α) ((@Bool.rec (fun _ => Option α) (r.getF (n / 2 - 1)) (l.getF (n / 2)) (Nat.beq (n % 2) 1))) (v) (Nat.beq n 0)) = (bif Nat.beq n 0 then v else bif Nat.beq (n % 2) 1 then l.get (n / 2) else r.get (n / 2 - 1))
    rw [getF_eq l, getF_eq r]
    cases Nat.beq n 0 <;> cases Nat.beq (n % 2) 1 <;> rfl

noncomputable def setF (t : T α) : Nat → Option α → T α :=
  @T.rec α (fun _ => Nat → Option α → T α) (fun n o => T.set .nil n o) (fun v l r sl sr n o => (@Bool.rec (fun _ => T α) ((@Bool.rec (fun _ => T α) (.node v l (sr (n / 2 - 1) o)) (.node v (sl (n / 2) o) r) (Nat.beq (n % 2) 1))) (.node o l r) (Nat.beq n 0))) t

theorem put_fuel : ∀ (f g : Nat) (t : T α) (n : Nat) (o : Option α), n < f → n < g → put f t n o = put g t n o
  | 0, _, _, _, _, h, _ => by omega
  | _ + 1, 0, _, _, _, _, h => by omega
  | f + 1, g + 1, t, n, o, h1, h2 => by
    rcases form n with rfl | ⟨k, rfl⟩ | ⟨k, rfl⟩
    · rw [put0, put0]
    · rw [put1, put1, put_fuel f g _ k o (by omega) (by omega)]
    · rw [put2, put2, put_fuel f g _ k o (by omega) (by omega)]

theorem setF_eq : ∀ (t : T α) (n : Nat) (o : Option α), t.setF n o = t.set n o
  | .nil, _, _ => rfl
  | .node v l r, n, o => by
    show (@Bool.rec (fun _ => T α) ((@Bool.rec (fun _ => T α) (.node v l (r.setF (n / 2 - 1) o)) (.node v (l.setF (n / 2) o) r) (Nat.beq (n % 2) 1))) (.node o l r) (Nat.beq n 0)) = _
    rw [setF_eq l, setF_eq r]
    rcases form n with rfl | ⟨k, rfl⟩ | ⟨k, rfl⟩
    · rw [set, put0]; rfl
    · rw [beq_false (by omega : 2 * k + 1 ≠ 0), beq_true (by omega : (2 * k + 1) % 2 = 1), show (2 * k + 1) / 2 = k by omega]
      simp only [set]
      rw [put1, put_fuel (2 * k + 1) (k + 1) _ k o (by omega) (by omega)]; rfl
    · rw [beq_false (by omega : 2 * k + 2 ≠ 0), beq_false (by omega : (2 * k + 2) % 2 ≠ 1), show (2 * k + 2) / 2 - 1 = k by omega]
      simp only [set]
      rw [put2, put_fuel (2 * k + 2) (k + 1) _ k o (by omega) (by omega)]; rfl
end T

section
variable {α β : Type}

noncomputable def consO (x : α) (o : Option (List α)) : Option (List α) := @Option.rec (List α) (fun _ => Option (List α)) none (fun l => some (x :: l)) o

noncomputable def lenF (l : List α) : Nat := @List.rec α (fun _ => Nat) 0 (fun _ _ n => n + 1) l
theorem lenF_eq : ∀ l : List α, lenF l = l.length
  | [] => rfl
  | _ :: l => congrArg (· + 1) (lenF_eq l)

noncomputable def takeF (l : List α) : Nat → Option (List α) :=
  @List.rec α (fun _ => Nat → Option (List α)) (fun n => (@Bool.rec (fun _ => Option (List α)) (none) (some []) (Nat.beq n 0))) (fun x _ ih n => (@Bool.rec (fun _ => Option (List α)) (consO x (ih (n - 1))) (some []) (Nat.beq n 0))) l

theorem takeF_eq : ∀ (l : List α) (n : Nat), takeF l n = bif Nat.beq (l.take n).length n then some (l.take n) else none
  | [], 0 => rfl
  | [], n + 1 => by
    show none = _
    simp only [List.take_nil, List.length_nil]; rfl
  | x :: l, 0 => rfl
  | x :: l, n + 1 => by
    show consO x (takeF l n) = _
    rw [takeF_eq l n]
    simp only [List.take_succ_cons, List.length_cons]
    have : Nat.beq ((l.take n).length + 1) (n + 1) = Nat.beq (l.take n).length n := rfl
    rw [this]
    cases Nat.beq (l.take n).length n <;> rfl

noncomputable def dropF (l : List α) : Nat → List α :=
  @List.rec α (fun _ => Nat → List α) (fun _ => []) (fun x xs ih n => (@Bool.rec (fun _ => List α) (ih (n - 1)) (x :: xs) (Nat.beq n 0))) l

theorem dropF_eq : ∀ (l : List α) (n : Nat), dropF l n = l.drop n
  | [], n => by cases n <;> rfl
  | x :: l, 0 => rfl
  | x :: l, n + 1 => dropF_eq l n

noncomputable def nthF (l : List α) : Nat → Option α :=
  @List.rec α (fun _ => Nat → Option α) (fun _ => none) (fun x _ ih n => (@Bool.rec (fun _ => Option α) (ih (n - 1)) (some x) (Nat.beq n 0))) l

theorem nthF_eq : ∀ (l : List α) (n : Nat), nthF l n = l[n]?
  | [], n => by simp [nthF]
  | x :: l, 0 => by simp [nthF]
  | x :: l, n + 1 => by
    have := nthF_eq l n
    simp only [List.getElem?_cons_succ]
    exact this

noncomputable def allF (p : α → Bool) (l : List α) : Bool := @List.rec α (fun _ => Bool) true (fun x _ ih => (@Bool.rec (fun _ => Bool) (false) (ih) (p x))) l
theorem allF_eq (p : α → Bool) : ∀ l : List α, allF p l = l.all p
  | [] => rfl
  | x :: l => by
    show (@Bool.rec (fun _ => Bool) (false) (allF p l) (p x)) = _
    rw [allF_eq p l, List.all_cons]; cases p x <;> rfl

noncomputable def overF (l : List α) : List α → Option (List α) :=
  @List.rec α (fun _ => List α → Option (List α)) (fun new => @List.rec α (fun _ => Option (List α)) (some []) (fun _ _ _ => none) new)
    (fun x xs ih new => @List.rec α (fun _ => Option (List α)) (some (x :: xs)) (fun y ys _ => consO y (ih ys)) new) l

noncomputable def spliceF (l : List α) : Nat → List α → Option (List α) :=
  @List.rec α (fun _ => Nat → List α → Option (List α)) (fun off new => (@Bool.rec (fun _ => Option (List α)) (none) (overF [] new) (Nat.beq off 0)))
    (fun x xs ih off new => (@Bool.rec (fun _ => Option (List α)) (consO x (ih (off - 1) new)) (overF (x :: xs) new) (Nat.beq off 0))) l

theorem overF_eq : ∀ (l new : List α), overF l new = bif Nat.ble new.length l.length then some (new ++ l.drop new.length) else none
  | [], [] => rfl
  | [], _ :: _ => rfl
  | x :: l, [] => rfl
  | x :: l, y :: new => by
    show consO y (overF l new) = _
    rw [overF_eq l new]
    simp only [List.length_cons, List.drop_succ_cons, List.cons_append]
    have : Nat.ble (new.length + 1) (l.length + 1) = Nat.ble new.length l.length := rfl
    rw [this]
    cases Nat.ble new.length l.length <;> rfl
end

theorem spliceF_eq : ∀ (l : List C) (off : Nat) (new : List C), spliceF l off new = splice l off new
  | [], 0, new => by
    show overF [] new = _
    rw [overF_eq, splice]; simp
  | [], off + 1, new => by
    show none = _
    simp only [splice, List.length_nil]
    have : Nat.ble (off + 1 + new.length) 0 = false := by
      cases h : Nat.ble (off + 1 + new.length) 0 with
      | false => rfl
      | true => have := Nat.le_of_ble_eq_true h; omega
    rw [this]; rfl
  | x :: l, 0, new => by
    show overF (x :: l) new = _
    rw [overF_eq, splice]; simp
  | x :: l, off + 1, new => by
    show consO x (spliceF l off new) = _
    rw [spliceF_eq l off new]
    simp only [splice, List.length_cons]
    have e : off + 1 + new.length = off + new.length + 1 := by omega
    rw [e]
    have : Nat.ble (off + new.length + 1) (l.length + 1) = Nat.ble (off + new.length) l.length := rfl
    rw [this]
    cases Nat.ble (off + new.length) l.length <;> simp [consO]

noncomputable def subF (l : List C) (off n : Nat) : Option (List C) := takeF (dropF l off) n
theorem subF_eq (l : List C) (off n : Nat) : subF l off n = sub l off n := by
  unfold subF sub; rw [dropF_eq, takeF_eq]

/-! ### cells and blocks, by tables whose rows are closed -/
section
variable {γ : Type}
/-- at a reference into an own block; at anything else -/
noncomputable def onPtr (p : Nat → Nat → γ) (e : C → γ) (c : C) : γ :=
  @C.rec (fun _ => γ) (fun v => e (.sc v)) (fun k x => e (.sy k x)) (fun x => e (.sb x)) (fun x => e (.slx x)) (fun x => e (.stx x)) (fun a b c => e (.osl a b c)) (fun a b => e (.optr a b)) p (fun a b c d f => e (.sl a b c d f)) (fun i => e (.mp i)) (fun f l => e (.fn f l)) (e .unk) c

noncomputable def onCells (p : List C → TypeId → Bool → γ) (e : γ) (o : Option O) : γ :=
  @Option.rec O (fun _ => γ) e (fun o => @O.rec (fun _ => γ) p (fun _ _ => e) (fun _ _ => e) (fun _ _ _ _ => e) o) o
end

noncomputable def loadF (cx : Cx) (st : St) (a : C) (n : Nat) : Option (List C) :=
  onPtr (fun id off => onCells (fun l _ _ => subF l off n) none (st.heap.getF id)) (fun a => loadN cx st a n) a
theorem loadF_eq (cx : Cx) (st : St) (a : C) (n : Nat) : loadF cx st a n = loadN cx st a n := by
  cases a <;> try rfl
  rename_i id off
  show onCells (fun l _ _ => subF l off n) none (st.heap.getF id) = _
  unfold loadN
  simp only [St.get, T.getF_eq]
  cases st.heap.get id with
  | none => rfl
  | some o => cases o <;> simp [onCells, subF_eq]

noncomputable def storeF (fl : Nat) (st : St) (a : C) (new : List C) : Option St :=
  onPtr (fun id off => (@Bool.rec (fun _ => Option St) (none) (onCells (fun l e fx => @Option.rec (List C) (fun _ => Option St) none (fun l' => some ⟨st.heap.setF id (some (.cells l' e fx)), st.next⟩) (spliceF l off new)) none (st.heap.getF id)) (Nat.ble fl id))) (fun _ => none) a
theorem storeF_eq (fl : Nat) (st : St) (a : C) (new : List C) : storeF fl st a new = storeN fl st a new := by
  cases a <;> try rfl
  rename_i id off
  show (@Bool.rec (fun _ => Option St) (none) (onCells (fun l e fx => @Option.rec (List C) (fun _ => Option St) none (fun l' => some ⟨st.heap.setF id (some (.cells l' e fx)), st.next⟩) (spliceF l off new)) none (st.heap.getF id)) (Nat.ble fl id)) = _
  unfold storeN
  simp only [St.get, T.getF_eq, T.setF_eq]
  cases Nat.ble fl id
  · rfl
  · simp only [cond_true]
    cases st.heap.get id with
    | none => rfl
    | some o =>
      cases o <;> simp only [onCells]
      simp only [spliceF_eq]
      cases splice _ off new <;> rfl

noncomputable def fieldF (cx : Cx) (t : TypeId) (x : V) (f : Nat) : Option V :=
  match cx.ty t, x with
  | some ty, .a (.agg cs) => (match ty.under with
    | .struct fs => match fs[f]? with
      | some fd => match cx.ty fd.type with
        | some fty => match subF cs fd.offset fty.size with
          | some l => pack fty l
          | none => none
        | none => none
      | none => none
    | _ => none)
  | _, _ => none
theorem fieldF_eq (cx : Cx) (t : TypeId) (x : V) (f : Nat) : fieldF cx t x f = fieldOp cx t x f := by
  unfold fieldF fieldOp
  simp only [subF_eq]
  rfl

noncomputable def fillF (place : Nat → Option (Nat × Nat)) (cells : List C) : List (Nat × V) → Option (List C)
  | [] => some cells
  | (i, v) :: rest => match place i, cellsOf v with
    | some (off, size), some cs =>
      bif Nat.beq (lenF cs) size then (match spliceF cells off cs with
        | some cells' => fillF place cells' rest
        | none => none) else none
    | _, _ => none
theorem fillF_eq (place : Nat → Option (Nat × Nat)) : ∀ (ps : List (Nat × V)) (cells : List C), fillF place cells ps = fillC place cells ps
  | [], _ => rfl
  | (i, v) :: rest, cells => by
    have ih := fillF_eq place rest
    simp only [fillF, fillC, lenF_eq, spliceF_eq, ih]
    rfl

noncomputable def buildF (cx : Cx) (t : TypeId) (parts : List (Nat × V)) : Option V :=
  match cx.ty t with
  | some ty => (match ty.under with
    | .struct fs => bif fs.toList.all fun fd => (cx.ty fd.type).isSome then
        (fillF (fun i => match fs.toList[i]? with
        | some fd => (cx.ty fd.type).map fun fty => (fd.offset, fty.size)
        | none => none) (zeroC ty) parts).map fun l => .a (.agg l) else none
    | .array _ e => match cx.ty e with
      | some ety => (fillF (fun i => some (i * ety.size, ety.size)) (zeroC ty) parts).map fun l => .a (.agg l)
      | none => none
    | _ => none)
  | none => none
theorem buildF_eq (cx : Cx) (t : TypeId) (parts : List (Nat × V)) : buildF cx t parts = buildOp cx t parts := by
  unfold buildF buildOp
  simp only [fillF_eq]
  rfl
end Go.Am
