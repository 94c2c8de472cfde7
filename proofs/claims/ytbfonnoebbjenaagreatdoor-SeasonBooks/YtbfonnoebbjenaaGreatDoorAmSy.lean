/- The abstract machine: all roads through a call with symbols. -/
import Derived.Test.YtbfonnoebbjenaaGreatDoorAmZb
namespace Go.Am
open Go

def withT (cx : Cx) (l : Asg) : Cx := { cx with known := l }

theorem ORel.to {cx cx' : Cx} (ht : cx'.ty = cx.ty) {β : Be} {e : Nat} : ∀ {o : O} {ob : Obj}, ORel cx β e o ob → ORel cx' β e o ob
  | .cells _ _ _, _, ⟨cur, pre, rest, h1, h2, h3, h4, h5, h6⟩ => ⟨cur, pre, rest, h1, h2, h3, h4, h5, fun h => by rw [ht]; exact h6 h⟩
  | .map _ _, _, h => h
  | .sit _ _, _, h => h
  | .mit none _ _ _, _, h => h
  | .mit (some _) _ _ _, _, h => h

theorem Inv.to {cx cx' : Cx} {B : Nat} {β : Be} {st : St} {w : World} (ht : cx'.ty = cx.ty) (_hb : cx'.base = cx.base) (hf : Facts cx' β.env) (h : Inv cx B β st w) : Inv cx' B β st w :=
  ⟨h.low, fun id o ho => by
    obtain ⟨b, e, ob, h1, h2, h3⟩ := h.live id o ho
    exact ⟨b, e, ob, h1, h2, h3.to ht⟩, h.inj, h.base, h.size, hf⟩

theorem Good.to {cx cx' : Cx} {B fl : Nat} {β β' : Be} {st st' : St} {w w' : World} (ht : cx'.ty = cx.ty) (hb : cx'.base = cx.base) (hf : Facts cx' β'.env) (h : Good cx B fl β st w β' st' w') : Good cx' B fl β st w β' st' w' :=
  ⟨h.ext, h.old, h.inv.to ht hb hf, h.keep, h.next, h.os, h.tape, h.output, h.size, h.frame, h.fresh⟩

theorem facts_with {cx : Cx} {ρ : Env} {l : Asg} (h : Facts cx ρ) (hl : AsgOk ρ l) : Facts (withT cx l) ρ := ⟨hl, h.fns, h.defs, h.base, h.outer⟩
theorem facts_none {cx : Cx} {ρ : Env} {l : Asg} (h0 : cx.known = []) (h : Facts (withT cx l) ρ) : Facts cx ρ := ⟨fun p hp => (by rw [h0] at hp; cases hp), h.fns, h.defs, h.base, h.outer⟩

theorem plansOk_congr {cx cx' : Cx} (h : cx'.plan = cx.plan) (g : FuncId) : ∀ c : Code, plansOk cx' g c = plansOk cx g c
  | .region id ops draw => by simp only [plansOk, h]
  | .seq a b => by simp only [plansOk, plansOk_congr h g a, plansOk_congr h g b]
  | .cond _ a b => by simp only [plansOk, plansOk_congr h g a, plansOk_congr h g b]
  | .block _ b => by simp only [plansOk, plansOk_congr h g b]
  | .loop b => by simp only [plansOk, plansOk_congr h g b]
  | .skip => rfl
  | .exit _ => rfl
  | .ret => rfl
  | .goto _ => rfl
  | .rangeFunc _ _ _ _ => rfl
  | .scope _ => rfl
  | .label _ => rfl
  | .refuse _ => rfl

theorem CxOk.to {cx cx' : Cx} {P : Program} (hf : cx'.fn = cx.fn) (hp : cx'.plan = cx.plan) (ht : cx'.ty = cx.ty) (he : cx'.eqT = cx.eqT) (h : CxOk cx P) : CxOk cx' P :=
  ⟨fun f F hF => h.fn f F (by rw [← hf]; exact hF), fun f F c hF hb => by rw [plansOk_congr hp]; exact h.plans f F c (by rw [← hf]; exact hF) hb, fun t => by rw [ht]; exact h.ty t, fun t hq => h.eqs t (by rw [← he]; exact hq)⟩

theorem PrimsOk.withT {cx : Cx} {P : Program} {B : Nat} (h0 : cx.known = []) (hp : PrimsOk cx P B) (l : Asg) : PrimsOk (withT cx l) P B := by
  intro f p hpf fl β st w args args' v st' hi hfl ha hv
  refine (hp f p hpf fl β st w args args' v st' (Inv.to (cx := Am.withT cx l) (cx' := cx) rfl rfl (facts_none h0 hi.facts) hi) hfl ha hv).mono ?_
  rintro v' w' ⟨β', h1, h2⟩
  refine ⟨β', h1, Good.to (cx := cx) (cx' := Am.withT cx l) rfl rfl ?_ h2⟩
  rw [h2.ext.env]
  exact hi.facts

/-- All roads: a comparison that is asked for parts them. -/
def paths : Nat → Asg → (Asg → Option Tst) → (Asg → Bool) → Bool
  | 0, _, _, _ => false
  | n + 1, l, q, k => match q l with
    | none => k l
    | some t => paths n ((t, true) :: l) q k && paths n ((t, false) :: l) q k

theorem paths_ok {ρ : Env} {q : Asg → Option Tst} {k : Asg → Bool} : ∀ {n : Nat} {l : Asg}, paths n l q k = true → AsgOk ρ l → ∃ l', AsgOk ρ l' ∧ k l' = true
  | 0, _, h, _ => by cases h
  | n + 1, l, h, ha => by
    simp only [paths] at h
    split at h
    · exact ⟨l, ha, h⟩
    · rename_i t _
      simp only [Bool.and_eq_true] at h
      have hc : ∀ b, t.holds ρ = b → AsgOk ρ ((t, b) :: l) := fun b hb p hp => by
        rcases List.mem_cons.1 hp with he | hp
        · rw [he]; exact hb
        · exact ha p hp
      cases ht : t.holds ρ with
      | true => exact paths_ok h.1 (hc _ ht)
      | false => exact paths_ok h.2 (hc _ ht)

/-- A call with symbols: whatever they stand for, one of the roads is the call's. -/
theorem symCall {cx : Cx} {P : Program} {B fl n m : Nat} {β : Be} {st : St} {w : World} (hm : P.follows .mixedOrders = true) (hx : CxOk cx P) (hp : PrimsOk cx P B) (h0 : cx.known = []) {q : Asg → Option Tst} {l : Asg} {bad : Asg → Bool} {f : FuncId} {args : List V} {args' : Array Value} {K : Asg → V → St → Bool}
    (hk : paths m l q (fun l => bad l || callF (withT cx l) (run (withT cx l) n) fl f args st (K l)) = true) (hbad : ∀ l, bad l = true → ¬ AsgOk β.env l) (hl : AsgOk β.env l) (hfl : fl ≤ st.next) (h : Inv cx B β st w) (ha : All2 (VRel β) args args'.toList) :
    ∃ l', AsgOk β.env l' ∧ CallRet P f args' w fun v' w' => ∃ v st' β', K l' v st' = true ∧ VRel β' v v' ∧ Good cx B fl β st w β' st' w' := by
  obtain ⟨l', h1, h2⟩ := paths_ok hk hl
  refine ⟨l', h1, ?_⟩
  cases hb : bad l' with
  | true => exact absurd h1 (hbad l' hb)
  | false =>
    rw [hb] at h2
    simp only [Bool.false_or] at h2
    refine (call_ok hm (CxOk.to (cx := cx) (cx' := withT cx l') rfl rfl rfl rfl hx) (hp.withT h0 l') h2 hfl (Inv.to (cx := cx) (cx' := withT cx l') rfl rfl (facts_with h.facts h1) h) ha).mono ?_
    rintro v' w' ⟨v, st', β', g1, g2, g3⟩
    exact ⟨v, st', β', g1, g2, Good.to (cx := withT cx l') (cx' := cx) rfl rfl (facts_none h0 g3.inv.facts) g3⟩

namespace DT
/-- The case that the facts tell. -/
def find (look : Tst → Option Bool) : DT → Option E
  | .leaf e => some e
  | .node t a b => match look t with
    | some true => a.find look
    | some false => b.find look
    | none => none

theorem find_ok {ρ : Env} {look : Tst → Option Bool} (h : ∀ t b, look t = some b → t.holds ρ = b) : ∀ {d : DT} {e : E}, d.find look = some e → d.eval ρ = e.val ρ
  | .leaf e, e', hf => by simp only [find, Option.some.injEq] at hf; subst hf; rfl
  | .node t a b, e, hf => by
    simp only [find] at hf
    split at hf
    · rename_i ht; simp only [eval, h t _ ht, cond_true]; exact find_ok h hf
    · rename_i ht; simp only [eval, h t _ ht, cond_false]; exact find_ok h hf
    · cases hf
end DT

/-- A cell is the term that the facts tell. -/
def cellIs (look : Tst → Option Bool) (k : IntKind) (d : DT) : C → Bool
  | .sc (.int k' n) => decide (k' = k) && (match d.find look with | some (.lit m) => decide (n = m) | _ => false)
  | .sy k' e => decide (k' = k) && (match d.find look with | some e' => e.same e' | none => false)
  | _ => false

theorem cellIs_ok {ρ : Env} {look : Tst → Option Bool} (h : ∀ t b, look t = some b → t.holds ρ = b) {k : IntKind} {d : DT} {c : C} (hc : cellIs look k d c = true) {β : Be} (hβ : β.env = ρ) {v : Value} (hv : CRel β c v) : v = .int k (d.eval ρ) := by
  unfold cellIs at hc
  split at hc
  · simp only [Bool.and_eq_true, decide_eq_true_eq] at hc
    obtain ⟨rfl, hc⟩ := hc
    split at hc
    · rename_i n m hm
      have := of_decide_eq_true hc
      subst this
      rw [DT.find_ok h hm]; exact hv
    · cases hc
  · simp only [Bool.and_eq_true, decide_eq_true_eq] at hc
    obtain ⟨rfl, hc⟩ := hc
    split at hc
    · rename_i e _ e' hm
      have := E.same_eq hc
      subst this
      rw [DT.find_ok h hm, ← hβ]; exact hv
    · cases hc
  · cases hc

/-! ### one road, up to the comparison that is not known (no proof is needed of it) -/
inductive Ans (α : Type) where
  | ok (a : α)
  | ask (t : Tst)
  | no

def unk (cx : Cx) (t : Tst) : Option Tst :=
  match ask cx t with
  | none => some t
  | some _ => none

def askEq (cx : Cx) : List C → List C → Option Tst
  | x :: xs, y :: ys => match symE x y with
    | some (_, a, _, b) => (match ask cx (.eq a b) with
      | none => some (.eq a b)
      | some true => askEq cx xs ys
      | some false => none)
    | none => askEq cx xs ys
  | _, _ => none

def nextIs (cx : Cx) (e : E) : Nat → Nat → Option Tst
  | 0, _ => none
  | n + 1, r => match ask cx (.eq e (.lit r)) with
    | some true => none
    | some false => nextIs cx e n (r + 1)
    | none => some (.eq e (.lit r))

def askB (cx : Cx) (fr : Fr) (x : Operand) : Option Tst :=
  match ev fr x with
  | some (.a (.c (.sb e))) => unk cx (.eq e (.lit 0))
  | _ => none

def askOf (cx : Cx) (fr : Fr) (_st : St) : Op → Option Tst
  | .binOp op _ x y _ => match ev fr x, ev fr y with
    | some (.a (.c x)), some (.a (.c y)) => (match symE x y with
      | some (_, a, _, b) => (match op with
        | .eql => unk cx (.eq a b)
        | .neq => unk cx (.eq a b)
        | .lss => unk cx (.le b a)
        | .leq => unk cx (.le a b)
        | .gtr => unk cx (.le a b)
        | .geq => unk cx (.le b a)
        | .quo => unk cx (.eq b (.lit 0))
        | .rem => (match unk cx (.eq b (.lit 0)) with
          | some t => some t
          | none => match b with
            | .lit (.ofNat n) => bif Nat.ble n 64 then nextIs cx (.rem a b) n 0 else none
            | _ => none)
        | _ => none)
      | none => none)
    | some (.a (.agg x)), some (.a (.agg y)) => askEq cx x y
    | _, _ => none
  | .pick c _ _ => askB cx fr c
  | .unOp _ _ x => askB cx fr x
  | _ => none

def Ans.orAsk {α : Type} : Option Tst → Ans α
  | some t => .ask t
  | none => .no

/-- The heads of a loop. -/
structure Heads where
  n : Nat
  head : Nat → Fr × St

def firstReg : Code → Nat
  | .region id _ _ => id
  | .seq a _ => firstReg a
  | .cond _ a _ => firstReg a
  | .block _ b => firstReg b
  | .loop b => firstReg b
  | _ => 0

abbrev Ann := FuncId → Nat → Option Heads

/-- Places from which the rest of a function is run apart: by the function and by the first region there: states, and the facts that are taken along. -/
abbrev Tails := FuncId → Nat → List (Fr × St × Asg)

abbrev RunST := Nat → FuncId → Code → Fr → St → Ans (Exit × Fr × St)

def callS (cx : Cx) (R : RunST) (fl : Nat) (f : FuncId) (args : List V) (st : St) : Ans (V × St) :=
  match cx.prim f with
  | some p => (match p fl args st with | some r => .ok r | none => .no)
  | none => match cx.fn f with
    | none => .no
    | some F => match F.body with
      | none => .no
      | some c => match R fl f c ⟨F.ntmps, mkArgs args 0 .nil⟩ st with
        | .ok (.normal, fr, st) => (match result cx F fr st with | some v => .ok (v, st) | none => .no)
        | .ok (.ret, fr, st) => (match result cx F fr st with | some v => .ok (v, st) | none => .no)
        | .ask t => .ask t
        | _ => .no

def putS (fr : Fr) (d : Option Tmp) (v : V) (st : St) : Ans (Fr × St) := match fr.put d v with
  | some fr => .ok (fr, st)
  | none => .no

def opS (cx : Cx) (R : RunST) (fl : Nat) (all : List Oper) (o : Oper) (fr : Fr) (st : St) : Ans (Fr × St) :=
  match wantedA all o fr with
  | none => .no
  | some false => putS fr o.dst undefV st
  | some true => match stepOp cx fl fr st o.op o.type with
    | .val v st => putS fr o.dst v st
    | .skip st => putS fr o.dst undefV st
    | .call f args => (match callS cx R fl f args st with
      | .ok (v, st) => putS fr o.dst v st
      | .ask t => .ask t
      | .no => .no)
    | .any ((v, st) :: _) => putS fr o.dst v st
    | .any [] => .no
    | .fail => .orAsk (askOf cx fr st o.op)

def opsS (cx : Cx) (R : RunST) (fl : Nat) (all : List Oper) : List Oper → Fr → St → Ans (Fr × St)
  | [], fr, st => .ok (fr, st)
  | o :: ops, fr, st => match opS cx R fl all o fr st with
    | .ok (fr, st) => opsS cx R fl all ops fr st
    | .ask t => .ask t
    | .no => .no

def planS (cx : Cx) (R : RunST) (fl : Nat) (ops : List Oper) : List Step → List (Nat × Nat × O) → Fr → St → Ans (Fr × St)
  | [], pend, fr, st => .ok (fr, insertAll pend st)
  | s :: pl, pend, fr, st => match ops[s.idx]? with
    | none => .no
    | some o => match s with
      | .p _ => (match pureOp cx ops o fr .nil with
        | some v => (match fr.put o.dst v with | some fr => planS cx R fl ops pl pend fr st | none => .no)
        | none => .orAsk (askOf cx fr st o.op))
      | .r _ as => (match pureOp cx ops o fr (insertAs pend as st).heap with
        | some v => (match fr.put o.dst v with | some fr => planS cx R fl ops pl pend fr st | none => .no)
        | none => .orAsk (askOf cx fr (insertAs pend as st) o.op))
      | .a i => (match newOp cx ops o fr st.next with
        | some (v, ob) => (match fr.put o.dst v with | some fr => planS cx R fl ops pl (pend ++ [(i, st.next, ob)]) fr ⟨st.heap, st.next + 1⟩ | none => .no)
        | none => (match pureOp cx ops o fr .nil with
          | some v => (match fr.put o.dst v with | some fr => planS cx R fl ops pl pend fr st | none => .no)
          | none => .orAsk (askOf cx fr st o.op)))
      | .q _ as => (match opS cx R st.next ops o fr (insertAs pend as st) with
        | .ok (fr, st) => planS cx R fl ops pl pend fr st
        | .ask t => .ask t
        | .no => .no)
      | .w _ => (match opS cx R fl ops o fr (insertAll pend st) with
        | .ok (fr, st) => planS cx R fl ops pl [] fr st
        | .ask t => .ask t
        | .no => .no)

def runS (cx : Cx) (ann : Ann) (tl : Tails) : Nat → RunST
  | 0 => fun _ _ _ _ _ => .no
  | n + 1 => fun fl g c fr st =>
    match c with
    | .skip => .ok (.normal, fr, st)
    | .region id ops draw => (match (bif draw then (match cx.plan g id with
        | some pl => planS cx (runS cx ann tl n) fl ops.toList pl [] fr st
        | none => .no) else opsS cx (runS cx ann tl n) fl ops.toList ops.toList fr st) with
      | .ok (fr, st) => .ok (.normal, fr, st)
      | .ask t => .ask t
      | .no => .no)
    | .seq a b => (match tl g (firstReg a) with
      | [] => (match runS cx ann tl n fl g a fr st with
        | .ok (.normal, fr, st) => runS cx ann tl n fl g b fr st
        | r => r)
      | _ :: _ => .no)
    | .cond c a b => (match ((ev fr c).bind (resB cx)).bind toBool with
      | some true => runS cx ann tl n fl g a fr st
      | some false => runS cx ann tl n fl g b fr st
      | none => .orAsk (askB cx fr c))
    | .block id b => (match runS cx ann tl n fl g b fr st with
      | .ok (.exit i, fr, st) => bif Nat.beq i id then .ok (.normal, fr, st) else .ok (.exit i, fr, st)
      | r => r)
    | .loop b => (match ann g (firstReg b) with
      | some A => (match runS cx ann tl n fl g b (A.head (A.n - 1)).1 (A.head (A.n - 1)).2 with
        | .ok (.normal, _, _) => .no
        | r => r)
      | none => (match runS cx ann tl n fl g b fr st with
        | .ok (.normal, fr, st) => runS cx ann tl n fl g (.loop b) fr st
        | r => r))
    | .exit id => .ok (.exit id, fr, st)
    | .ret => .ok (.ret, fr, st)
    | _ => .no

/-- The first comparison of a call that is not known. -/
def askCall (cx : Cx) (ann : Ann) (tl : Tails) (n fl : Nat) (f : FuncId) (args : List V) (st : St) (l : Asg) : Option Tst :=
  match callS (withT cx l) (runS (withT cx l) ann tl n) fl f args st with
  | .ask t => some t
  | _ => none

/-- All roads' facts and answers (a look for one's own eyes). -/
def leaves (cx : Cx) (ann : Ann) (tl : Tails) (n fl : Nat) (f : FuncId) (args : List V) (st : St) : Nat → Asg → List (Asg × Option V)
  | 0, l => [(l, none)]
  | m + 1, l => match callS (withT cx l) (runS (withT cx l) ann tl n) fl f args st with
    | .ask t => leaves cx ann tl n fl f args st m ((t, true) :: l) ++ leaves cx ann tl n fl f args st m ((t, false) :: l)
    | .ok (v, _) => [(l, some v)]
    | .no => [(l, none)]
def askCode (cx : Cx) (ann : Ann) (n fl : Nat) (g : FuncId) (b : Code) (p : Fr × St) (l : Asg) : Option Tst :=
  match runS (withT cx l) ann (fun _ _ => []) n fl g b p.1 p.2 with
  | .ask t => some t
  | _ => none
end Go.Am
