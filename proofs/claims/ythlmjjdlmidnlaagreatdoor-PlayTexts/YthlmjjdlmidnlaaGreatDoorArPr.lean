/- Calls by contract: functions of integers, of pairs of integers. On the seat of the open Play statements: runs with symbols, and what they say; slices of integers in memory. -/
import Derived.Test.YthlmjjdlmidnlaaGreatDoorArZa
import Derived.Test.YthlmjjdlmidnlaaGreatDoorAmLb
import Derived.KernelRfl
namespace Go.Proofs.Tryz
open Go Go.Am
set_option maxRecDepth 100000

def listE : List E → E
  | [] => .nil
  | e :: l => .pair e (listE l)

theorem listE_vals (ρ : Env) : ∀ l, (listE l).vals ρ = l.map (E.val ρ)
  | [] => rfl
  | e :: l => by simp only [listE, E.vals, List.map_cons, listE_vals ρ l]; rfl

/-- A function's answer as a term. -/
def appE (k : Nat) (l : List E) : E := .app k (listE l)
theorem appE_val (ρ : Env) (k : Nat) (l : List E) : (appE k l).val ρ = ρ.f k (l.map (E.val ρ)) := by
  simp only [appE, E.val, E.vals, List.headD_cons, listE_vals]

/-- Integers of 64 bits as terms. -/
def ints : List C → Option (List E)
  | [] => some []
  | x :: l => match toE x, ints l with
    | some (.i64, e), some es => some (e :: es)
    | _, _ => none

theorem toE_rel {β : Be} {x : C} {v : Value} {k : IntKind} {e : E} (h : CRel β x v) (hx : toE x = some (k, e)) : v = .int k (e.val β.env) := by
  unfold toE at hx
  split at hx <;> simp only [Option.some.injEq, Prod.mk.injEq, reduceCtorEq] at hx <;> obtain ⟨rfl, rfl⟩ := hx <;> exact h

theorem ints_rel {β : Be} : ∀ {l : List C} {es : List E} {vs : List Value}, ints l = some es → All2 (CRel β) l vs → vs = es.map fun e => Value.int .i64 (e.val β.env)
  | [], es, [], h, _ => by simp only [ints, Option.some.injEq] at h; subst h; rfl
  | [], _, _ :: _, _, h => h.elim
  | _ :: _, _, [], _, h => h.elim
  | x :: l, es, v :: vs, h, hr => by
    simp only [ints] at h
    split at h
    · rename_i e es' he hes
      simp only [Option.some.injEq] at h; subst h
      rw [List.map_cons, ← ints_rel hes hr.2, toE_rel hr.1 he]
    · cases h

/-- The shapes of arguments: integers; one pair; two pairs. -/
def argI (args : List V) : Option (List E) := (go args).bind ints
where go : List V → Option (List C)
  | [] => some []
  | .a (.c x) :: l => (go l).map (x :: ·)
  | _ => none
def argA : List V → Option (List E)
  | [.a (.agg l)] => ints l
  | _ => none
def argAA : List V → Option (List E)
  | [.a (.agg l), .a (.agg m)] => match ints l, ints m with
    | some a, some b => bif Nat.beq a.length 2 && Nat.beq b.length 2 then some (a ++ b) else none
    | _, _ => none
  | _ => none

def vi (n : Int) : Value := .int .i64 n

theorem argI_rel {β : Be} {args : List V} {es : List E} {args' : Array Value} (h : argI args = some es) (ha : All2 (VRel β) args args'.toList) : args' = (es.map fun e => vi (e.val β.env)).toArray := by
  unfold argI at h
  simp only [Option.bind_eq_some_iff] at h
  obtain ⟨l, hl, he⟩ := h
  have key : ∀ {args : List V} {l : List C} {vs : List Value}, argI.go args = some l → All2 (VRel β) args vs → All2 (CRel β) l vs := by
    intro args
    induction args with
    | nil => intro l vs h ha; simp only [argI.go, Option.some.injEq] at h; subst h; cases vs with | nil => trivial | cons _ _ => exact ha.elim
    | cons a args ih =>
      intro l vs h ha
      cases vs with
      | nil => exact ha.elim
      | cons v vs =>
        unfold argI.go at h
        split at h
        · rename_i h0; cases h0
        · rename_i x l2 h0
          simp only [List.cons.injEq] at h0
          obtain ⟨rfl, rfl⟩ := h0
          simp only [Option.map_eq_some_iff] at h
          obtain ⟨l', h1, rfl⟩ := h
          exact ⟨ha.1, ih h1 ha.2⟩
        · cases h
  have := ints_rel he (key hl ha)
  apply Array.toList_inj.1
  simpa [vi] using this

theorem argA_rel {β : Be} {args : List V} {es : List E} {args' : Array Value} (h : argA args = some es) (ha : All2 (VRel β) args args'.toList) : args' = #[.agg (es.map fun e => vi (e.val β.env)).toArray] := by
  unfold argA at h
  split at h
  · rename_i l
    obtain ⟨al⟩ := args'
    match al, ha with
    | [v], hr =>
      obtain ⟨a, rfl, h1, _⟩ := hr.1
      have := ints_rel h h1
      have e : a = (es.map fun e => vi (e.val β.env)).toArray := Array.toList_inj.1 (by simpa [vi] using this)
      rw [e]
  · cases h

theorem argAA_rel {β : Be} {args : List V} {es : List E} {args' : Array Value} (h : argAA args = some es) (ha : All2 (VRel β) args args'.toList) :
    ∃ a b c d : E, es = [a, b, c, d] ∧ args' = #[.agg #[vi (a.val β.env), vi (b.val β.env)], .agg #[vi (c.val β.env), vi (d.val β.env)]] := by
  unfold argAA at h
  split at h
  · rename_i l m
    split at h
    case h_2 => cases h
    rename_i p q hp hq
    cases hc : (Nat.beq p.length 2 && Nat.beq q.length 2) with
    | false => rw [hc] at h; cases h
    | true =>
    rw [hc] at h
    simp only [cond_true, Option.some.injEq] at h; subst h
    simp only [Bool.and_eq_true] at hc
    have l1 := Nat.eq_of_beq_eq_true hc.1
    have l2 := Nat.eq_of_beq_eq_true hc.2
    obtain ⟨al⟩ := args'
    match al, ha with
    | [v, u], hr =>
      obtain ⟨a, rfl, h1, _⟩ := hr.1
      obtain ⟨b, rfl, h2, _⟩ := hr.2.1
      have e1 := ints_rel hp h1
      have e2 := ints_rel hq h2
      match p, l1, q, l2 with
      | [x, y], _, [z, t], _ =>
        refine ⟨x, y, z, t, rfl, ?_⟩
        have a1 : a = #[vi (x.val β.env), vi (y.val β.env)] := Array.toList_inj.1 (by simpa [vi] using e1)
        have a2 : b = #[vi (z.val β.env), vi (t.val β.env)] := Array.toList_inj.1 (by simpa [vi] using e2)
        rw [a1, a2]
  · cases h

/-- Answers: a number; a pair and a number; two numbers. -/
def ansI (k : Nat) (es : List E) : V := .a (.c (.sy .i64 (appE k es)))
def ansR (i j k : Nat) (es : List E) : V := .tup [.agg [.sy .i64 (appE i es), .sy .i64 (appE j es)], .c (.sy .i64 (appE k es))]
def ansP (i j : Nat) (es : List E) : V := .tup [.c (.sy .i64 (appE i es)), .c (.sy .i64 (appE j es))]

theorem ansI_rel {β : Be} {k : Nat} {es : List E} {n : Int} (h : β.env.f k (es.map (E.val β.env)) = n) : VRel β (ansI k es) (vi n) := by
  show vi n = Value.int .i64 ((appE k es).val β.env)
  rw [appE_val, h]; rfl
theorem ansR_rel {β : Be} {i j k : Nat} {es : List E} {a b c : Int} (h1 : β.env.f i (es.map (E.val β.env)) = a) (h2 : β.env.f j (es.map (E.val β.env)) = b) (h3 : β.env.f k (es.map (E.val β.env)) = c) : VRel β (ansR i j k es) (.tuple #[.agg #[vi a, vi b], vi c]) := by
  refine ⟨_, rfl, ⟨_, rfl, ⟨?_, ?_, trivial⟩, fun x hx => ?_⟩, ?_, trivial⟩
  · exact ansI_rel h1
  · exact ansI_rel h2
  · simp at hx; rcases hx with rfl | rfl <;> rfl
  · exact ansI_rel h3
theorem ansP_rel {β : Be} {i j : Nat} {es : List E} {a b : Int} (h1 : β.env.f i (es.map (E.val β.env)) = a) (h2 : β.env.f j (es.map (E.val β.env)) = b) : VRel β (ansP i j es) (.tuple #[vi a, vi b]) :=
  ⟨_, rfl, ansI_rel h1, ansI_rel h2, trivial⟩

/-! ### tables of contracts -/
abbrev PT := Nat → List V → St → Option (V × St)
def POk (c : Cx) (B : Nat) (f : FuncId) (p : PT) : Prop := ∀ fl β st w args (args' : Array Value) v st', Inv c B β st w → fl ≤ st.next → All2 (VRel β) args args'.toList → p fl args st = some (v, st') →
  CallRet prog f args' w fun v' w' => ∃ β', VRel β' v v' ∧ Good c B fl β st w β' st' w'
def TOk (c : Cx) (B : Nat) (t : FuncId → Option PT) : Prop := ∀ f p, t f = some p → POk c B f p
def addP (f : FuncId) (p : PT) (t : FuncId → Option PT) : FuncId → Option PT := fun g => bif Nat.beq g f then some p else t g

theorem TOk.add {c : Cx} {B : Nat} {t : FuncId → Option PT} {f : FuncId} {p : PT} (h : TOk c B t) (hp : POk c B f p) : TOk c B (addP f p t) := by
  intro g q hq
  unfold addP at hq
  cases hg : Nat.beq g f with
  | true =>
    rw [hg] at hq
    simp only [cond_true, Option.some.injEq] at hq; subst hq
    rw [Nat.eq_of_beq_eq_true hg]; exact hp
  | false => rw [hg] at hq; exact h g q hq

theorem tokBase {B : Nat} (q : FuncId → Option PT) (g : Nat → List Int → Int) (d : Nat → Option DT) (o : Nat → Option (List C)) : TOk (cxW q g d o) B cx.prim := by
  intro f p hp fl β st w args args' v st' hi hfl ha hpv
  have := primsOkG (cx' := cxW cx.prim g d o) rfl rfl B f p hp fl β st w args args' v st' (Inv.to (cx := cxW q g d o) (cx' := cxW cx.prim g d o) rfl rfl ⟨hi.facts.known, hi.facts.fns, hi.facts.defs, hi.facts.base, hi.facts.outer⟩ hi) hfl ha hpv
  exact this.mono fun v' w' ⟨β', q1, q2⟩ => ⟨β', q1, Good.to (cx := cxW cx.prim g d o) (cx' := cxW q g d o) rfl rfl ⟨q2.inv.facts.known, q2.inv.facts.fns, q2.inv.facts.defs, q2.inv.facts.base, q2.inv.facts.outer⟩ q2⟩

theorem prim_kept {cx' : Cx} {B fl : Nat} {β : Be} {st : St} {w : World} (hi : Inv cx' B β st w) {f : FuncId} {args' : Array Value} {v : V} {v' : Value} (hv : VRel β v v') (h : CallRet prog f args' w fun x w' => x = v' ∧ Kept w w') :
    CallRet prog f args' w fun x w' => ∃ β', VRel β' v x ∧ Good cx' B fl β st w β' st w' :=
  h.mono fun x w' ⟨h1, h2⟩ => ⟨β, by rw [h1]; exact hv, h2.good hi⟩

def pTrue (_ : Nat) (args : List V) (st : St) : Option (V × St) := match args with
  | [] => some (.a (.c (.sc (.bool true))), st)
  | _ => none
def pI (k n : Nat) (_ : Nat) (args : List V) (st : St) : Option (V × St) := (argI args).bind fun es => bif Nat.beq es.length n then some (ansI k es, st) else none
def pA (k : Nat) (_ : Nat) (args : List V) (st : St) : Option (V × St) := (argA args).bind fun es => bif Nat.beq es.length 2 then some (ansI k es, st) else none
def pIR (i j k : Nat) (_ : Nat) (args : List V) (st : St) : Option (V × St) := (argI args).bind fun es => bif Nat.beq es.length 2 then some (ansR i j k es, st) else none
def pAA (k : Nat) (_ : Nat) (args : List V) (st : St) : Option (V × St) := (argAA args).map fun es => (ansI k es, st)
def pAP (i j : Nat) (_ : Nat) (args : List V) (st : St) : Option (V × St) := (argAA args).map fun es => (ansP i j es, st)

section
variable {q : FuncId → Option PT} {g : Nat → List Int → Int} {d : Nat → Option DT} {o : Nat → Option (List C)} {B : Nat} {f : FuncId}

theorem pokTrue (hc : ∀ w, Laid w → CallRet prog f #[] w fun v' w' => v' = .bool true ∧ Kept w w') : POk (cxW q g d o) B f pTrue := by
  intro fl β st w args args' v st' hi hfl ha hpv
  have hL : Laid w := laid_base (cx' := cxW q g d o) rfl hi
  unfold pTrue at hpv
  split at hpv
  · simp only [Option.some.injEq, Prod.mk.injEq] at hpv
    obtain ⟨rfl, rfl⟩ := hpv
    obtain rfl : args' = #[] := by
      obtain ⟨l⟩ := args'
      match l, ha with
      | [], _ => rfl
    exact prim_kept hi (v' := .bool true) rfl (hc w hL)
  · cases hpv

theorem pokI {k n : Nat} (hc : ∀ (l : List Int) (w : World), l.length = n → Laid w → CallRet prog f (l.map vi).toArray w fun v' w' => v' = vi (g k l) ∧ Kept w w') : POk (cxW q g d o) B f (pI k n) := by
  intro fl β st w args args' v st' hi hfl ha hpv
  have hL : Laid w := laid_base (cx' := cxW q g d o) rfl hi
  have hfn : β.env.f = g := hi.facts.fns
  simp only [pI, Option.bind_eq_some_iff] at hpv
  obtain ⟨es, he, hpv⟩ := hpv
  cases hn : Nat.beq es.length n with
  | false => rw [hn] at hpv; cases hpv
  | true =>
  rw [hn] at hpv
  simp only [cond_true, Option.some.injEq, Prod.mk.injEq] at hpv
  obtain ⟨rfl, rfl⟩ := hpv
  have e := argI_rel he ha
  subst e
  have h := hc (es.map (E.val β.env)) w (by simpa using Nat.eq_of_beq_eq_true hn) hL
  rw [List.map_map] at h
  exact prim_kept hi (ansI_rel (by rw [hfn])) h

theorem pokIR {i j k : Nat} (hc : ∀ (a b : Int) (w : World), Laid w → CallRet prog f #[vi a, vi b] w fun v' w' => v' = .tuple #[.agg #[vi (g i [a, b]), vi (g j [a, b])], vi (g k [a, b])] ∧ Kept w w') : POk (cxW q g d o) B f (pIR i j k) := by
  intro fl β st w args args' v st' hi hfl ha hpv
  have hL : Laid w := laid_base (cx' := cxW q g d o) rfl hi
  have hfn : β.env.f = g := hi.facts.fns
  simp only [pIR, Option.bind_eq_some_iff] at hpv
  obtain ⟨es, he, hpv⟩ := hpv
  cases hn : Nat.beq es.length 2 with
  | false => rw [hn] at hpv; cases hpv
  | true =>
  rw [hn] at hpv
  simp only [cond_true, Option.some.injEq, Prod.mk.injEq] at hpv
  obtain ⟨rfl, rfl⟩ := hpv
  have e := argI_rel he ha
  subst e
  match es, Nat.eq_of_beq_eq_true hn with
  | [x, y], _ => exact prim_kept hi (ansR_rel (by rw [hfn]; rfl) (by rw [hfn]; rfl) (by rw [hfn]; rfl)) (hc (x.val β.env) (y.val β.env) w hL)

theorem pokA {k : Nat} (hc : ∀ (a b : Int) (w : World), Laid w → CallRet prog f #[.agg #[vi a, vi b]] w fun v' w' => v' = vi (g k [a, b]) ∧ Kept w w') : POk (cxW q g d o) B f (pA k) := by
  intro fl β st w args args' v st' hi hfl ha hpv
  have hL : Laid w := laid_base (cx' := cxW q g d o) rfl hi
  have hfn : β.env.f = g := hi.facts.fns
  simp only [pA, Option.bind_eq_some_iff] at hpv
  obtain ⟨es, he, hpv⟩ := hpv
  cases hn : Nat.beq es.length 2 with
  | false => rw [hn] at hpv; cases hpv
  | true =>
  rw [hn] at hpv
  simp only [cond_true, Option.some.injEq, Prod.mk.injEq] at hpv
  obtain ⟨rfl, rfl⟩ := hpv
  have e := argA_rel he ha
  subst e
  match es, Nat.eq_of_beq_eq_true hn with
  | [x, y], _ => exact prim_kept hi (ansI_rel (by rw [hfn]; rfl)) (hc (x.val β.env) (y.val β.env) w hL)

theorem pokAA {k : Nat} (hc : ∀ (a b x y : Int) (w : World), Laid w → CallRet prog f #[.agg #[vi a, vi b], .agg #[vi x, vi y]] w fun v' w' => v' = vi (g k [a, b, x, y]) ∧ Kept w w') : POk (cxW q g d o) B f (pAA k) := by
  intro fl β st w args args' v st' hi hfl ha hpv
  have hL : Laid w := laid_base (cx' := cxW q g d o) rfl hi
  have hfn : β.env.f = g := hi.facts.fns
  simp only [pAA, Option.map_eq_some_iff, Prod.mk.injEq] at hpv
  obtain ⟨es, he, rfl, rfl⟩ := hpv
  obtain ⟨a, b, x, y, rfl, rfl⟩ := argAA_rel he ha
  exact prim_kept hi (ansI_rel (by rw [hfn]; rfl)) (hc _ _ _ _ w hL)

theorem pokAP {i j : Nat} (hc : ∀ (a b x y : Int) (w : World), Laid w → CallRet prog f #[.agg #[vi a, vi b], .agg #[vi x, vi y]] w fun v' w' => v' = .tuple #[vi (g i [a, b, x, y]), vi (g j [a, b, x, y])] ∧ Kept w w') : POk (cxW q g d o) B f (pAP i j) := by
  intro fl β st w args args' v st' hi hfl ha hpv
  have hL : Laid w := laid_base (cx' := cxW q g d o) rfl hi
  have hfn : β.env.f = g := hi.facts.fns
  simp only [pAP, Option.map_eq_some_iff, Prod.mk.injEq] at hpv
  obtain ⟨es, he, rfl, rfl⟩ := hpv
  obtain ⟨a, b, x, y, rfl, rfl⟩ := argAA_rel he ha
  exact prim_kept hi (ansP_rel (by rw [hfn]; rfl) (by rw [hfn]; rfl)) (hc _ _ _ _ w hL)

/-- A call with symbols, laid out fast. -/
theorem symL {n m fl : Nat} {c : Cx} {β : Be} {st : St} {w : World} (hx : CxOk c prog) (hp : PrimsOk c prog B) (h0 : c.known = []) {ann : Ann} {tl : Tails} {qq : Asg → Option Tst} {l : Asg} {args : List V} {args' : Array Value} {K : Asg → V → St → Bool}
    (hk : paths m l qq (fun l => callG (withT c l) (runL c ann n tl l) fl f args st (K l)) = true) (hl : AsgOk β.env l) (hfl : fl ≤ st.next) (h : Inv c B β st w) (ha : All2 (VRel β) args args'.toList) :
    ∃ l', AsgOk β.env l' ∧ CallRet prog f args' w fun v' w' => ∃ v st' β', K l' v st' = true ∧ VRel β' v v' ∧ Good c B fl β st w β' st' w' := by
  have e : (fun l => callG (withT c l) (runL c ann n tl l) fl f args st (K l)) = fun l => callF (withT c l) (runA c ann n tl l) fl f args st (K l) := funext fun l => fastL c ann n tl l fl f args st (K l)
  rw [e] at hk
  exact symCallA mixed hx hp h0 hk hl hfl h ha
end
end Go.Proofs.Tryz

namespace Go.Proofs.Tryz
open Go Go.Am
set_option maxRecDepth 100000

def L (n : Int) : E := .lit n
def vE (n : Nat) : E := .var n
def wE (e : E) : E := .wrap .i64 e
def noAnn : Ann := fun _ _ => none
def noDefs : Nat → Option DT := fun _ => none
def noRows : Nat → Option (List C) := fun _ => none
def dLf (n : Int) : DT := .leaf (L n)
def sE (e : E) : V := .a (.c (.sy .i64 e))
def syC (e : E) : C := .sy .i64 e
def iC (n : Int) : C := .sc (.int .i64 n)
def vc (c : C) : V := .a (.c c)

theorem keptOf {w w' : World} (h : Go.RowKit.Below w.heap.size w w') : Kept w w' := ⟨h.os, h.tape, h.output, h.size, h.block⟩

section
variable {ρ : Env}
theorem ev_leaf (e : E) : (DT.leaf e).eval ρ = e.val ρ := (rfl)
theorem ev_lf (n : Int) : (dLf n).eval ρ = n := (rfl)
theorem ev_le (a b : E) (x y : DT) : (DT.node (.le a b) x y).eval ρ = if a.val ρ ≤ b.val ρ then x.eval ρ else y.eval ρ := by
  simp only [DT.eval, Tst.holds]
  by_cases h : a.val ρ ≤ b.val ρ <;> simp [h]
theorem ev_eq (a b : E) (x y : DT) : (DT.node (.eq a b) x y).eval ρ = if a.val ρ = b.val ρ then x.eval ρ else y.eval ρ := by
  simp only [DT.eval, Tst.holds]
  by_cases h : a.val ρ = b.val ρ
  · simp [h]
  · rw [if_neg h, beq_eq_false_iff_ne.2 h]; rfl
theorem val_L (n : Int) : (L n).val ρ = n := (rfl)
theorem val_add (a b : E) : (E.add a b).val ρ = a.val ρ + b.val ρ := (rfl)
theorem val_sub (a b : E) : (E.sub a b).val ρ = a.val ρ - b.val ρ := (rfl)
theorem val_vE (n : Nat) : (vE n).val ρ = ρ.v n := (rfl)
theorem h_le {a b : E} (h : a.val ρ ≤ b.val ρ) : Tst.holds ρ (.le a b) = true := decide_eq_true h
theorem h_nle {a b : E} (h : ¬ a.val ρ ≤ b.val ρ) : Tst.holds ρ (.le a b) = false := decide_eq_false h
theorem h_eq {a b : E} (h : a.val ρ = b.val ρ) : Tst.holds ρ (.eq a b) = true := beq_iff_eq.2 h
theorem h_ne {a b : E} (h : a.val ρ ≠ b.val ρ) : Tst.holds ρ (.eq a b) = false := beq_eq_false_iff_ne.2 h
end

/-! ### a term's value stands on the symbols alone -/
theorem E.vals_congr {ρ ρ' : Env} (hv : ρ.v = ρ'.v) (hf : ρ.f = ρ'.f) : ∀ e : E, e.vals ρ = e.vals ρ'
  | .var n => by simp only [E.vals, hv]
  | .lit i => rfl
  | .add a b => by simp only [E.vals, E.vals_congr hv hf a, E.vals_congr hv hf b]
  | .sub a b => by simp only [E.vals, E.vals_congr hv hf a, E.vals_congr hv hf b]
  | .mul a b => by simp only [E.vals, E.vals_congr hv hf a, E.vals_congr hv hf b]
  | .quo a b => by simp only [E.vals, E.vals_congr hv hf a, E.vals_congr hv hf b]
  | .rem a b => by simp only [E.vals, E.vals_congr hv hf a, E.vals_congr hv hf b]
  | .max a b => by simp only [E.vals, E.vals_congr hv hf a, E.vals_congr hv hf b]
  | .min a b => by simp only [E.vals, E.vals_congr hv hf a, E.vals_congr hv hf b]
  | .wrap k a => by simp only [E.vals, E.vals_congr hv hf a]
  | .app f a => by simp only [E.vals, E.vals_congr hv hf a, hf]
  | .pair a b => by simp only [E.vals, E.vals_congr hv hf a, E.vals_congr hv hf b]
  | .nil => rfl
  | .enc a j => by simp only [E.vals, E.vals_congr hv hf a]
theorem E.val_congr {ρ ρ' : Env} (hv : ρ.v = ρ'.v) (hf : ρ.f = ρ'.f) (e : E) : e.val ρ = e.val ρ' := by unfold E.val; rw [E.vals_congr hv hf]
theorem DT.eval_congr {ρ ρ' : Env} (hv : ρ.v = ρ'.v) (hf : ρ.f = ρ'.f) : ∀ d : DT, d.eval ρ = d.eval ρ'
  | .leaf e => E.val_congr hv hf e
  | .node (.le a b) x y => by rw [ev_le, ev_le, E.val_congr hv hf a, E.val_congr hv hf b, DT.eval_congr hv hf x, DT.eval_congr hv hf y]
  | .node (.eq a b) x y => by rw [ev_eq, ev_eq, E.val_congr hv hf a, E.val_congr hv hf b, DT.eval_congr hv hf x, DT.eval_congr hv hf y]

/-- Symbols in a row. -/
def envV (l : List Int) (g : Nat → List Int → Int) : Env := ⟨fun i => l.getD i 0, g, fun _ => (0, 0), fun _ _ => none⟩
def envW (w : World) (l : List Int) (g : Nat → List Int → Int) : Env := ⟨fun i => l.getD i 0, g, fun _ => (0, 0), memOf w⟩
theorem envW_eval (w : World) (l : List Int) (g : Nat → List Int → Int) (d : DT) : d.eval (envW w l g) = d.eval (envV l g) := DT.eval_congr (ρ := envW w l g) (ρ' := envV l g) rfl rfl d

/-! ### runs -/
def isT (c : Cx) (l : Asg) (d : DT) : V → St → Bool := fun v _ => match v with
  | .a (.c x) => cellIs (Am.ask (withT c l)) .i64 d x
  | _ => false

/-- A truth value that the facts tell. -/
def isBT (c : Cx) (l : Asg) (d : DT) : V → St → Bool := fun v _ => match v with
  | .a (.c (.sc (.bool b))) => (match d.find (Am.ask (withT c l)) with | some (.lit m) => decide (m = (bif b then 1 else 0)) | _ => false)
  | _ => false

noncomputable def runOne (n m : Nat) (c : Cx) (f : FuncId) (l0 : Asg) (args : List V) (K : Asg → V → St → Bool) : Bool :=
  paths m l0 (askCallF c noAnn noTails n 0 f args ⟨.nil, 0⟩) fun l => callG (withT c l) (runL c noAnn n noTails l) 0 f args ⟨.nil, 0⟩ (K l)

section
variable {q : FuncId → Option PT} {g : Nat → List Int → Int} {f : FuncId} {l0 : Asg} {args : List V} {args' : Array Value} {w : World} {vs : List Int}

abbrev β0 (w : World) (vs : List Int) (g : Nat → List Int → Int) : Be := { m := fun _ => none, env := envW w vs g }

theorem inv1 (h : Laid w) : Inv (cxW q g noDefs noRows) w.heap.size (β0 w vs g) ⟨.nil, 0⟩ w :=
  inv0 (envW w vs g) rfl rfl (fun m x hx => by cases hx) h (fun k l hk => by cases hk)

theorem TOk.prims {c : Cx} {B : Nat} (h : TOk c B c.prim) : PrimsOk c prog B := h

theorem run_T {n m : Nat} (hp : ∀ B, TOk (cxW q g noDefs noRows) B q) {dt : DT} (hk : runOne n m (cxW q g noDefs noRows) f l0 args (fun l => isT (cxW q g noDefs noRows) l dt) = true) (h : Laid w) (hl : AsgOk (envW w vs g) l0) (ha : All2 (VRel (β0 w vs g)) args args'.toList) :
    CallRet prog f args' w fun v' w' => v' = vi (dt.eval (envV vs g)) ∧ Kept w w' := by
  have hi := inv1 (q := q) (g := g) (vs := vs) h
  obtain ⟨l', h1, h2⟩ := symL (tl := noTails) (ann := noAnn) (n := n) (m := m) cxWOk (hp _) rfl hk hl (Nat.le_refl _) hi ha
  refine h2.mono ?_
  rintro v' w' ⟨v, st', β', q1, q2, q3⟩
  refine ⟨?_, Kept.ofNil q3⟩
  have hβ : β'.env = envW w vs g := q3.ext.env
  have fs : Facts (withT (cxW q g noDefs noRows) l') β'.env := by rw [hβ]; exact facts_with hi.facts h1
  unfold isT at q1
  split at q1
  · rename_i x
    rw [cellIs_ok (β := β') (fun t b => ask_holds fs) q1 rfl q2, hβ, envW_eval]; rfl
  · cases q1

theorem run_B {n m : Nat} (hp : ∀ B, TOk (cxW q g noDefs noRows) B q) {dt : DT} (hk : runOne n m (cxW q g noDefs noRows) f l0 args (fun l => isBT (cxW q g noDefs noRows) l dt) = true) (h : Laid w) (hl : AsgOk (envW w vs g) l0) (ha : All2 (VRel (β0 w vs g)) args args'.toList) :
    CallRet prog f args' w fun v' w' => v' = .bool (decide (dt.eval (envV vs g) = 1)) ∧ Kept w w' := by
  have hi := inv1 (q := q) (g := g) (vs := vs) h
  obtain ⟨l', h1, h2⟩ := symL (tl := noTails) (ann := noAnn) (n := n) (m := m) cxWOk (hp _) rfl hk hl (Nat.le_refl _) hi ha
  refine h2.mono ?_
  rintro v' w' ⟨v, st', β', q1, q2, q3⟩
  refine ⟨?_, Kept.ofNil q3⟩
  have hβ : β'.env = envW w vs g := q3.ext.env
  have fs : Facts (withT (cxW q g noDefs noRows) l') β'.env := by rw [hβ]; exact facts_with hi.facts h1
  unfold isBT at q1
  split at q1
  · rename_i b
    split at q1
    · rename_i mm hm
      have h1 := DT.find_ok (ρ := β'.env) (fun t b => ask_holds fs) hm
      rw [hβ, envW_eval] at h1
      have h2 := of_decide_eq_true q1
      have e : v' = .bool b := q2
      rw [e, h1]
      cases b
      · simp only [cond_false] at h2; subst h2; rfl
      · simp only [cond_true] at h2; subst h2; rfl
    · cases q1
  · cases q1
end

theorem asN {ρ : Env} : AsgOk ρ [] := fun _ hp => nomatch hp
theorem asC {ρ : Env} {t : Tst} {q : Bool} {l : Asg} (h : t.holds ρ = q) (hl : AsgOk ρ l) : AsgOk ρ ((t, q) :: l) := fun p hp => by
  rcases List.mem_cons.1 hp with rfl | hp
  · exact h
  · exact hl p hp

/-! ### slices of integers, strings -/
/-- A slice whose elements are t's, from o on. -/
def IsInts (w : World) (v : Value) (t : Int → Int) (o n : Int) : Prop := ∃ (a : Option Addr) (m c : Nat), v = .slice a m c ∧ m ≤ c ∧ (m : Int) = n ∧ (m ≠ 0 → ∃ b off, a = some ⟨b, off, none⟩ ∧ ∀ j, j < m → w.cell? ⟨b, off + j, none⟩ = some (vi (t (o + (j : Int)))))
/-- A string's bytes are y's, from o on. -/
def IsStr (v : Value) (y : Int → Int) (o n : Int) : Prop := ∃ l : List UInt8, v = .string ⟨l.toArray⟩ ∧ (l.length : Int) = n ∧ ∀ (j : Nat) (b : UInt8), l[j]? = some b → (b.toNat : Int) = y (o + (j : Int))

theorem ost_rel {w : World} {β : Be} {k : Nat} {oe ne : E} {v : Value} {t : Int → Int} (h : IsInts w v t (oe.val β.env) (ne.val β.env)) (hm : β.env.mem = memOf w) (hg : ∀ j, β.env.f (2000 + k) [j] = t j) : CRel β (.ost k oe ne) v := by
  obtain ⟨a, m, c, rfl, h1, h2, h3⟩ := h
  refine ⟨a, m, c, rfl, h1, h2, fun h0 => ?_⟩
  obtain ⟨b, off, ha, hj⟩ := h3 h0
  refine ⟨b, off, ha, fun j hjm => .inl ?_⟩
  rw [hm, hg]; exact hj j hjm
theorem ints_of {cx' : Cx} {B : Nat} {st : St} {w : World} {β : Be} {k : Nat} {oe ne : E} {v : Value} (hi : Inv cx' B β st w) (h : CRel β (.ost k oe ne) v) : IsInts w v (fun j => β.env.f (2000 + k) [j]) (oe.val β.env) (ne.val β.env) := by
  obtain ⟨a, m, c, rfl, h1, h2, h3⟩ := h
  refine ⟨a, m, c, rfl, h1, h2, fun h0 => ?_⟩
  obtain ⟨b, off, ha, hj⟩ := h3 h0
  refine ⟨b, off, ha, fun j hjm => ?_⟩
  rcases hj j hjm with q | q
  · exact (hi.base _ _ _ q).2
  · exact (hi.still _ _ _ q).1
theorem ot_rel {β : Be} {k : Nat} {oe ne : E} {v : Value} {y : Int → Int} (h : IsStr v y (oe.val β.env) (ne.val β.env)) (hg : ∀ j, β.env.f (1000 + k) [j] = y j) : CRel β (.ot k oe ne) v := by
  obtain ⟨l, rfl, h1, h2⟩ := h
  exact ⟨l, rfl, h1, fun j b hb => by rw [hg]; exact h2 j b hb⟩
theorem str_of {β : Be} {k : Nat} {oe ne : E} {v : Value} (h : CRel β (.ot k oe ne) v) : IsStr v (fun j => β.env.f (1000 + k) [j]) (oe.val β.env) (ne.val β.env) := h
end Go.Proofs.Tryz
