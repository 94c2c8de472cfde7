/- The abstract machine: the look for what is not known, laid out so that the kernel runs it fast (no proof is needed of it). The abstract machine: loops whose heads are told beforehand. -/
import Derived.Test.YthlmjjdlmidnlaaGreatDoorAmFb
import Derived.Test.YthlmjjdlmidnlaaGreatDoorAmZb
import Derived.Test.YthlmjjdlmidnlaaGreatDoorAmS
namespace Go.Am
open Go

noncomputable section
def bindA {α γ : Type} (x : Ans α) (k : α → Ans γ) : Ans γ := @Ans.rec α (fun _ => Ans γ) k (fun t => .ask t) .no x
def orNo {α γ : Type} (x : Option α) (k : α → Ans γ) : Ans γ := @Option.rec α (fun _ => Ans γ) .no k x
def putA (d : Option Tmp) (fr : Fr) (v : V) (st : St) : Ans (Fr × St) := orNo (putF d fr v) fun fr => .ok (fr, st)

/-- A call's end. -/
def endA (e : Exit) : Cx → Func → Fr → St → Ans (V × St) :=
  @Exit.rec (fun _ => Cx → Func → Fr → St → Ans (V × St)) (fun cx F fr st => orNo (resultF cx F fr st) fun v => .ok (v, st)) (fun _ _ _ _ _ => .no) (fun _ _ _ _ _ => .no)
    (fun cx F fr st => orNo (resultF cx F fr st) fun v => .ok (v, st)) (fun _ _ _ _ _ => .no) (fun _ _ _ _ => .no) e

def callA (cx : Cx) (R : RunST) (fl : Nat) (f : FuncId) (args : List V) (st : St) : Ans (V × St) :=
  @Option.rec (Nat → List V → St → Option (V × St)) (fun _ => Ans (V × St))
    (orNo (cx.fn f) fun F => orNo F.body fun c => bindA (R fl f c ⟨F.ntmps, mkArgsF args 0 .nil⟩ st) fun p => endA p.1 cx F p.2.1 p.2.2)
    (fun p => orNo (p fl args st) fun r => .ok r) (cx.prim f)

abbrev OpA := List Oper → Oper → Cx → RunST → Nat → Fr → St → Ans (Fr × St)
def resA (r : R) : OpA :=
  @R.rec (fun _ => OpA)
    (fun v st' _ o _ _ _ fr _ => putA o.dst fr v st')
    (fun st' _ o _ _ _ fr _ => putA o.dst fr undefV st')
    (fun f args _ o cx R fl fr st => bindA (callA cx R fl f args st) fun p => putA o.dst fr p.1 p.2)
    (fun l _ o _ _ _ fr _ => @List.rec (V × St) (fun _ => Ans (Fr × St)) .no (fun p _ _ => putA o.dst fr p.1 p.2) l)
    (fun _ o cx _ _ fr st => .orAsk (askOf cx fr st o.op))
    (fun _ _ _ _ _ _ _ _ _ => .no) r
def doneA : OpA := fun all o cx R fl fr st => resA (stepF o.op cx fl fr st o.type) all o cx R fl fr st
def goneA : OpA := fun _ o _ _ _ fr st => putA o.dst fr undefV st
def wantA (w : Option Bool) : OpA :=
  @Option.rec Bool (fun _ => OpA) (fun all o _ _ _ fr _ => .orAsk (askGuard all o fr)) (fun b => @Bool.rec (fun _ => OpA) goneA doneA b) w
def opA : OpA := fun all o cx R fl fr st => wantA (wantedF o.guard all fr) all o cx R fl fr st

def opsA (cx : Cx) (R : RunST) (fl : Nat) (all l : List Oper) : Fr → St → Ans (Fr × St) :=
  @List.rec Oper (fun _ => Fr → St → Ans (Fr × St)) (fun fr st => .ok (fr, st)) (fun o _ ih fr st => bindA (opA all o cx R fl fr st) fun p => ih p.1 p.2) l

def askAt (cx : Cx) (ops : List Oper) (o : Oper) (fr : Fr) (st : St) : Ans (Fr × St) := .orAsk ((askGuard ops o fr).or (askOf cx fr st o.op))

abbrev GoA := List (Nat × Nat × O) → Fr → St → Ans (Fr × St)
abbrev StepA := Cx → RunST → Nat → List Oper → GoA → GoA
def pOrAsk (x : Option V) (k : V → Ans (Fr × St)) (a : Ans (Fr × St)) : Ans (Fr × St) := @Option.rec V (fun _ => Ans (Fr × St)) a k x
def aP (i : Nat) : StepA := fun cx _ _ ops go pend fr st => orNo (nthF ops i) fun o => pOrAsk (pureG cx ops o fr .nil) (fun v => orNo (putF o.dst fr v) fun fr => go pend fr st) (askAt cx ops o fr st)
def aR (i : Nat) (as : List Nat) : StepA := fun cx _ _ ops go pend fr st => orNo (nthF ops i) fun o => pOrAsk (pureG cx ops o fr (insertAs pend as st).heap) (fun v => orNo (putF o.dst fr v) fun fr => go pend fr st) (askAt cx ops o fr (insertAs pend as st))
def aA (i : Nat) : StepA := fun cx _ _ ops go pend fr st => orNo (nthF ops i) fun o =>
  @Option.rec (V × O) (fun _ => Ans (Fr × St)) (pOrAsk (pureG cx ops o fr .nil) (fun v => orNo (putF o.dst fr v) fun fr => go pend fr st) (askAt cx ops o fr st))
    (fun p => orNo (putF o.dst fr p.1) fun fr => go (pend ++ [(i, st.next, p.2)]) fr ⟨st.heap, st.next + 1⟩) (newG cx ops o fr st.next)
def aQ (i : Nat) (as : List Nat) : StepA := fun cx R _ ops go pend fr st => orNo (nthF ops i) fun o => bindA (opA ops o cx R st.next fr (insertAs pend as st)) fun p => go pend p.1 p.2
def aW (i : Nat) : StepA := fun cx R fl ops go pend fr st => orNo (nthF ops i) fun o => bindA (opA ops o cx R fl fr (insertAll pend st)) fun p => go [] p.1 p.2
def stepA' (s : Step) : StepA := @Step.rec (fun _ => StepA) aP aR aA aQ aW s
def planA (cx : Cx) (R : RunST) (fl : Nat) (ops : List Oper) (l : List Step) : GoA :=
  @List.rec Step (fun _ => GoA) (fun pend fr st => .ok (fr, insertAll pend st)) (fun s _ ih => stepA' s cx R fl ops ih) l

abbrev RowA := Cx → Ann → Tails → RunST → Nat → FuncId → Fr → St → Ans (Exit × Fr × St)
def thenA (e : Exit) : (Fr → St → Ans (Exit × Fr × St)) → Fr → St → Ans (Exit × Fr × St) :=
  @Exit.rec (fun _ => (Fr → St → Ans (Exit × Fr × St)) → Fr → St → Ans (Exit × Fr × St)) (fun k fr st => k fr st) (fun i _ fr st => .ok (.exit i, fr, st)) (fun l _ fr st => .ok (.goto l, fr, st))
    (fun _ fr st => .ok (.ret, fr, st)) (fun p _ fr st => .ok (.panic p, fr, st)) (fun _ fr st => .ok (.outgrown, fr, st)) e
def outA (id : Nat) (e : Exit) : Exit :=
  @Exit.rec (fun _ => Exit) .normal (fun i => (@Bool.rec (fun _ => Exit) (.exit i) (.normal) (Nat.beq i id))) (fun l => .goto l) .ret (fun p => .panic p) .outgrown e
def okN (x : Ans (Fr × St)) : Ans (Exit × Fr × St) := bindA x fun p => .ok (.normal, p.1, p.2)
def rgPlan (ops : Array Oper) (id : Nat) : RowA := fun cx _ _ R fl g fr st => @Option.rec (List Step) (fun _ => Ans (Exit × Fr × St)) (okN (opsA cx R fl ops.toList ops.toList fr st)) (fun pl => okN (planA cx R fl ops.toList pl [] fr st)) (cx.plan g id)
def rgOps (ops : Array Oper) : RowA := fun cx _ _ R fl _ fr st => okN (opsA cx R fl ops.toList ops.toList fr st)
def rgAny (id : Nat) (ops : Array Oper) (draw : Bool) : RowA := @Bool.rec (fun _ => RowA) (rgOps ops) (rgPlan ops id) draw
def nxA (an : Ann) (R : RunST) (fl : Nat) (g : FuncId) (b : Code) (fr : Fr) (st : St) : Ans (Exit × Fr × St) :=
  @Option.rec Heads (fun _ => Ans (Exit × Fr × St)) (R fl g b fr st) (fun A => orNo A.outs fun os => @List.rec (Exit × Fr × St) (fun _ => Ans (Exit × Fr × St)) .no (fun o _ _ => .ok o) os) (an g (1000 + firstReg b))
def sqA (a b : Code) : RowA := fun _ an tl R fl g fr st =>
  @List.rec (Fr × St × Asg) (fun _ => Ans (Exit × Fr × St)) (bindA (R fl g a fr st) fun p => thenA p.1 (fun fr st => nxA an R fl g b fr st) p.2.1 p.2.2) (fun _ _ _ => .no) (tl g (firstReg a))
def ifA (b : Bool) (x y : Code) : RowA := @Bool.rec (fun _ => RowA) (fun _ _ _ R fl g fr st => R fl g y fr st) (fun _ _ _ R fl g fr st => R fl g x fr st) b
def cdA (c : Operand) (a b : Code) : RowA := fun cx an tl R fl g fr st =>
  @Option.rec Bool (fun _ => Ans (Exit × Fr × St)) (.orAsk (askB cx fr c)) (fun t => ifA t a b cx an tl R fl g fr st) (((evF c fr).bind (resB cx)).bind toBool)
def bkA (id : Nat) (b : Code) : RowA := fun _ _ _ R fl g fr st => bindA (R fl g b fr st) fun p => .ok (outA id p.1, p.2.1, p.2.2)
def isNormal (e : Exit) : Bool := @Exit.rec (fun _ => Bool) true (fun _ => false) (fun _ => false) false (fun _ => false) false e
def lpA (b : Code) : RowA := fun _ an _ R fl g fr st =>
  @Option.rec Heads (fun _ => Ans (Exit × Fr × St)) (bindA (R fl g b fr st) fun p => thenA p.1 (fun fr st => R fl g (.loop b) fr st) p.2.1 p.2.2)
    (fun A => @Option.rec (List (Exit × Fr × St)) (fun _ => Ans (Exit × Fr × St)) (bindA (R fl g b (A.head (A.n - 1)).1 (A.head (A.n - 1)).2) fun p => (@Bool.rec (fun _ => Ans (Exit × Fr × St)) (.ok p) (.no) (isNormal p.1)))
      (fun os => @List.rec (Exit × Fr × St) (fun _ => Ans (Exit × Fr × St)) .no (fun o _ _ => .ok o) os) A.outs) (an g (firstReg b))
def codeA (c : Code) : RowA :=
  @Code.rec (fun _ => RowA) (fun _ _ _ _ _ _ fr st => .ok (.normal, fr, st)) rgAny (fun a b _ _ => sqA a b) (fun c a b _ _ => cdA c a b) (fun id b _ => bkA id b) (fun b _ => lpA b)
    (fun _ _ _ _ _ _ _ _ _ _ _ _ _ _ => .no) (fun id _ _ _ _ _ _ fr st => .ok (.exit id, fr, st)) (fun b _ _ _ _ R fl g fr st => R fl g b fr st) (fun _ _ _ _ _ _ _ fr st => .ok (.normal, fr, st)) (fun _ _ _ _ _ _ _ _ _ => .no)
    (fun _ _ _ _ _ _ fr st => .ok (.ret, fr, st)) (fun _ _ _ _ _ _ _ _ _ => .no) c
def runA' (cx : Cx) (ann : Ann) (tl : Tails) (n : Nat) : RunST :=
  @Nat.rec (fun _ => RunST) (fun _ _ _ _ _ => .no) (fun _ R fl g c fr st => codeA c cx ann tl R fl g fr st) n

def askT {α : Type} (x : Ans α) : Option Tst := @Ans.rec α (fun _ => Option Tst) (fun _ => none) (fun t => some t) none x
/-- The first comparison of a call that is not known. -/
def askCallF (cx : Cx) (ann : Ann) (tl : Tails) (n fl : Nat) (f : FuncId) (args : List V) (st : St) (l : Asg) : Option Tst := askT (callA (withT cx l) (runA' (withT cx l) ann tl n) fl f args st)
def askCodeF (cx : Cx) (ann : Ann) (n fl : Nat) (g : FuncId) (b : Code) (p : Fr × St) (l : Asg) : Option Tst := askT (runA' (withT cx l) ann (fun _ _ => []) n fl g b p.1 p.2)

/-- All roads' facts and answers (a look for one's own eyes). -/
def leavesF (cx : Cx) (ann : Ann) (tl : Tails) (n fl : Nat) (f : FuncId) (args : List V) (st : St) : Nat → Asg → List (Asg × Option V)
  | 0, l => [(l, none)]
  | m + 1, l => match callA (withT cx l) (runA' (withT cx l) ann tl n) fl f args st with
    | .ask t => leavesF cx ann tl n fl f args st m ((t, true) :: l) ++ leavesF cx ann tl n fl f args st m ((t, false) :: l)
    | .ok (v, _) => [(l, some v)]
    | .no => [(l, none)]
end
end Go.Am

namespace Go.Am
open Go

variable {cx : Cx} {P : Program} {B fl : Nat} {β : Be} {st : St} {w : World}

def T.allT {α : Type} : T α → (Nat → α → Bool) → Bool
  | .nil, _ => true
  | .node v l r, f => (match v with | some x => f 0 x | none => true) && l.allT (fun k x => f (2 * k + 1) x) && r.allT (fun k x => f (2 * k + 2) x)

theorem T.allT_get {α : Type} : ∀ {t : T α} {f : Nat → α → Bool}, t.allT f = true → ∀ n x, t.get n = some x → f n x = true
  | .nil, _, _, n, x, h => by simp [T.get] at h
  | .node v l r, f, h, n, x, hx => by
    simp only [allT, Bool.and_eq_true] at h
    rcases form n with rfl | ⟨k, rfl⟩ | ⟨k, rfl⟩
    · rw [get0] at hx; subst hx; exact h.1.1
    · rw [get1] at hx; exact allT_get h.1.2 k x hx
    · rw [get2] at hx; exact allT_get h.2 k x hx

/-- What a symbol's definition says of a comparison. -/
def defSays (cx : Cx) (look : Tst → Option Bool) : Tst → Option Bool
  | .eq (.var m) (.lit v) => (match cx.defs m with
    | some d => (match d.find look with
      | some (.lit u) => some (decide (u = v))
      | _ => none)
    | none => none)
  | _ => none
/-- What is known of a comparison, definitions taken in. -/
def askD (cx : Cx) (t : Tst) : Option Bool :=
  match ask cx t with
  | some b => some b
  | none => defSays cx (ask cx) t

theorem defSays_holds {ρ : Env} (h : Facts cx ρ) {look : Tst → Option Bool} (hk : ∀ t b, look t = some b → t.holds ρ = b) {t : Tst} {b : Bool} (ht : defSays cx look t = some b) : t.holds ρ = b := by
  unfold defSays at ht
  split at ht
  case h_2 => cases ht
  rename_i m v
  split at ht
  case h_2 => cases ht
  rename_i d hd
  split at ht
  case h_2 => cases ht
  rename_i u hu
  simp only [Option.some.injEq] at ht; subst ht
  have h1 := DT.find_ok hk hu
  have h2 := h.defs m d hd
  have h3 : (E.var m).val ρ = u := by show ρ.v m = u; rw [h2, h1]; rfl
  have h4 : (E.lit v).val ρ = v := rfl
  simp only [Tst.holds, h3, h4]
  by_cases e : u = v
  · subst e; simp
  · rw [decide_eq_false e, beq_eq_false_iff_ne.2 e]

theorem askD_holds {ρ : Env} (h : Facts cx ρ) {t : Tst} {b : Bool} (ht : askD cx t = some b) : t.holds ρ = b := by
  unfold askD at ht
  split at ht
  · rename_i b' hb; cases ht; exact ask_holds h hb
  · exact defSays_holds h (fun t b => ask_holds h) ht

/-- Facts that are known. -/
def factsB (cx : Cx) (l : Asg) : Bool := l.all fun p => match askD cx p.1 with
  | some b => b == p.2
  | none => false
theorem factsB_ok {ρ : Env} (h : Facts cx ρ) {l : Asg} (hl : factsB cx l = true) : AsgOk ρ l := by
  intro p hp
  have := List.all_eq_true.1 hl p hp
  split at this
  · rename_i b hb; rw [askD_holds h hb]; exact eq_of_beq this
  · cases this
/-- Facts that can't be. -/
def dead (cx : Cx) (l : Asg) : Bool := l.any fun p => match defSays cx (askD cx) p.1 with
  | some b => b != p.2
  | none => false
theorem dead_no {ρ : Env} (h : Facts cx ρ) {l : Asg} (hl : dead cx l = true) : ¬ AsgOk ρ l := by
  intro ha
  obtain ⟨p, hp, hq⟩ := List.any_eq_true.1 hl
  split at hq
  · rename_i b hb
    have h1 := defSays_holds h (fun t b => askD_holds h) hb
    rw [ha p hp] at h1
    rw [h1] at hq; simp at hq
  · cases hq

def exitEq : Exit → Exit → Bool
  | .ret, .ret => true
  | .exit i, .exit j => Nat.beq i j
  | _, _ => false
theorem exitEq_ok {a b : Exit} (h : exitEq a b = true) : a = b := by
  unfold exitEq at h
  split at h
  · rfl
  · rw [Nat.eq_of_beq_eq_true h]
  · cases h

/-- A cell that is known to be what the other is: the same, or a symbol's definition. -/
def boolIs (o : Option E) : C → Bool
  | .sc (.bool b) => (match o with | some (.lit v) => b == !(decide (v = 0)) | _ => false)
  | _ => false

def cvC (cx : Cx) (u v : C) : Bool :=
  match v with
  | .sy k (.var m) => (match cx.defs m with
    | some d => cellIs (askD cx) k d u || eqC u v
    | none => eqC u v)
  | .sb (.var m) => (match cx.defs m with
    | some d => boolIs (d.find (askD cx)) u || eqC u v
    | none => eqC u v)
  | v => eqC u v

theorem cvC_ok (hf : Facts cx β.env) {u v : C} {x : Value} (hu : CRel β u x) (h : cvC cx u v = true) : CRel β v x := by
  unfold cvC at h
  split at h
  · rename_i k m
    split at h
    · rename_i d hd
      simp only [Bool.or_eq_true] at h
      rcases h with h | h
      · have := cellIs_ok (fun t b => askD_holds hf) h rfl hu
        rw [this]
        show Value.int _ _ = Value.int _ _
        rw [← hf.defs m d hd]; rfl
      · rw [← eqC_ok h]; exact hu
    · rw [← eqC_ok h]; exact hu
  · rename_i m
    split at h
    · rename_i d hd
      simp only [Bool.or_eq_true] at h
      rcases h with h | h
      · unfold boolIs at h
        split at h
        · rename_i b
          split at h
          · rename_i v hv
            have h1 := DT.find_ok (fun t b => askD_holds hf) hv
            have h2 : (E.var m).val β.env = v := by
              show β.env.v m = v
              rw [hf.defs m d hd, h1]; rfl
            have hu' : x = .bool b := hu
            rw [hu', eq_of_beq h]
            show Value.bool _ = Value.bool _
            rw [h2]
            by_cases e : v = 0 <;> simp [e]
          · cases h
        · cases h
      · rw [← eqC_ok h]; exact hu
    · rw [← eqC_ok h]; exact hu
  · rw [← eqC_ok h]; exact hu

def cvL (cx : Cx) : List C → List C → Bool
  | [], [] => true
  | x :: xs, y :: ys => cvC cx x y && cvL cx xs ys
  | _, _ => false

theorem cvL_ok (hf : Facts cx β.env) : ∀ {l m : List C} {vs : List Value}, All2 (CRel β) l vs → cvL cx l m = true → All2 (CRel β) m vs
  | [], [], [], _, _ => trivial
  | x :: l, y :: m, v :: vs, h, hc => by
    simp only [cvL, Bool.and_eq_true] at hc
    exact ⟨cvC_ok hf h.1 hc.1, cvL_ok hf h.2 hc.2⟩
  | [], [], _ :: _, h, _ => h.elim
  | _ :: _, [], _, _, hc => by simp [cvL] at hc
  | [], _ :: _, _, _, hc => by simp [cvL] at hc
  | _ :: _, _ :: _, [], h, _ => h.elim

def cvA (cx : Cx) : A → A → Bool
  | .c x, .c y => cvC cx x y
  | .agg l, .agg m => cvL cx l m
  | _, _ => false

theorem cvA_ok (hf : Facts cx β.env) : ∀ {x y : A} {v : Value}, ARel β x v → cvA cx x y = true → ARel β y v
  | .c _, .c _, _, h, hc => cvC_ok hf h hc
  | .agg _, .agg _, _, ⟨a, e, r, s⟩, hc => ⟨a, e, cvL_ok hf r hc, s⟩
  | .c _, .agg _, _, _, hc => by simp [cvA] at hc
  | .agg _, .c _, _, _, hc => by simp [cvA] at hc

def cvV (cx : Cx) : V → V → Bool
  | .a x, .a y => cvA cx x y
  | x, y => eqVv x y

theorem cvV_ok (hf : Facts cx β.env) {x y : V} {v : Value} (h : VRel β x v) (hc : cvV cx x y = true) : VRel β y v := by
  unfold cvV at hc
  split at hc
  · exact cvA_ok (β := β) hf h hc
  · rw [← eqVv_ok hc]; exact h

def cvO (cx : Cx) : O → O → Bool
  | .cells l t fx, .cells m t' fx' => cvL cx l m && Nat.beq t t' && (fx == fx')
  | x, y => eqO x y

theorem cvO_ok (hf : Facts cx β.env) {x y : O} {e : Nat} {ob : Obj} (h : ORel cx β e x ob) (hc : cvO cx x y = true) : ORel cx β e y ob := by
  unfold cvO at hc
  split at hc
  · simp only [Bool.and_eq_true] at hc
    obtain ⟨cur, pre, rest, h1, h2, h3, h4, h5, h6⟩ := h
    have e1 := Nat.eq_of_beq_eq_true hc.1.2
    have e2 := eq_of_beq hc.2
    subst e1 e2
    exact ⟨cur, pre, rest, h1, h2, cvL_ok hf h3 hc.1.1, h4, h5, h6⟩
  · rw [← eqO_ok hc]; exact h

/-- The state is the told one, seen with less knowledge. -/
def cover (cx : Cx) (fl : Nat) (p : Fr × St) (fr : Fr) (st : St) : Bool :=
  Nat.beq p.1.n fr.n && Nat.ble st.next p.2.next && p.1.t.allT (fun t v => match fr.t.get t with | some u => cvV cx u v | none => false) &&
    p.2.heap.allT (fun id o => match st.heap.get id with | some u => cvO cx u o | none => false) &&
    (nats fl).all fun id => match p.2.heap.get id, st.heap.get id with
      | some x, some y => eqO x y
      | none, none => true
      | _, _ => false

theorem cover_ok {p : Fr × St} {fr : Fr} {a : Act} (hc : cover cx fl p fr st = true) (h : Inv cx B β st w) (hf : FrRel β fr a) : FrRel β p.1 a ∧ Good cx B fl β st w β p.2 w := by
  unfold cover at hc
  simp only [Bool.and_eq_true] at hc
  obtain ⟨⟨⟨⟨h1, h2⟩, h3⟩, h4⟩, h5⟩ := hc
  have hn := Nat.eq_of_beq_eq_true h1
  have hx := Nat.le_of_ble_eq_true h2
  have hsub : ∀ id o, p.2.heap.get id = some o → ∃ u, st.heap.get id = some u ∧ cvO cx u o = true := fun id o ho => by
    have := T.allT_get h4 id o ho
    split at this
    · rename_i u hu; exact ⟨u, hu, this⟩
    · cases this
  refine ⟨⟨by rw [hn]; exact hf.size, fun t v hv => ?_⟩, Ext.refl _, fun _ _ => rfl, ⟨fun id q hq => ?_, fun id o ho => ?_, fun i j oi oj b e e' hi hj => ?_, h.base, h.size, h.facts, h.still⟩, fun id hid => ?_, hx, rfl, rfl, rfl, Nat.le_refl _, fun _ _ _ => rfl, fun id o b e hid ho hb => ?_, fun _ _ _ h => .inl h⟩
  · have := T.allT_get h3 t v hv
    split at this
    · rename_i u hu; exact cvV_ok h.facts (hf.val t u hu) this
    · cases this
  · exact ⟨Nat.lt_of_lt_of_le (h.low id q hq).1 hx, (h.low id q hq).2⟩
  · obtain ⟨u, hu, hcv⟩ := hsub id o ho
    obtain ⟨b, e, ob, g1, g2, g3⟩ := h.live id u hu
    exact ⟨b, e, ob, g1, g2, cvO_ok h.facts g3 hcv⟩
  · obtain ⟨u, hu, _⟩ := hsub i oi hi
    obtain ⟨v, hv, _⟩ := hsub j oj hj
    exact h.inj i j u v b e e' hu hv
  · have := List.all_eq_true.1 h5 id (mem_nats.2 hid)
    split at this
    · rename_i x y e1 e2; rw [e1, e2, eqO_ok this]
    · rename_i e1 e2; rw [e1, e2]
    · cases this
  · obtain ⟨u, hu, _⟩ := hsub id o ho
    exact .inr ⟨id, u, e, hid, hu, hb⟩

/-- A loop by its heads. -/
noncomputable def loopA (cx : Cx) (ann : Ann) (n : Nat) (l : Asg) (R : Asg → RunT) (A : Heads) (fl : Nat) (g : FuncId) (b : Code) (fr : Fr) (st : St) (K : Exit → Fr → St → Bool) : Bool :=
  Nat.ble 1 A.n && cover (withT cx l) fl (A.head 0) fr st && factsB (withT cx l) (A.facts 0) && (match A.outs with | some os => os.all fun o => Nat.ble fl o.2.2.next && K o.1 o.2.1 o.2.2 | none => true) &&
    (nats A.n).all fun i => Nat.ble fl (A.head i).2.next && paths 60 (A.facts i ++ l) (askCodeF cx ann n fl g b (A.head i)) fun l' => R l' fl g b (A.head i).1 (A.head i).2 fun e fr st => dead (withT cx l') l || match e with
    | .normal => Nat.blt (i + 1) A.n && cover (withT cx l') fl (A.head (i + 1)) fr st && factsB (withT cx l') (A.facts (i + 1))
    | e => (match A.outs with | some os => os.any fun o => exitEq o.1 e && cover (withT cx l') fl o.2 fr st | none => K e fr st)

/-- The rest of a function from a told state on, to told ends. -/
noncomputable def tailA (cx : Cx) (ann : Ann) (n : Nat) (l : Asg) (R : Asg → RunT) (A : Heads) (fl : Nat) (g : FuncId) (b : Code) (fr : Fr) (st : St) (K : Exit → Fr → St → Bool) : Bool :=
  Nat.ble fl (A.head 0).2.next && cover (withT cx l) fl (A.head 0) fr st && factsB (withT cx l) (A.facts 0) && (match A.outs with
  | some os => (os.all fun o => Nat.ble fl o.2.2.next && K o.1 o.2.1 o.2.2) && paths 60 (A.facts 0 ++ l) (askCodeF cx ann n fl g b (A.head 0)) fun l' => R l' fl g b (A.head 0).1 (A.head 0).2 fun e fr st => dead (withT cx l') l || os.any fun o => exitEq o.1 e && cover (withT cx l') fl o.2 fr st
  | none => false)

noncomputable def nextA (cx : Cx) (ann : Ann) (n : Nat) (l : Asg) (R : Asg → RunT) (fl : Nat) (g : FuncId) (b : Code) (fr : Fr) (st : St) (K : Exit → Fr → St → Bool) : Bool :=
  match ann g (1000 + firstReg b) with
  | some A => tailA cx ann n l R A fl g b fr st K
  | none => R l fl g b fr st K

def Tst.same : Tst → Tst → Bool
  | .le a b, .le c d => a.same c && b.same d
  | .eq a b, .eq c d => a.same c && b.same d
  | _, _ => false

theorem Tst.same_eq {t u : Tst} (h : t.same u = true) : t = u := by
  cases t <;> cases u <;> simp only [Tst.same, Bool.and_eq_true, Bool.false_eq_true] at h <;> rw [E.same_eq h.1, E.same_eq h.2]

/-- The facts are among the others. -/
def amongA (l' l : Asg) : Bool := l'.all fun p => l.any fun q => p.1.same q.1 && (p.2 == q.2)

theorem amongA_ok {ρ : Env} {l' l : Asg} (h : amongA l' l = true) (hl : AsgOk ρ l) : AsgOk ρ l' := by
  intro p hp
  obtain ⟨q, hq, he⟩ := List.any_eq_true.1 (List.all_eq_true.1 h p hp)
  simp only [Bool.and_eq_true, beq_iff_eq] at he
  rw [Tst.same_eq he.1, he.2]
  exact hl q hq

def coverOne (cx : Cx) (fl : Nat) (fr : Fr) (st : St) : List (Fr × St × Asg) → Option (Fr × St × Asg)
  | [] => none
  | p :: ps => bif cover cx fl (p.1, p.2.1) fr st then some p else coverOne cx fl fr st ps

theorem coverOne_ok {cx : Cx} {fl : Nat} {fr : Fr} {st : St} : ∀ {l : List (Fr × St × Asg)} {p : Fr × St × Asg}, coverOne cx fl fr st l = some p → cover cx fl (p.1, p.2.1) fr st = true
  | [], _, h => by cases h
  | q :: ps, p, h => by
    simp only [coverOne] at h
    cases hc : cover cx fl (q.1, q.2.1) fr st with
    | true => rw [hc] at h; simp only [cond_true, Option.some.injEq] at h; subst h; exact hc
    | false => rw [hc] at h; exact coverOne_ok h

def noTails : Tails := fun _ _ => []

noncomputable def runA (cx : Cx) (ann : Ann) : Nat → Tails → Asg → RunT
  | 0, _, _ => fun _ _ _ _ _ _ => false
  | n + 1, tl, l => fun fl g c fr st K =>
    match c with
    | .skip => K .normal fr st
    | .region id ops draw => bif draw then (match cx.plan g id with
        | some pl => runPlan (withT cx l) (runA cx ann n tl l) fl ops.toList pl [] fr st (K .normal)
        | none => runAll (withT cx l) (runA cx ann n tl l) fl ops.toList ops.toList.length [] fr st (K .normal)) else runOps (withT cx l) (runA cx ann n tl l) fl ops.toList ops.toList fr st (K .normal)
    | .seq a b => (match tl g (firstReg a) with
      | [] => runA cx ann n tl l fl g a fr st fun e fr st => match e with
        | .normal => nextA cx ann n l (fun l => runA cx ann n tl l) fl g b fr st K
        | e => K e fr st
      | p :: ps => (match coverOne (withT cx l) fl fr st (p :: ps) with
        | some q => amongA q.2.2 l && Nat.ble fl q.2.1.next && runA cx ann n noTails q.2.2 fl g (.seq a b) q.1 q.2.1 K
        | none => false))
    | .cond c a b => match ((ev fr c).bind (resB (withT cx l))).bind toBool with
      | some true => runA cx ann n tl l fl g a fr st K
      | some false => runA cx ann n tl l fl g b fr st K
      | none => false
    | .block id b => runA cx ann n tl l fl g b fr st fun e fr st => match e with
      | .exit i => bif Nat.beq i id then K .normal fr st else K (.exit i) fr st
      | e => K e fr st
    | .loop b => (match ann g (firstReg b) with
      | some A => loopA cx ann n l (fun l => runA cx ann n tl l) A fl g b fr st K
      | none => runA cx ann n tl l fl g b fr st fun e fr st => match e with
        | .normal => (match ann g (firstReg b) with
          | none => runA cx ann n tl l fl g (.loop b) fr st K
          | some _ => false)
        | e => K e fr st)
    | .exit id => K (.exit id) fr st
    | .ret => K .ret fr st
    | .label _ => K .normal fr st
    | .scope b => runA cx ann n tl l fl g b fr st (noGoto K)
    | _ => false

theorem rounds_trans {ro : Option Nat} {N : Nat} {b : Code} {K : Exit → Fr → St → Bool} {β1 : Be} {st1 : St} {w1 : World} (h : Good cx B fl β st w β1 st1 w1) : ∀ m a w2, Code.roundsIn (Fw ro) 0 P b (Post cx B fl N β1 st1 w1 K) m a w2 → Code.roundsIn (Fw ro) 0 P b (Post cx B fl N β st w K) m a w2
  | 0, _, _, h0 => h0.elim
  | m + 1, a, w2, h0 => by
    rw [roundsIn_succ] at h0 ⊢
    refine wpIn_mono h0 fun e a w3 hq => ?_
    cases e with
    | normal => exact rounds_trans h m _ _ hq
    | _ => exact Post.trans h hq

theorem loopA_ok {ro : Option Nat} {N : Nat} {ann : Ann} {n : Nat} {l : Asg} {R : Asg → RunT} (hR : ∀ l, CodeOk (withT cx l) P B (R l)) {A : Heads} {g : FuncId} {b : Code} {fr : Fr} {K : Exit → Fr → St → Bool} (hk : loopA cx ann n l R A fl g b fr st K = true) (hok : CodeFit cx ro g b) {a : Act} (h : Inv (withT cx l) B β st w) (hf : FrRel β fr a) (hd : DefOk N w a.defers) :
    Code.roundsIn (Fw ro) 0 P b (Post (withT cx l) B fl N β st w K) A.n a w := by
  unfold loopA at hk
  simp only [Bool.and_eq_true] at hk
  obtain ⟨⟨⟨⟨h0, hc⟩, hc0⟩, houts⟩, hall⟩ := hk
  have key : ∀ m i, i + m = A.n → 0 < m → ∀ β1 w1 a1, AsgOk β1.env (A.facts i) → Inv (withT cx l) B β1 (A.head i).2 w1 → FrRel β1 (A.head i).1 a1 → DefOk N w1 a1.defers → Code.roundsIn (Fw ro) 0 P b (Post (withT cx l) B fl N β1 (A.head i).2 w1 K) m a1 w1 := by
    intro m
    induction m with
    | zero => intro i _ h; omega
    | succ m ih =>
      intro i hi _ β1 w1 a1 i0 i1 i2 i3
      have hb := List.all_eq_true.1 hall i (mem_nats.2 (by omega))
      simp only [Bool.and_eq_true] at hb
      obtain ⟨l', hl', hb2⟩ := paths_ok (ρ := β1.env) hb.2 (fun p hp => (List.mem_append.1 hp).elim (i0 p) (i1.facts.known p))
      have fl' : Facts (withT cx l') β1.env := ⟨hl', i1.facts.fns, i1.facts.defs, i1.facts.base, i1.facts.outer⟩
      rw [roundsIn_succ]
      refine wpIn_mono (hR l' ro N fl g b _ _ _ hb2 ⟨by rw [plansOk_congr (cx := cx) (cx' := withT cx l') rfl]; exact hok.1, hok.2⟩ (Nat.le_of_ble_eq_true hb.1) a1 w1 β1 (Inv.to (cx := withT cx l) (cx' := withT cx l') rfl rfl fl' i1) i2 i3) ?_
      rintro e a' w' ⟨fr', st', β', q1, q2, q3, q4⟩
      have q2' : Good (withT cx l) B fl β1 (A.head i).2 w1 β' st' w' := Good.to (cx := withT cx l') (cx' := withT cx l) rfl rfl (by rw [q2.ext.env]; exact i1.facts) q2
      have alive : dead (withT cx l') l = false := by
        cases hd : dead (withT cx l') l with
        | false => rfl
        | true => exact absurd (by rw [q2.ext.env]; exact i1.facts.known) (dead_no q2.inv.facts hd)
      simp only [alive, Bool.false_or] at q1
      cases e with
      | normal =>
        simp only [Bool.and_eq_true] at q1
        have hlt : i + 1 < A.n := by simpa [Nat.blt, Nat.ble_eq, Nat.succ_le_iff] using q1.1.1
        obtain ⟨c1, c2⟩ := cover_ok q1.1.2 q2.inv q3
        have c2' : Good (withT cx l) B fl β' st' w' β' (A.head (i + 1)).2 w' := Good.to (cx := withT cx l') (cx' := withT cx l) rfl rfl q2'.inv.facts c2
        exact rounds_trans (q2'.trans c2') m _ _ (ih (i + 1) (by omega) (by omega) β' w' a' (factsB_ok q2.inv.facts q1.2) c2'.inv c1 q4)
      | _ =>
        simp only at q1
        split at q1
        · rename_i os hos
          obtain ⟨o, ho1, ho2⟩ := List.any_eq_true.1 q1
          simp only [Bool.and_eq_true] at ho2
          have he := exitEq_ok ho2.1
          obtain ⟨c1, c2⟩ := cover_ok ho2.2 q2.inv q3
          have c2' : Good (withT cx l) B fl β' st' w' β' o.2.2 w' := Good.to (cx := withT cx l') (cx' := withT cx l) rfl rfl q2'.inv.facts c2
          rw [hos] at houts
          have := List.all_eq_true.1 houts o ho1
          simp only [Bool.and_eq_true] at this
          exact ⟨o.2.1, o.2.2, β', by rw [← he]; exact this.2, q2'.trans c2', c1, q4⟩
        · exact ⟨fr', st', β', q1, q2', q3, q4⟩
  obtain ⟨c1, c2⟩ := cover_ok hc h hf
  exact rounds_trans c2 _ _ _ (key A.n 0 (by omega) (Nat.le_of_ble_eq_true h0) β w a (factsB_ok h.facts hc0) c2.inv c1 hd)

theorem tailA_ok {ro : Option Nat} {N : Nat} {ann : Ann} {n : Nat} {l : Asg} {R : Asg → RunT} (hR : ∀ l, CodeOk (withT cx l) P B (R l)) {A : Heads} {g : FuncId} {b : Code} {fr : Fr} {K : Exit → Fr → St → Bool} (hk : tailA cx ann n l R A fl g b fr st K = true) (hok : CodeFit cx ro g b) {a : Act} (h : Inv (withT cx l) B β st w) (hf : FrRel β fr a) (hd : DefOk N w a.defers) :
    b.wpIn (Fw ro) 0 P (Post (withT cx l) B fl N β st w K) a w := by
  unfold tailA at hk
  simp only [Bool.and_eq_true] at hk
  obtain ⟨⟨⟨h0, hc⟩, hc0⟩, houts⟩ := hk
  split at houts
  case h_2 => cases houts
  rename_i os hos
  simp only [Bool.and_eq_true] at houts
  obtain ⟨hK, hb⟩ := houts
  obtain ⟨c1, c2⟩ := cover_ok hc h hf
  have i1 := c2.inv
  obtain ⟨l', hl', hb2⟩ := paths_ok (ρ := β.env) hb (fun p hp => (List.mem_append.1 hp).elim (factsB_ok h.facts hc0 p) (i1.facts.known p))
  have fl' : Facts (withT cx l') β.env := ⟨hl', i1.facts.fns, i1.facts.defs, i1.facts.base, i1.facts.outer⟩
  refine wpIn_mono (hR l' ro N fl g b _ _ _ hb2 ⟨by rw [plansOk_congr (cx := cx) (cx' := withT cx l') rfl]; exact hok.1, hok.2⟩ (Nat.le_of_ble_eq_true h0) a w β (Inv.to (cx := withT cx l) (cx' := withT cx l') rfl rfl fl' i1) c1 hd) ?_
  rintro e a' w' ⟨fr', st', β', q1, q2, q3, q4⟩
  have q2' : Good (withT cx l) B fl β (A.head 0).2 w β' st' w' := Good.to (cx := withT cx l') (cx' := withT cx l) rfl rfl (by rw [q2.ext.env]; exact i1.facts) q2
  have alive : dead (withT cx l') l = false := by
    cases hd : dead (withT cx l') l with
    | false => rfl
    | true => exact absurd (by rw [q2.ext.env]; exact i1.facts.known) (dead_no q2.inv.facts hd)
  simp only [alive, Bool.false_or] at q1
  obtain ⟨o, ho1, ho2⟩ := List.any_eq_true.1 q1
  simp only [Bool.and_eq_true] at ho2
  have he := exitEq_ok ho2.1
  obtain ⟨d1, d2⟩ := cover_ok ho2.2 q2.inv q3
  have d2' : Good (withT cx l) B fl β' st' w' β' o.2.2 w' := Good.to (cx := withT cx l') (cx' := withT cx l) rfl rfl q2'.inv.facts d2
  have := List.all_eq_true.1 hK o ho1
  simp only [Bool.and_eq_true] at this
  exact ⟨o.2.1, o.2.2, β', by rw [← he]; exact this.2, c2.trans (q2'.trans d2'), d1, q4⟩

theorem codeA_ok {ann : Ann} (hx0 : CxOk cx P) (hp0 : ∀ l, PrimsOk (withT cx l) P B) (hpl0 : ∀ l, PlanOk (withT cx l) P B) : ∀ n tl l, CodeOk (withT cx l) P B (runA cx ann n tl l) ∧
    ∀ ro N fl g b fr st K, runA cx ann n tl l fl g (.loop b) fr st K = true → ann g (firstReg b) = none → CodeFit (withT cx l) ro g b → fl ≤ st.next → ∀ a w β, Inv (withT cx l) B β st w → FrRel β fr a → DefOk N w a.defers → Code.roundsIn (Fw ro) 0 P b (Post (withT cx l) B fl N β st w K) n a w
  | 0, tl, l => ⟨fun ro N fl g c fr st K h => by simp [runA] at h, fun ro N fl g b fr st K h => by simp [runA] at h⟩
  | n + 1, tl, l => by
    obtain ⟨ih, ihl⟩ := codeA_ok (ann := ann) hx0 hp0 hpl0 n tl l
    have hx : CxOk (withT cx l) P := CxOk.to (cx := cx) rfl rfl rfl rfl hx0
    have hp := hp0 l
    have hpl := hpl0 l
    have loop : ∀ ro N fl g b fr st K, runA cx ann (n + 1) tl l fl g (.loop b) fr st K = true → ann g (firstReg b) = none → CodeFit (withT cx l) ro g b → fl ≤ st.next → ∀ a w β, Inv (withT cx l) B β st w → FrRel β fr a → DefOk N w a.defers → Code.roundsIn (Fw ro) 0 P b (Post (withT cx l) B fl N β st w K) (n + 1) a w := by
      intro ro N fl g b fr st K hk hno hok hfl a w β h hf hd
      simp only [runA, hno] at hk
      rw [roundsIn_succ]
      refine wpIn_mono (ih ro N fl g b fr st _ hk hok hfl a w β h hf hd) ?_
      rintro e a' w' ⟨fr', st', β', h1, h2, h3, h4⟩
      cases e with
      | normal => exact rounds_trans h2 n _ _ (ihl ro N fl g b fr' st' K h1 hno hok (Nat.le_trans hfl h2.next) a' w' β' h2.inv h3 h4)
      | _ => exact ⟨fr', st', β', h1, h2, h3, h4⟩
    refine ⟨?_, loop⟩
    intro ro N fl g c fr st K hk hok hfl a w β h hf hd
    cases c with
    | skip => exact wpIn_skip ⟨fr, st, β, by simpa [runA] using hk, Good.refl h, hf, hd⟩
    | region id ops draw =>
      simp only [runA] at hk
      cases draw with
      | false => exact region_ok hx hp ih hk hfl h hf hd
      | true =>
        simp only [cond_true] at hk
        split at hk
        · rename_i pl hpl'
          have hpl2 : (withT cx l).plan g id = some pl := hpl'
          have hok := hok.1
          simp only [plansOk, cond_true] at hok
          rw [hpl2] at hok
          exact hpl.2 _ ih ro N fl id ops pl fr st K hok hk hfl a w β h hf hd
        · exact hpl.1 _ ih ro N fl id ops fr st K hk hfl a w β h hf hd
    | seq x y =>
      simp only [runA] at hk
      split at hk
      · have hok := hok.seq
        refine wpIn_seq (wpIn_mono (ih ro N fl g x fr st _ hk hok.1 hfl a w β h hf hd) ?_)
        rintro e a' w' ⟨fr', st', β', h1, h2, h3, h4⟩
        cases e with
        | normal =>
          simp only [nextA] at h1
          split at h1
          · exact wpIn_mono (tailA_ok (fun l => (codeA_ok (ann := ann) hx0 hp0 hpl0 n tl l).1) h1 ⟨by rw [← plansOk_congr (cx := cx) (cx' := withT cx l) rfl]; exact hok.2.1, hok.2.2⟩ h2.inv h3 h4) fun e a2 w2 => Post.trans h2
          · exact wpIn_mono (ih ro N fl g y fr' st' K h1 hok.2 (Nat.le_trans hfl h2.next) a' w' β' h2.inv h3 h4) fun e a2 w2 => Post.trans h2
        | _ => exact ⟨fr', st', β', h1, h2, h3, h4⟩
      · split at hk
        case h_2 => cases hk
        rename_i q hq
        simp only [Bool.and_eq_true] at hk
        obtain ⟨c1, c2⟩ := cover_ok (coverOne_ok hq) h hf
        have fl' : Facts (withT cx q.2.2) β.env := ⟨amongA_ok hk.1.1 h.facts.known, h.facts.fns, h.facts.defs, h.facts.base, h.facts.outer⟩
        have hok' : CodeFit (withT cx q.2.2) ro g (.seq x y) := ⟨by rw [plansOk_congr (cx := withT cx l) (cx' := withT cx q.2.2) rfl]; exact hok.1, hok.2⟩
        refine wpIn_mono ((codeA_ok (ann := ann) hx0 hp0 hpl0 n noTails q.2.2).1 ro N fl g (.seq x y) q.1 q.2.1 K hk.2 hok' (Nat.le_of_ble_eq_true hk.1.2) a w β (Inv.to (cx := withT cx l) (cx' := withT cx q.2.2) rfl rfl fl' c2.inv) c1 hd) ?_
        rintro e a' w' ⟨fr', st', β', q1, q2, q3, q4⟩
        have q2' : Good (withT cx l) B fl β q.2.1 w β' st' w' := Good.to (cx := withT cx q.2.2) (cx' := withT cx l) rfl rfl (by rw [q2.ext.env]; exact h.facts) q2
        exact ⟨fr', st', β', q1, c2.trans q2', q3, q4⟩
    | cond c x y =>
      simp only [runA] at hk
      have hok := hok.cond
      split at hk
      · rename_i hb
        simp only [Option.bind_eq_some_iff] at hb
        obtain ⟨u', ⟨u, hu, hu'⟩, hb⟩ := hb
        exact wpIn_cond_true (toBool_rel (resB_rel h.facts (ev_rel hf hu) hu') hb) (ih ro N fl g x fr st K hk hok.1 hfl a w β h hf hd)
      · rename_i hb
        simp only [Option.bind_eq_some_iff] at hb
        obtain ⟨u', ⟨u, hu, hu'⟩, hb⟩ := hb
        exact wpIn_cond_false (toBool_rel (resB_rel h.facts (ev_rel hf hu) hu') hb) (ih ro N fl g y fr st K hk hok.2 hfl a w β h hf hd)
      · cases hk
    | block id b =>
      simp only [runA] at hk
      have hok := hok.block
      refine wpIn_block (wpIn_mono (ih ro N fl g b fr st _ hk hok hfl a w β h hf hd) ?_)
      rintro e a' w' ⟨fr', st', β', h1, h2, h3, h4⟩
      cases e with
      | exit i =>
        simp only at h1
        simp only [Exit.inBlock]
        cases hi : Nat.beq i id with
        | true =>
          rw [hi] at h1
          rw [if_pos (Nat.eq_of_beq_eq_true hi)]
          exact ⟨fr', st', β', h1, h2, h3, h4⟩
        | false =>
          rw [hi] at h1
          have : i ≠ id := fun e => by subst e; rw [T.beq_true rfl] at hi; cases hi
          rw [if_neg this]
          exact ⟨fr', st', β', h1, h2, h3, h4⟩
      | _ => exact ⟨fr', st', β', h1, h2, h3, h4⟩
    | loop b =>
      cases ha : ann g (firstReg b) with
      | none => exact wpIn_loop_rounds (n + 1) (loop ro N fl g b fr st K hk ha hok.loop hfl a w β h hf hd)
      | some A =>
        simp only [runA, ha] at hk
        exact wpIn_loop_rounds A.n (loopA_ok (fun l => (codeA_ok (ann := ann) hx0 hp0 hpl0 n tl l).1) hk ⟨by rw [← plansOk_congr (cx := cx) (cx' := withT cx l) rfl]; exact hok.loop.1, hok.2⟩ h hf hd)
    | exit id => exact wpIn_exit ⟨fr, st, β, by simpa [runA] using hk, Good.refl h, hf, hd⟩
    | ret => exact wpIn_ret ⟨fr, st, β, by simpa [runA] using hk, Good.refl h, hf, hd⟩
    | label l => exact wpIn_label ⟨fr, st, β, by simpa [runA] using hk, Good.refl h, hf, hd⟩
    | scope b =>
      simp only [runA] at hk
      refine wpIn_scope (wpIn_mono (ih ro N fl g b fr st _ hk hok.scope hfl a w β h hf hd) ?_)
      rintro e a' w' ⟨fr', st', β', h1, h2, h3, h4⟩
      cases e with
      | goto l => cases h1
      | _ => exact ⟨fr', st', β', h1, h2, h3, h4⟩
    | _ => simp [runA] at hk

/-- A call with symbols, its loops by their heads: whatever the symbols stand for, one of the roads is the call's. -/
theorem symCallA {n m : Nat} (hm : P.follows .mixedOrders = true) (hx : CxOk cx P) (hp : PrimsOk cx P B) (h0 : cx.known = []) {ann : Ann} {tl : Tails} {q : Asg → Option Tst} {l : Asg} {f : FuncId} {args : List V} {args' : Array Value} {K : Asg → V → St → Bool}
    (hk : paths m l q (fun l => callF (withT cx l) (runA cx ann n tl l) fl f args st (K l)) = true) (hl : AsgOk β.env l) (hfl : fl ≤ st.next) (h : Inv cx B β st w) (ha : All2 (VRel β) args args'.toList) :
    ∃ l', AsgOk β.env l' ∧ CallRet P f args' w fun v' w' => ∃ v st' β', K l' v st' = true ∧ VRel β' v v' ∧ Good cx B fl β st w β' st' w' := by
  obtain ⟨l', h1, h2⟩ := paths_ok hk hl
  refine ⟨l', h1, ?_⟩
  have hxl := fun l => (CxOk.to (cx := cx) (cx' := withT cx l) rfl rfl rfl rfl hx)
  refine (callF_ok (hxl l') (hp.withT h0 l') (codeA_ok (ann := ann) hx (fun l => hp.withT h0 l) (fun l => plan_ok hm (hxl l) (hp.withT h0 l)) n tl l').1 h2 hfl (Inv.to (cx := cx) (cx' := withT cx l') rfl rfl (facts_with h.facts h1) h) ha).mono ?_
  rintro v' w' ⟨v, st', β', g1, g2, g3⟩
  exact ⟨v, st', β', g1, g2, Good.to (cx := withT cx l') (cx' := cx) rfl rfl (facts_none h0 g3.inv.facts) g3⟩
end Go.Am
