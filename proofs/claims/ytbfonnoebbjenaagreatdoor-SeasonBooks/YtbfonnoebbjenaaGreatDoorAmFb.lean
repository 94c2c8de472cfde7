/- The abstract machine, laid out so that the kernel runs it fast: regions, plans, code, calls. -/
import Derived.Test.YtbfonnoebbjenaaGreatDoorAmFa
namespace Go.Am
open Go

noncomputable def putF (d : Option Tmp) : Fr → V → Option Fr :=
  @Option.rec Tmp (fun _ => Fr → V → Option Fr) (fun fr _ => some fr) (fun d fr v => (@Bool.rec (fun _ => Option Fr) (none) (some ⟨fr.n, fr.t.setF d (some v)⟩) (Nat.blt d fr.n))) d

theorem putF_eq (d : Option Tmp) (fr : Fr) (v : V) : putF d fr v = fr.put d v := by
  cases d with
  | none => rfl
  | some d =>
    show (@Bool.rec (fun _ => Option Fr) (none) (some (⟨fr.n, fr.t.setF d (some v)⟩ : Fr)) (Nat.blt d fr.n)) = (bif Nat.blt d fr.n then some ⟨fr.n, fr.t.set d (some v)⟩ else none)
    rw [T.setF_eq]; cases Nat.blt d fr.n <;> rfl

/-- The guard's answer at the value that its place holds. -/
def guardV (want : Bool) : V → Option Bool
  | .a (.c (.sc (.bool b))) => some (b == want)
  | .a (.c (.sc (.tuple _))) => some false
  | _ => none

noncomputable def atO {α γ : Type} (o : Option α) (f : α → Option γ) : Option γ := @Option.rec α (fun _ => Option γ) none f o

noncomputable def guardF (ops : List Oper) (fr : Fr) (p : Nat × Bool) : Option Bool :=
  @Prod.rec Nat Bool (fun _ => Option Bool) (fun j want => atO (nthF ops j) fun oj => atO oj.dst fun d => atO (fr.t.getF d) (guardV want)) p

noncomputable def wantedF (g : Option (Nat × Bool)) : List Oper → Fr → Option Bool :=
  @Option.rec (Nat × Bool) (fun _ => List Oper → Fr → Option Bool) (fun _ _ => some true) (fun p ops fr => guardF ops fr p) g

theorem wantedF_eq (ops : List Oper) (o : Oper) (fr : Fr) : wantedF o.guard ops fr = wantedA ops o fr := by
  unfold wantedA
  cases o.guard with
  | none => rfl
  | some p =>
    obtain ⟨j, want⟩ := p
    show (atO (nthF ops j) fun oj => atO oj.dst fun d => atO (fr.t.getF d) (guardV want)) = _
    simp only [nthF_eq]
    cases ops[j]? with
    | none => rfl
    | some oj =>
      show (atO oj.dst fun d => atO (fr.t.getF d) (guardV want)) = _
      simp only
      cases oj.dst with
      | none => rfl
      | some d =>
        show atO (fr.t.getF d) (guardV want) = _
        simp only [T.getF_eq]
        show atO (fr.get d) (guardV want) = _
        cases fr.get d with
        | none => rfl
        | some v =>
          show guardV want v = _
          unfold guardV
          split
          · rfl
          · rfl
          · rename_i h1 h2
            split
            · rename_i b hb; exact absurd (Option.some.inj hb) (h1 b)
            · rename_i b hb; exact absurd (Option.some.inj hb) (h2 b)
            · rfl

noncomputable def resultsOfF (cx : Cx) (fr : Fr) (st : St) : List ResultVar → Option (List V)
  | [] => some []
  | .tmp t :: rs => match fr.t.getF t, resultsOfF cx fr st rs with
    | some v, some l => some (v :: l)
    | _, _ => none
  | .cell a t :: rs => match (fr.t.getF a).bind toC, cx.ty t, resultsOfF cx fr st rs with
    | some p, some ty, some l => match (loadF cx st p (bif isAggT ty.under then ty.size else 1)).bind (pack ty) with
      | some v => some (v :: l)
      | none => none
    | _, _, _ => none

theorem resultsOfF_eq (cx : Cx) (fr : Fr) (st : St) : ∀ l, resultsOfF cx fr st l = resultsOf cx fr st l
  | [] => rfl
  | .tmp t :: rs => by simp only [resultsOfF, resultsOf, T.getF_eq, resultsOfF_eq cx fr st rs]; rfl
  | .cell a t :: rs => by simp only [resultsOfF, resultsOf, T.getF_eq, loadF_eq, resultsOfF_eq cx fr st rs]; rfl

noncomputable def resultF (cx : Cx) (F : Func) (fr : Fr) (st : St) : Option V :=
  match resultsOfF cx fr st F.results.toList with
  | some [v] => some v
  | some l => (toAs l).map .tup
  | none => none

theorem resultF_eq (cx : Cx) (F : Func) (fr : Fr) (st : St) : resultF cx F fr st = result cx F fr st := by
  unfold resultF result; rw [resultsOfF_eq]; rfl

noncomputable def andThen {α : Type} (o : Option α) (k : α → Bool) : Bool := @Option.rec α (fun _ => Bool) false k o

theorem andThen_eq {α : Type} (o : Option α) (k : α → Bool) : andThen o k = match o with | some x => k x | none => false := by cases o <;> rfl

/-- What is done at a call's end. -/
noncomputable def endK (e : Exit) : Cx → Func → (V → St → Bool) → Fr → St → Bool :=
  @Exit.rec (fun _ => Cx → Func → (V → St → Bool) → Fr → St → Bool) (fun cx F K fr st => andThen (resultF cx F fr st) fun v => K v st) (fun _ _ _ _ _ _ => false) (fun _ _ _ _ _ _ => false)
    (fun cx F K fr st => andThen (resultF cx F fr st) fun v => K v st) (fun _ _ _ _ _ _ => false) (fun _ _ _ _ _ => false) e

noncomputable def mkArgsF (l : List V) : Nat → T V → T V :=
  @List.rec V (fun _ => Nat → T V → T V) (fun _ t => t) (fun v _ ih i t => ih (i + 1) (t.setF i (some v))) l

theorem mkArgsF_eq : ∀ (l : List V) (i : Nat) (t : T V), mkArgsF l i t = mkArgs l i t
  | [], _, _ => rfl
  | v :: vs, i, t => by
    show mkArgsF vs (i + 1) (t.setF i (some v)) = _
    rw [T.setF_eq, mkArgsF_eq vs]; rfl

noncomputable def callB (F : Func) (c : Code) (cx : Cx) (R : RunT) (fl : Nat) (f : FuncId) (args : List V) (st : St) (K : V → St → Bool) : Bool :=
  (@Bool.rec (fun _ => Bool) (false) (R fl f c ⟨F.ntmps, mkArgsF args 0 .nil⟩ st (fun e => endK e cx F K)) (Nat.ble (lenF args) F.ntmps))
noncomputable def callN (cx : Cx) (R : RunT) (fl : Nat) (f : FuncId) (args : List V) (st : St) (K : V → St → Bool) : Bool :=
  andThen (cx.fn f) fun F => andThen F.body fun c => callB F c cx R fl f args st K
noncomputable def callG (cx : Cx) (R : RunT) (fl : Nat) (f : FuncId) (args : List V) (st : St) (K : V → St → Bool) : Bool :=
  @Option.rec (Nat → List V → St → Option (V × St)) (fun _ => Bool) (callN cx R fl f args st K) (fun p => andThen (p fl args st) fun r => K r.1 r.2) (cx.prim f)

theorem endK_eq (cx : Cx) (F : Func) (K : V → St → Bool) : (fun e => endK e cx F K) = fun e fr st => match e with
      | .normal => (match result cx F fr st with | some v => K v st | none => false)
      | .ret => (match result cx F fr st with | some v => K v st | none => false)
      | _ => false := by
  funext e fr st
  cases e with
  | normal => show andThen (resultF cx F fr st) (fun v => K v st) = _; rw [andThen_eq, resultF_eq]; cases result cx F fr st <;> rfl
  | ret => show andThen (resultF cx F fr st) (fun v => K v st) = _; rw [andThen_eq, resultF_eq]; cases result cx F fr st <;> rfl
  | _ => rfl

theorem callG_eq (cx : Cx) (R : RunT) (fl : Nat) (f : FuncId) (args : List V) (st : St) (K : V → St → Bool) : callG cx R fl f args st K = callF cx R fl f args st K := by
  unfold callF callG
  cases cx.prim f with
  | some p =>
    show andThen (p fl args st) (fun r => K r.1 r.2) = _
    rw [andThen_eq]
    simp only
    cases p fl args st with
    | none => rfl
    | some r => rfl
  | none =>
    show callN cx R fl f args st K = _
    unfold callN
    rw [andThen_eq]
    simp only
    cases cx.fn f with
    | none => rfl
    | some F =>
      simp only [andThen_eq]
      cases F.body with
      | none => rfl
      | some c =>
        simp only [callB, lenF_eq, endK_eq, mkArgsF_eq]
        cases Nat.ble args.length F.ntmps <;> rfl

noncomputable def putG (d : Option Tmp) (fr : Fr) (v : V) (K : Fr → Bool) : Bool := andThen (putF d fr v) K

theorem putG_eq (fr : Fr) (d : Option Tmp) (v : V) (K : Fr → Bool) : putG d fr v K = putK fr d v K := by
  unfold putG putK; rw [putF_eq, andThen_eq]; cases fr.put d v <;> rfl

/-- What is done with an operation's answer. -/
noncomputable def resG (r : R) : Cx → RunT → Nat → Option Tmp → Fr → (Fr → St → Bool) → Bool :=
  @R.rec (fun _ => Cx → RunT → Nat → Option Tmp → Fr → (Fr → St → Bool) → Bool)
    (fun v st _ _ _ d fr K => putG d fr v fun fr => K fr st)
    (fun st _ _ _ d fr K => putG d fr undefV fun fr => K fr st)
    (fun _ _ _ _ _ _ _ _ => false)
    (fun l _ _ _ d fr K => allK (fun v st => putG d fr v fun fr => K fr st) l)
    (fun _ _ _ _ _ _ => false) r

noncomputable def goneG : List Oper → Oper → Cx → RunT → Nat → Fr → St → (Fr → St → Bool) → Bool := fun _ o _ _ _ fr st K => putG o.dst fr undefV fun fr => K fr st
noncomputable def callOr (r : R) : Cx → RunT → Nat → Option Tmp → Fr → St → (Fr → St → Bool) → Bool :=
  @R.rec (fun _ => Cx → RunT → Nat → Option Tmp → Fr → St → (Fr → St → Bool) → Bool)
    (fun v st _ _ _ d fr _ K => putG d fr v fun fr => K fr st)
    (fun st _ _ _ d fr _ K => putG d fr undefV fun fr => K fr st)
    (fun f args cx R fl d fr st K => callG cx R fl f args st fun v st => putG d fr v fun fr => K fr st)
    (fun l _ _ _ d fr _ K => allK (fun v st => putG d fr v fun fr => K fr st) l)
    (fun _ _ _ _ _ _ _ => false) r
noncomputable def doneG : List Oper → Oper → Cx → RunT → Nat → Fr → St → (Fr → St → Bool) → Bool := fun _ o cx R fl fr st K => callOr (stepF o.op cx fl fr st o.type) cx R fl o.dst fr st K

noncomputable def wantG (w : Option Bool) : List Oper → Oper → Cx → RunT → Nat → Fr → St → (Fr → St → Bool) → Bool :=
  @Option.rec Bool (fun _ => List Oper → Oper → Cx → RunT → Nat → Fr → St → (Fr → St → Bool) → Bool) (fun _ _ _ _ _ _ _ _ => false)
    (fun b => @Bool.rec (fun _ => List Oper → Oper → Cx → RunT → Nat → Fr → St → (Fr → St → Bool) → Bool) goneG doneG b) w

noncomputable def opG (cx : Cx) (R : RunT) (fl : Nat) (all : List Oper) (o : Oper) (fr : Fr) (st : St) (K : Fr → St → Bool) : Bool :=
  wantG (wantedF o.guard all fr) all o cx R fl fr st K

theorem opG_eq (cx : Cx) (R : RunT) (fl : Nat) (all : List Oper) (o : Oper) (fr : Fr) (st : St) (K : Fr → St → Bool) : opG cx R fl all o fr st K = runOp cx R fl all o fr st K := by
  unfold opG runOp
  rw [wantedF_eq]
  cases wantedA all o fr with
  | none => rfl
  | some b =>
    cases b with
    | false => show putG o.dst fr undefV (fun fr => K fr st) = _; rw [putG_eq]
    | true =>
      show callOr (stepF o.op cx fl fr st o.type) cx R fl o.dst fr st K = _
      rw [stepF_eq]
      simp only
      cases stepOp cx fl fr st o.op o.type with
      | val v st' => show putG o.dst fr v _ = _; rw [putG_eq]
      | skip st' => show putG o.dst fr undefV _ = _; rw [putG_eq]
      | call f args => show callG cx R fl f args st _ = _; rw [callG_eq]; simp only [putG_eq]
      | any l => show allK _ l = _; simp only [putG_eq]
      | fail => rfl

noncomputable def opsG (cx : Cx) (R : RunT) (fl : Nat) (all : List Oper) (l : List Oper) : Fr → St → (Fr → St → Bool) → Bool :=
  @List.rec Oper (fun _ => Fr → St → (Fr → St → Bool) → Bool) (fun fr st K => K fr st) (fun o _ ih fr st K => opG cx R fl all o fr st fun fr st => ih fr st K) l

theorem opsG_eq (cx : Cx) (R : RunT) (fl : Nat) (all : List Oper) : ∀ (l : List Oper) (fr : Fr) (st : St) (K : Fr → St → Bool), opsG cx R fl all l fr st K = runOps cx R fl all l fr st K
  | [], _, _, _ => rfl
  | o :: l, fr, st, K => by
    show opG cx R fl all o fr st (fun fr st => opsG cx R fl all l fr st K) = _
    simp only [opG_eq, opsG_eq cx R fl all l]
    rfl

noncomputable def valR (r : R) : Option V := @R.rec (fun _ => Option V) (fun v _ => some v) (fun _ => none) (fun _ _ => none) (fun _ => none) none r

noncomputable def pureW (w : Option Bool) : Cx → Oper → Fr → T O → Option V :=
  @Option.rec Bool (fun _ => Cx → Oper → Fr → T O → Option V) (fun _ _ _ _ => none)
    (fun b => @Bool.rec (fun _ => Cx → Oper → Fr → T O → Option V) (fun _ _ _ _ => some undefV) (fun cx o fr h => (@Bool.rec (fun _ => Option V) (none) (valR (stepF o.op cx 0 fr ⟨h, 0⟩ o.type)) (pureKind o.op))) b) w

noncomputable def pureG (cx : Cx) (all : List Oper) (o : Oper) (fr : Fr) (h : T O) : Option V := pureW (wantedF o.guard all fr) cx o fr h

theorem pureG_eq (cx : Cx) (all : List Oper) (o : Oper) (fr : Fr) (h : T O) : pureG cx all o fr h = pureOp cx all o fr h := by
  unfold pureG pureOp
  rw [wantedF_eq]
  cases wantedA all o fr with
  | none => rfl
  | some b =>
    cases b with
    | false => rfl
    | true =>
      show (@Bool.rec (fun _ => Option V) (none) (valR (stepF o.op cx 0 fr ⟨h, 0⟩ o.type)) (pureKind o.op)) = _
      rw [stepF_eq]
      simp only
      cases pureKind o.op
      · rfl
      · simp only [cond_true]
        cases stepOp cx 0 fr ⟨h, 0⟩ o.op o.type <;> rfl

noncomputable def evBelowF (n : Nat) (fr : Fr) (x : Operand) : Bool :=
  match evF x fr with
  | some v => vBelow n v
  | none => true
theorem evBelowF_eq (n : Nat) (fr : Fr) : evBelowF n fr = evBelow n fr := by
  funext x; unfold evBelowF evBelow; rw [evF_eq]; rfl

noncomputable def newG (cx : Cx) (all : List Oper) (o : Oper) (fr : Fr) (n : Nat) : Option (V × O) :=
  match wantedF o.guard all fr with
  | some true => bif allF (evBelowF n fr) o.op.operands.toList then
      (match stepF o.op cx n fr ⟨.nil, n⟩ o.type with
      | .val v st' => bif Nat.beq st'.next (n + 1) then (st'.heap.getF n).map fun ob => (v, ob) else none
      | _ => none) else none
  | _ => none

theorem newG_eq (cx : Cx) (all : List Oper) (o : Oper) (fr : Fr) (n : Nat) : newG cx all o fr n = newOp cx all o fr n := by
  unfold newG newOp
  simp only [wantedF_eq, stepF_eq, T.getF_eq, allF_eq, evBelowF_eq]
  rfl

/-- One step of a plan; 'go' is the rest of it. -/
abbrev GoT := List (Nat × Nat × O) → Fr → St → (Fr → St → Bool) → Bool

noncomputable def stepP (i : Nat) (cx : Cx) (_R : RunT) (_fl : Nat) (ops : List Oper) (go : GoT) (pend : List (Nat × Nat × O)) (fr : Fr) (st : St) (K : Fr → St → Bool) : Bool :=
  andThen (nthF ops i) fun o => andThen (pureG cx ops o fr .nil) fun v => putG o.dst fr v fun fr => go pend fr st K
noncomputable def stepR (i : Nat) (as : List Nat) (cx : Cx) (_R : RunT) (_fl : Nat) (ops : List Oper) (go : GoT) (pend : List (Nat × Nat × O)) (fr : Fr) (st : St) (K : Fr → St → Bool) : Bool :=
  andThen (nthF ops i) fun o => andThen (pureG cx ops o fr (insertAs pend as st).heap) fun v => putG o.dst fr v fun fr => go pend fr st K
noncomputable def stepA (i : Nat) (cx : Cx) (_R : RunT) (_fl : Nat) (ops : List Oper) (go : GoT) (pend : List (Nat × Nat × O)) (fr : Fr) (st : St) (K : Fr → St → Bool) : Bool :=
  match nthF ops i with
  | some o => (match newG cx ops o fr st.next with
    | some (v, ob) => putG o.dst fr v fun fr => go (pend ++ [(i, st.next, ob)]) fr ⟨st.heap, st.next + 1⟩ K
    | none => (match pureG cx ops o fr .nil with
      | some v => putG o.dst fr v fun fr => go pend fr st K
      | none => false))
  | none => false
noncomputable def stepQ (i : Nat) (as : List Nat) (cx : Cx) (R : RunT) (_fl : Nat) (ops : List Oper) (go : GoT) (pend : List (Nat × Nat × O)) (fr : Fr) (st : St) (K : Fr → St → Bool) : Bool :=
  andThen (nthF ops i) fun o => opG cx R st.next ops o fr (insertAs pend as st) fun fr st' => go pend fr st' K
noncomputable def stepW (i : Nat) (cx : Cx) (R : RunT) (fl : Nat) (ops : List Oper) (go : GoT) (pend : List (Nat × Nat × O)) (fr : Fr) (st : St) (K : Fr → St → Bool) : Bool :=
  andThen (nthF ops i) fun o => opG cx R fl ops o fr (insertAll pend st) fun fr st' => go [] fr st' K

noncomputable def stepG (s : Step) : Cx → RunT → Nat → List Oper → GoT → GoT :=
  @Step.rec (fun _ => Cx → RunT → Nat → List Oper → GoT → GoT) stepP stepR stepA stepQ stepW s

noncomputable def planG (cx : Cx) (R : RunT) (fl : Nat) (ops : List Oper) (l : List Step) : GoT :=
  @List.rec Step (fun _ => GoT) (fun pend fr st K => K fr (insertAll pend st)) (fun s _ ih => stepG s cx R fl ops ih) l

theorem planG_eq (cx : Cx) (R : RunT) (fl : Nat) (ops : List Oper) : ∀ (l : List Step) (pend : List (Nat × Nat × O)) (fr : Fr) (st : St) (K : Fr → St → Bool), planG cx R fl ops l pend fr st K = runPlan cx R fl ops l pend fr st K
  | [], _, _, _, _ => rfl
  | s :: l, pend, fr, st, K => by
    have ih := planG_eq cx R fl ops l
    show stepG s cx R fl ops (planG cx R fl ops l) pend fr st K = _
    cases s with
    | p i =>
      show stepP i cx R fl ops _ pend fr st K = _
      simp only [stepP, runPlan, nthF_eq, pureG_eq, putG_eq, ih]
      cases ops[i]? with
      | none => rfl
      | some o => show andThen (pureOp cx ops o fr .nil) _ = _; simp only; cases pureOp cx ops o fr .nil <;> rfl
    | r i as =>
      show stepR i as cx R fl ops _ pend fr st K = _
      simp only [stepR, runPlan, nthF_eq, pureG_eq, putG_eq, ih]
      cases ops[i]? with
      | none => rfl
      | some o => show andThen (pureOp cx ops o fr (insertAs pend as st).heap) _ = _; simp only; cases pureOp cx ops o fr (insertAs pend as st).heap <;> rfl
    | a i => show stepA i cx R fl ops _ pend fr st K = _; simp only [stepA, runPlan, nthF_eq, pureG_eq, newG_eq, putG_eq, ih]; rfl
    | q i as =>
      show stepQ i as cx R fl ops _ pend fr st K = _
      simp only [stepQ, runPlan, nthF_eq, opG_eq, ih]
      cases ops[i]? <;> rfl
    | w i =>
      show stepW i cx R fl ops _ pend fr st K = _
      simp only [stepW, runPlan, nthF_eq, opG_eq, ih]
      cases ops[i]? <;> rfl

/-! ### code -/
abbrev ExK := Exit → Fr → St → Bool
noncomputable def seqK (R : RunT) (fl : Nat) (g : FuncId) (b : Code) (K : ExK) (e : Exit) : Fr → St → Bool :=
  @Exit.rec (fun _ => Fr → St → Bool) (fun fr st => R fl g b fr st K) (fun i => K (.exit i)) (fun l => K (.goto l)) (K .ret) (fun p => K (.panic p)) (K .outgrown) e

theorem seqK_eq (R : RunT) (fl : Nat) (g : FuncId) (b : Code) (K : ExK) : seqK R fl g b K = fun e fr st => match e with
    | .normal => R fl g b fr st K
    | e => K e fr st := by
  funext e fr st; cases e <;> rfl

noncomputable def blockK (id : Nat) (K : ExK) (e : Exit) : Fr → St → Bool :=
  @Exit.rec (fun _ => Fr → St → Bool) (K .normal) (fun i fr st => (@Bool.rec (fun _ => Bool) (K (.exit i) fr st) (K .normal fr st) (Nat.beq i id))) (fun l => K (.goto l)) (K .ret) (fun p => K (.panic p)) (K .outgrown) e

theorem blockK_eq (id : Nat) (K : ExK) : blockK id K = fun e fr st => match e with
    | .exit i => bif Nat.beq i id then K .normal fr st else K (.exit i) fr st
    | e => K e fr st := by
  funext e fr st
  cases e with
  | exit i => show (@Bool.rec (fun _ => Bool) (K (.exit i) fr st) (K .normal fr st) (Nat.beq i id)) = (bif Nat.beq i id then K .normal fr st else K (.exit i) fr st); cases Nat.beq i id <;> rfl
  | _ => rfl

abbrev CodeT := Cx → RunT → Nat → FuncId → Fr → St → ExK → Bool

def cdSkip : CodeT := fun _ _ _ _ fr st K => K .normal fr st
noncomputable def cdPlan (ops : Array Oper) (id : Nat) : CodeT := fun cx R fl g fr st K => andThen (cx.plan g id) fun pl => planG cx R fl ops.toList pl [] fr st (K .normal)
noncomputable def cdOps (ops : Array Oper) : CodeT := fun cx R fl _ fr st K => opsG cx R fl ops.toList ops.toList fr st (K .normal)
noncomputable def cdRegion (id : Nat) (ops : Array Oper) (draw : Bool) : CodeT := @Bool.rec (fun _ => CodeT) (cdOps ops) (cdPlan ops id) draw
noncomputable def cdSeq (a b : Code) : CodeT := fun _ R fl g fr st K => R fl g a fr st (seqK R fl g b K)
def boolV : V → Option Bool
  | .a (.c (.sc (.bool b))) => some b
  | _ => none
noncomputable def cdIf (b : Bool) (x y : Code) : CodeT := @Bool.rec (fun _ => CodeT) (fun _ R fl g fr st K => R fl g y fr st K) (fun _ R fl g fr st K => R fl g x fr st K) b
noncomputable def cdCond (c : Operand) (a b : Code) : CodeT := fun cx R fl g fr st K => andThen (evF c fr) fun v => andThen (resB cx v) fun v => andThen (toBool v) fun t => cdIf t a b cx R fl g fr st K
noncomputable def cdBlock (id : Nat) (b : Code) : CodeT := fun _ R fl g fr st K => R fl g b fr st (blockK id K)
noncomputable def cdLoop (b : Code) : CodeT := fun _ R fl g fr st K => R fl g b fr st (seqK R fl g (.loop b) K)
def cdExit (id : Nat) : CodeT := fun _ _ _ _ fr st K => K (.exit id) fr st
def cdRet : CodeT := fun _ _ _ _ fr st K => K .ret fr st
def cdFail : CodeT := fun _ _ _ _ _ _ _ => false

noncomputable def codeG (c : Code) : CodeT :=
  @Code.rec (fun _ => CodeT) cdSkip cdRegion (fun a b _ _ => cdSeq a b) (fun c a b _ _ => cdCond c a b) (fun id b _ => cdBlock id b) (fun b _ => cdLoop b)
    (fun _ _ _ _ _ _ => cdFail) cdExit (fun _ _ => cdFail) (fun _ => cdFail) (fun _ => cdFail) cdRet (fun _ => cdFail) c

noncomputable def runG (cx : Cx) (n : Nat) : RunT :=
  @Nat.rec (fun _ => RunT) (fun _ _ _ _ _ _ => false) (fun _ R fl g c fr st K => codeG c cx R fl g fr st K) n

/-- Code by one evaluator, given that its parts run by another's. -/
theorem code_eq (cx : Cx) (R : RunT) (f : RunT) (hf : ∀ fl g c fr st K, f fl g c fr st K = codeG c cx R fl g fr st K) (n : Nat) (hR : R = run cx n) : f = run cx (n + 1) := by
  funext fl g c fr st K
  rw [hf, hR]
  cases c with
  | skip => rfl
  | region id ops draw =>
    cases draw with
    | false => show opsG cx _ fl ops.toList ops.toList fr st (K .normal) = _; simp only [run, opsG_eq]; rfl
    | true =>
      show andThen (cx.plan g id) _ = _
      rw [andThen_eq]
      simp only [run, cond_true]
      cases cx.plan g id with
      | none => rfl
      | some pl => simp only [planG_eq]
  | seq a b =>
    show cdSeq a b cx (run cx n) fl g fr st K = _
    simp only [cdSeq, run, seqK_eq]; rfl
  | cond c a b =>
    show (andThen (evF c fr) fun v => andThen (resB cx v) fun v => andThen (toBool v) fun t => cdIf t a b cx (run cx n) fl g fr st K) = _
    simp only [run, evF_eq, andThen_eq]
    cases ev fr c with
    | none => rfl
    | some v =>
      simp only [Option.bind_some]
      cases resB cx v with
      | none => rfl
      | some v =>
        simp only [Option.bind_some]
        cases toBool v with
        | none => rfl
        | some t => cases t <;> rfl
  | block id b =>
    show cdBlock id b cx (run cx n) fl g fr st K = _
    simp only [cdBlock, run, blockK_eq]; rfl
  | loop b =>
    show cdLoop b cx (run cx n) fl g fr st K = _
    simp only [cdLoop, run, seqK_eq]; rfl
  | _ => rfl

theorem runG_eq (cx : Cx) : ∀ n, runG cx n = run cx n
  | 0 => rfl
  | n + 1 => code_eq cx (runG cx n) (runG cx (n + 1)) (fun _ _ _ _ _ _ => rfl) n (runG_eq cx n)

theorem fast (cx : Cx) (n fl : Nat) (f : FuncId) (args : List V) (st : St) (K : V → St → Bool) : callG cx (runG cx n) fl f args st K = callF cx (run cx n) fl f args st K := by rw [runG_eq, callG_eq]
end Go.Am
