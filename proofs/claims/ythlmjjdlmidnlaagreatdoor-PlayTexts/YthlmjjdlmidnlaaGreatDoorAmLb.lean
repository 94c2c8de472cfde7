/- The abstract machine, laid out so that the kernel runs it fast: loops by their heads, tails. -/
import Derived.Test.YthlmjjdlmidnlaaGreatDoorAmSf
import Derived.Test.YthlmjjdlmidnlaaGreatDoorAmFb
namespace Go.Am
open Go

abbrev RecT := Tails → Asg → RunT
abbrev RowT := Cx → Ann → Nat → RecT → Tails → Asg → Nat → FuncId → Fr → St → ExK → Bool

noncomputable def seqN (cx : Cx) (ann : Ann) (n : Nat) (l : Asg) (R : Asg → RunT) (fl : Nat) (g : FuncId) (b : Code) (K : ExK) (e : Exit) : Fr → St → Bool :=
  @Exit.rec (fun _ => Fr → St → Bool) (fun fr st => nextA cx ann n l R fl g b fr st K) (fun i => K (.exit i)) (fun l => K (.goto l)) (K .ret) (fun p => K (.panic p)) (K .outgrown) e
theorem seqN_eq (cx : Cx) (ann : Ann) (n : Nat) (l : Asg) (R : Asg → RunT) (fl : Nat) (g : FuncId) (b : Code) (K : ExK) : seqN cx ann n l R fl g b K = fun e fr st => match e with
    | .normal => nextA cx ann n l R fl g b fr st K
    | e => K e fr st := by
  funext e fr st; cases e <;> rfl
noncomputable def rwSeq (a b : Code) : RowT := fun cx ann n R tl l fl g fr st K =>
  @List.rec (Fr × St × Asg) (fun _ => Bool) (R tl l fl g a fr st (seqN cx ann n l (R tl) fl g b K))
    (fun p ps _ => match coverOne (withT cx l) fl fr st (p :: ps) with
      | some q => amongA q.2.2 l && Nat.ble fl q.2.1.next && R noTails q.2.2 fl g (.seq a b) q.1 q.2.1 K
      | none => false) (tl g (firstReg a))
noncomputable def rwLoop (b : Code) : RowT := fun cx ann n R tl l fl g fr st K =>
  @Option.rec Heads (fun _ => Bool) (R tl l fl g b fr st (seqK (R tl l) fl g (.loop b) K)) (fun A => loopA cx ann n l (R tl) A fl g b fr st K) (ann g (firstReg b))

noncomputable def codeL (c : Code) : RowT :=
  @Code.rec (fun _ => RowT) (fun cx _ _ R tl l fl g fr st K => cdSkip (withT cx l) (R tl l) fl g fr st K)
    (fun id ops draw cx _ _ R tl l fl g fr st K => cdRegion id ops draw (withT cx l) (R tl l) fl g fr st K)
    (fun a b _ _ => rwSeq a b)
    (fun c a b _ _ cx _ _ R tl l fl g fr st K => cdCond c a b (withT cx l) (R tl l) fl g fr st K)
    (fun id b _ cx _ _ R tl l fl g fr st K => cdBlock id b (withT cx l) (R tl l) fl g fr st K)
    (fun b _ => rwLoop b)
    (fun _ _ _ _ _ _ _ _ _ _ _ _ _ _ _ _ _ => false) (fun id _ _ _ _ _ _ _ _ fr st K => K (.exit id) fr st) (fun b _ _ _ _ R tl l fl g fr st K => R tl l fl g b fr st (noGoto K)) (fun _ _ _ _ _ _ _ _ _ fr st K => K .normal fr st) (fun _ _ _ _ _ _ _ _ _ _ _ _ => false)
    (fun _ _ _ _ _ _ _ _ fr st K => K .ret fr st) (fun _ _ _ _ _ _ _ _ _ _ _ _ => false) c

noncomputable def runL (cx : Cx) (ann : Ann) (n : Nat) : RecT :=
  @Nat.rec (fun _ => RecT) (fun _ _ _ _ _ _ _ _ => false) (fun m R tl l fl g c fr st K => codeL c cx ann m R tl l fl g fr st K) n

theorem runL_eq (cx : Cx) (ann : Ann) : ∀ (n : Nat) (tl : Tails) (l : Asg), runL cx ann n tl l = runA cx ann n tl l
  | 0, _, _ => rfl
  | n + 1, tl, l => by
    have ih : runL cx ann n = runA cx ann n := funext fun tl => funext fun l => runL_eq cx ann n tl l
    funext fl g c fr st K
    show codeL c cx ann n (runL cx ann n) tl l fl g fr st K = _
    rw [ih]
    cases c with
    | skip => rfl
    | region id ops draw =>
      show cdRegion id ops draw (withT cx l) (runA cx ann n tl l) fl g fr st K = _
      cases draw with
      | false => show opsG (withT cx l) _ fl ops.toList ops.toList fr st (K .normal) = _; simp only [runA, opsG_eq]; rfl
      | true =>
        show @Option.rec (List Step) (fun _ => Bool) _ _ ((withT cx l).plan g id) = _
        simp only [runA, cond_true]
        have hp : (withT cx l).plan g id = cx.plan g id := rfl
        rw [hp]
        cases cx.plan g id with
        | none => rfl
        | some pl => simp only [planG_eq]
    | seq a b =>
      show rwSeq a b cx ann n (runA cx ann n) tl l fl g fr st K = _
      simp only [rwSeq, runA, seqN_eq]
      cases tl g (firstReg a) with
      | nil => rfl
      | cons p ps => rfl
    | cond c a b =>
      show (andThen (evF c fr) fun v => andThen (resB (withT cx l) v) fun v => andThen (toBool v) fun t => cdIf t a b (withT cx l) (runA cx ann n tl l) fl g fr st K) = _
      simp only [runA, evF_eq, andThen_eq]
      cases ev fr c with
      | none => rfl
      | some v =>
        simp only [Option.bind_some]
        cases resB (withT cx l) v with
        | none => rfl
        | some v =>
          simp only [Option.bind_some]
          cases toBool v with
          | none => rfl
          | some t => cases t <;> rfl
    | block id b =>
      show cdBlock id b (withT cx l) (runA cx ann n tl l) fl g fr st K = _
      simp only [cdBlock, runA, blockK_eq]; rfl
    | loop b =>
      show rwLoop b cx ann n (runA cx ann n) tl l fl g fr st K = _
      simp only [rwLoop, runA, seqK_eq]
      cases ann g (firstReg b) with
      | none => rfl
      | some A => rfl
    | _ => rfl

theorem fastL (cx : Cx) (ann : Ann) (n : Nat) (tl : Tails) (l : Asg) (fl : Nat) (f : FuncId) (args : List V) (st : St) (K : V → St → Bool) : callG (withT cx l) (runL cx ann n tl l) fl f args st K = callF (withT cx l) (runA cx ann n tl l) fl f args st K := by rw [runL_eq, callG_eq]
end Go.Am
