/- The abstract machine, laid out so that the kernel runs it fast: one road tried first, the others held against it. -/
import Derived.Test.YtbfonnoebbjenaaGreatDoorAmFb
namespace Go.Am
open Go

/-! ### one road (no proof is needed of it) -/
abbrev OD := Option (Fr × St)
noncomputable def bindO {α β : Type} (o : Option α) (f : α → Option β) : Option β := @Option.rec α (fun _ => Option β) none f o

noncomputable def callDF (cx : Cx) (R : RunDT) (fl : Nat) (f : FuncId) (args : List V) (st : St) : Option (V × St) :=
  match cx.prim f with
  | some p => p fl args st
  | none => bindO (cx.fn f) fun F => bindO F.body fun c => bindO (R fl f c ⟨F.ntmps, mkArgsF args 0 .nil⟩ st) fun r => bindO (resultF cx F r.2.1 r.2.2) fun v => some (v, r.2.2)

noncomputable def putDF (d : Option Tmp) (fr : Fr) (v : V) (st : St) : OD := bindO (putF d fr v) fun fr => some (fr, st)

noncomputable def resD (r : R) : Cx → Bool → RunDT → Nat → Option Tmp → Fr → St → OD :=
  @R.rec (fun _ => Cx → Bool → RunDT → Nat → Option Tmp → Fr → St → OD)
    (fun v st _ _ _ _ d fr _ => putDF d fr v st)
    (fun st _ _ _ _ d fr _ => putDF d fr undefV st)
    (fun f args cx _ R fl d fr st => bindO (callDF cx R fl f args st) fun r => putDF d fr r.1 r.2)
    (fun l _ la _ _ d fr _ => bindO (headOr la l) fun r => putDF d fr r.1 r.2)
    (fun _ _ _ _ _ _ _ => none) r

noncomputable def wantD (w : Option Bool) : Cx → Bool → RunDT → Nat → Oper → Fr → St → OD :=
  @Option.rec Bool (fun _ => Cx → Bool → RunDT → Nat → Oper → Fr → St → OD) (fun _ _ _ _ _ _ _ => none)
    (fun b => @Bool.rec (fun _ => Cx → Bool → RunDT → Nat → Oper → Fr → St → OD) (fun _ _ _ _ o fr st => putDF o.dst fr undefV st) (fun cx la R fl o fr st => resD (stepF o.op cx fl fr st o.type) cx la R fl o.dst fr st) b) w

noncomputable def opDF (cx : Cx) (la : Bool) (R : RunDT) (fl : Nat) (all : List Oper) (o : Oper) (fr : Fr) (st : St) : OD := wantD (wantedF o.guard all fr) cx la R fl o fr st

noncomputable def opsDF (cx : Cx) (la : Bool) (R : RunDT) (fl : Nat) (all : List Oper) (l : List Oper) : Fr → St → OD :=
  @List.rec Oper (fun _ => Fr → St → OD) (fun fr st => some (fr, st)) (fun o _ ih fr st => bindO (opDF cx la R fl all o fr st) fun r => ih r.1 r.2) l

abbrev GoD := List (Nat × Nat × O) → Fr → St → OD
noncomputable def stepD (s : Step) : Cx → Bool → RunDT → Nat → List Oper → GoD → GoD :=
  @Step.rec (fun _ => Cx → Bool → RunDT → Nat → List Oper → GoD → GoD)
    (fun i cx _ _ _ ops go pend fr st => bindO (nthF ops i) fun o => bindO (pureG cx ops o fr .nil) fun v => bindO (putF o.dst fr v) fun fr => go pend fr st)
    (fun i as cx _ _ _ ops go pend fr st => bindO (nthF ops i) fun o => bindO (pureG cx ops o fr (insertAs pend as st).heap) fun v => bindO (putF o.dst fr v) fun fr => go pend fr st)
    (fun i cx _ _ _ ops go pend fr st => bindO (nthF ops i) fun o => match newG cx ops o fr st.next with
      | some (v, ob) => bindO (putF o.dst fr v) fun fr => go (pend ++ [(i, st.next, ob)]) fr ⟨st.heap, st.next + 1⟩
      | none => bindO (pureG cx ops o fr .nil) fun v => bindO (putF o.dst fr v) fun fr => go pend fr st)
    (fun i as cx la R _ ops go pend fr st => bindO (nthF ops i) fun o => bindO (opDF cx la R st.next ops o fr (insertAs pend as st)) fun r => go pend r.1 r.2)
    (fun i cx la R fl ops go pend fr st => bindO (nthF ops i) fun o => bindO (opDF cx la R fl ops o fr (insertAll pend st)) fun r => go [] r.1 r.2) s

noncomputable def planDF (cx : Cx) (la : Bool) (R : RunDT) (fl : Nat) (ops : List Oper) (l : List Step) : GoD :=
  @List.rec Step (fun _ => GoD) (fun pend fr st => some (fr, insertAll pend st)) (fun s _ ih => stepD s cx la R fl ops ih) l

abbrev ED := Option (Exit × Fr × St)
abbrev CodeDT := Cx → Bool → RunDT → Nat → FuncId → Fr → St → ED
noncomputable def thenD (e : Exit) : (Fr → St → ED) → Fr → St → ED :=
  @Exit.rec (fun _ => (Fr → St → ED) → Fr → St → ED) (fun k fr st => k fr st) (fun i _ fr st => some (.exit i, fr, st)) (fun l _ fr st => some (.goto l, fr, st)) (fun _ fr st => some (.ret, fr, st)) (fun p _ fr st => some (.panic p, fr, st)) (fun _ fr st => some (.outgrown, fr, st)) e
noncomputable def blockD (id : Nat) (e : Exit) : Fr → St → ED :=
  @Exit.rec (fun _ => Fr → St → ED) (fun fr st => some (.normal, fr, st)) (fun i fr st => (@Bool.rec (fun _ => ED) (some (.exit i, fr, st)) (some (.normal, fr, st)) (Nat.beq i id))) (fun l fr st => some (.goto l, fr, st)) (fun fr st => some (.ret, fr, st)) (fun p fr st => some (.panic p, fr, st)) (fun fr st => some (.outgrown, fr, st)) e

noncomputable def codeD (c : Code) : CodeDT :=
  @Code.rec (fun _ => CodeDT) (fun _ _ _ _ _ fr st => some (.normal, fr, st))
    (fun id ops draw => @Bool.rec (fun _ => CodeDT)
      (fun cx la R fl _ fr st => bindO (opsDF cx la R fl ops.toList ops.toList fr st) fun r => some (.normal, r.1, r.2))
      (fun cx la R fl g fr st => bindO (cx.plan g id) fun pl => bindO (planDF cx la R fl ops.toList pl [] fr st) fun r => some (.normal, r.1, r.2)) draw)
    (fun a b _ _ _ _ R fl g fr st => bindO (R fl g a fr st) fun r => thenD r.1 (fun fr st => R fl g b fr st) r.2.1 r.2.2)
    (fun c a b _ _ cx _ R fl g fr st => bindO (evF c fr) fun v => bindO (resB cx v) fun v => bindO (toBool v) fun t => (@Bool.rec (fun _ => ED) (R fl g b fr st) (R fl g a fr st) (t)))
    (fun id b _ _ _ R fl g fr st => bindO (R fl g b fr st) fun r => blockD id r.1 r.2.1 r.2.2)
    (fun b _ _ _ R fl g fr st => bindO (R fl g b fr st) fun r => thenD r.1 (fun fr st => R fl g (.loop b) fr st) r.2.1 r.2.2)
    (fun _ _ _ _ _ _ _ _ _ _ _ _ _ => none) (fun i _ _ _ _ _ fr st => some (.exit i, fr, st)) (fun _ _ _ _ _ _ _ _ _ => none) (fun _ _ _ _ _ _ _ _ => none) (fun _ _ _ _ _ _ _ _ => none) (fun _ _ _ _ _ fr st => some (.ret, fr, st)) (fun _ _ _ _ _ _ _ _ => none) c

noncomputable def runDF (cx : Cx) (la : Bool) (n : Nat) : RunDT :=
  @Nat.rec (fun _ => RunDT) (fun _ _ _ _ _ => none) (fun _ R fl g c fr st => codeD c cx la R fl g fr st) n

/-! ### calls cut -/
/-- A call's body: of some calls one road, or two, are tried; all roads are held against them; gone on with once for each. -/
noncomputable def cutG (cx : Cx) (ones twos : List Nat) (n : Nat) : RunT := fun fl g c fr st K =>
  bif memN g ones then (bif Nat.beq fl 0 then (match cx.fn g, runDF cx false n fl g c fr st with
    | some F, some o1 => bif memN g twos then (match runDF cx true n fl g c fr st with
        | some o2 => runG cx n fl g c fr st (fun e fr' st' => ends F st.next o1 e fr' st' || ends F st.next o2 e fr' st') && goOn F st.next o1 K && goOn F st.next o2 K
        | none => false)
      else runG cx n fl g c fr st (ends F st.next o1) && goOn F st.next o1 K
    | _, _ => false) else false) else runG cx n fl g c fr st K

theorem cutG_ok {cx : Cx} {P : Program} {B n : Nat} {ones twos : List Nat} (hR0 : CodeOk cx P B (run cx n)) : CodeOk cx P B (cutG cx ones twos n) := by
  have hR : CodeOk cx P B (runG cx n) := by rw [runG_eq]; exact hR0
  intro fl g c fr st K hk hok hfl a w β h hf hd
  unfold cutG at hk
  cases ho : memN g ones with
  | false => rw [ho] at hk; exact hR fl g c fr st K hk hok hfl a w β h hf hd
  | true =>
  rw [ho] at hk
  simp only [cond_true] at hk
  cases h0 : Nat.beq fl 0 with
  | false => rw [h0] at hk; simp at hk
  | true =>
  rw [h0] at hk
  have hfl0 := Nat.eq_of_beq_eq_true h0
  subst hfl0
  simp only [cond_true] at hk
  split at hk
  case h_2 => cases hk
  rename_i F o1 hF h1
  cases ht : memN g twos with
  | false =>
    rw [ht] at hk
    simp only [cond_false, Bool.and_eq_true] at hk
    refine wp_mono (hR 0 g c fr st _ hk.1 hok hfl a w β h hf hd) ?_
    rintro e a' w' ⟨fr', st', β', q1, q2, q3, q4⟩
    exact ends_ok hk.2 q1 q2 q3 q4
  | true =>
    rw [ht] at hk
    simp only [cond_true] at hk
    split at hk
    case h_2 => cases hk
    rename_i o2 h2
    simp only [Bool.and_eq_true] at hk
    refine wp_mono (hR 0 g c fr st _ hk.1.1 hok hfl a w β h hf hd) ?_
    rintro e a' w' ⟨fr', st', β', q1, q2, q3, q4⟩
    simp only [Bool.or_eq_true] at q1
    rcases q1 with q1 | q1
    · exact ends_ok hk.1.2 q1 q2 q3 q4
    · exact ends_ok hk.2 q1 q2 q3 q4

/-- Code whose calls another evaluator runs. -/
noncomputable def codeH (c : Code) : RunT → CodeT :=
  @Code.rec (fun _ => RunT → CodeT) (fun _ => cdSkip) (fun id ops draw R0 cx _ fl g fr st K => cdRegion id ops draw cx R0 fl g fr st K) (fun a b _ _ _ => cdSeq a b) (fun c a b _ _ _ => cdCond c a b) (fun id b _ _ => cdBlock id b) (fun b _ _ => cdLoop b)
    (fun _ _ _ _ _ _ _ => cdFail) (fun i _ => cdExit i) (fun _ _ _ => cdFail) (fun _ _ => cdFail) (fun _ _ => cdFail) (fun _ => cdRet) (fun _ _ => cdFail) c

noncomputable def runH (cx : Cx) (R0 : RunT) (n : Nat) : RunT :=
  @Nat.rec (fun _ => RunT) (fun _ _ _ _ _ _ => false) (fun _ R fl g c fr st K => codeH c R0 cx R fl g fr st K) n

theorem runH_eq (cx : Cx) (R0 : RunT) : ∀ n, runH cx R0 n = runW cx R0 n
  | 0 => rfl
  | n + 1 => by
    funext fl g c fr st K
    show codeH c R0 cx (runH cx R0 n) fl g fr st K = _
    rw [runH_eq cx R0 n]
    cases c with
    | skip => rfl
    | region id ops draw =>
      cases draw with
      | false => show opsG cx _ fl ops.toList ops.toList fr st (K .normal) = _; simp only [runW, opsG_eq]; rfl
      | true =>
        show andThen (cx.plan g id) _ = _
        rw [andThen_eq]
        simp only [runW, cond_true]
        cases cx.plan g id with
        | none => rfl
        | some pl => simp only [planG_eq]
    | seq a b =>
      show cdSeq a b cx (runW cx R0 n) fl g fr st K = _
      simp only [cdSeq, runW, seqK_eq]; rfl
    | cond c a b =>
      show (andThen (evF c fr) fun v => andThen (resB cx v) fun v => andThen (toBool v) fun t => cdIf t a b cx (runW cx R0 n) fl g fr st K) = _
      simp only [runW, evF_eq, andThen_eq]
      cases ev fr c with
      | none => rfl
      | some v =>
        simp only [Option.bind_some]
        cases resB cx v with
        | none => rfl
        | some v =>
          simp only [Option.bind_some]
          cases toBool v with
          | none => rfl
          | some t => cases t <;> rfl
    | block id b =>
      show cdBlock id b cx (runW cx R0 n) fl g fr st K = _
      simp only [cdBlock, runW, blockK_eq]; rfl
    | loop b =>
      show cdLoop b cx (runW cx R0 n) fl g fr st K = _
      simp only [cdLoop, runW, seqK_eq]; rfl
    | _ => rfl

theorem callCutG {cx : Cx} {P : Program} {B fl : Nat} {β : Be} {st : St} {w : World} (hm : P.follows .mixedOrders = true) (hx : CxOk cx P) (hp : PrimsOk cx P B) {m n : Nat} {ones twos : List Nat} {f : FuncId} {args : List V} {args' : Array Value} {K : V → St → Bool} (hk : callG cx (runH cx (cutG cx ones twos n) m) fl f args st K = true) (hfl : fl ≤ st.next)
    (h : Inv cx B β st w) (ha : All2 (VRel β) args args'.toList) : CallRet P f args' w fun v' w' => ∃ v st' β', K v st' = true ∧ VRel β' v v' ∧ Good cx B fl β st w β' st' w' := by
  rw [callG_eq, runH_eq] at hk
  exact callF_ok hx hp (codeW_ok (cutG_ok (run_ok hm hx hp n)) hx hp (plan_ok hm hx hp) m).1 hk hfl h ha
end Go.Am
