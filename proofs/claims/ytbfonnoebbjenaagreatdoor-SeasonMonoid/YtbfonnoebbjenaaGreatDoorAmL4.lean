/- On the season seat's program: the context in which SeasonStreaks is run: StreakOf and CheckStreak, and the reference's, by their contracts. -/
import Derived.Test.YtbfonnoebbjenaaGreatDoorAmL3
import Derived.Test.YtbfonnoebbjenaaGreatDoorAmZd
namespace Go.Proofs.Tryz
open Go Go.Am
set_option maxRecDepth 100000

def consE (l : List E) : E := l.foldr .pair .nil

theorem consE_vals (ρ : Env) : ∀ l : List E, (consE l).vals ρ = l.map fun e => e.val ρ
  | [] => rfl
  | e :: l => by
    have := consE_vals ρ l
    simp only [consE, List.foldr_cons, E.vals, List.map_cons] at this ⊢
    rw [this]; rfl

def bitsOf (l : List Int) : List Bool := l.map fun n => decide (n ≠ 0)
def fnsF (k : Nat) (l : List Int) : Int :=
  match k with
  | 0 => (bitsOf l).length
  | 1 => Stk.lead (bitsOf l)
  | 2 => Stk.trail (bitsOf l)
  | 3 => Stk.long (bitsOf l)
  | 20 => checkF (l.getD 0 0) (l.getD 1 0) (l.getD 2 0) (l.getD 3 0)
  | _ => 0

def appS (es : List E) : V := .a (.agg [sC (.app 0 (consE es)), sC (.app 1 (consE es)), sC (.app 2 (consE es)), sC (.app 3 (consE es))])
def appA (es : List E) : A := .agg [sC (.app 0 (consE es)), sC (.app 1 (consE es)), sC (.app 2 (consE es)), sC (.app 3 (consE es))]

/-- the symbols behind truth values -/
def sbs : List C → Option (List E)
  | [] => some []
  | .sb e :: l => (sbs l).map (e :: ·)
  | _ => none

def pAwake (_ : Nat) (args : List V) (st : St) : Option (V × St) :=
  match args with
  | [] => some (sc (.bool true), st)
  | _ => none

def pStreak (_ : Nat) (args : List V) (st : St) : Option (V × St) :=
  match args with
  | [.a (.c (.sl id 0 len cap _))] => bif Nat.ble len 12 && Nat.ble len cap then (match st.heap.get id with
      | some (.cells l _ _) => bif Nat.beq l.length len then (sbs l).map fun es => (.tup [appA es, .c (iC 0)], st) else none
      | _ => none) else bif Nat.blt 256 len then some (.tup [.agg zero4, .c (iC 5)], st) else none
  | _ => none

def pRef (rows : Nat → Option (List C)) (_ : Nat) (args : List V) (st : St) : Option (V × St) :=
  match args with
  | [.a (.c (.osl k 0 len))] => bif Nat.ble len 12 then (match rows k with
      | some l => bif Nat.beq l.length len then (sbs l).map fun es => (.a (appA es), st) else none
      | _ => none) else none
  | [.a (.c (.slx (.lit (.ofNat 0))))] => some (.a (appA []), st)
  | _ => none

def intE : C → Option E
  | .sc (.int .i64 n) => some (.lit n)
  | .sy .i64 e => some e
  | _ => none

def pCheck (_ : Nat) (args : List V) (st : St) : Option (V × St) :=
  match args with
  | [.a (.agg [a, b, c, d])] => (match intE a, intE b, intE c, intE d with
    | some a, some b, some c, some d => some (.a (.c (.sy .i64 (.app 20 (consE [a, b, c, d])))), st)
    | _, _, _, _ => none)
  | _ => none

noncomputable def primF (rows : Nat → Option (List C)) (f : FuncId) : Option (Nat → List V → St → Option (V × St)) :=
  bif Nat.beq f 15 then some pAwake else bif Nat.beq f 39 then some pStreak else bif Nat.beq f 41 then some (pRef rows) else bif Nat.beq f 44 || Nat.beq f 42 then some pCheck else cx.prim f

noncomputable def cxF (rows : Nat → Option (List C)) : Cx := cxW (primF rows) fnsF noDefs rows

theorem prim_kept {cx' : Cx} {B fl : Nat} {β : Be} {st : St} {w : World} (hi : Inv cx' B β st w) {f : FuncId} {args' : Array Value} {v : V} {v' : Value} (hv : VRel β v v') (h : CallRet prog f args' w fun x w' => x = v' ∧ Kept w w') :
    CallRet prog f args' w fun x w' => ∃ β', VRel β' v x ∧ Good cx' B fl β st w β' st w' :=
  h.mono fun x w' ⟨h1, h2⟩ => ⟨β, by rw [h1]; exact hv, h2.good hi⟩

theorem sbs_rel {β : Be} : ∀ {l : List C} {es : List E} {vs : List Value}, sbs l = some es → All2 (CRel β) l vs → es.length = l.length ∧ vs = (bitsOf (es.map fun e => e.val β.env)).map Value.bool
  | [], es, [], h, _ => by simp only [sbs, Option.some.injEq] at h; subst h; exact ⟨rfl, rfl⟩
  | [], _, _ :: _, _, h => h.elim
  | _ :: _, _, [], _, h => h.elim
  | c :: l, es, v :: vs, h, hr => by
    unfold sbs at h
    split at h
    · rename_i h0; cases h0
    · rename_i e l2 h0
      simp only [List.cons.injEq] at h0
      obtain ⟨rfl, rfl⟩ := h0
      simp only [Option.map_eq_some_iff] at h
      obtain ⟨es', h1, rfl⟩ := h
      obtain ⟨h2, h3⟩ := sbs_rel h1 hr.2
      have hv : v = _ := hr.1
      refine ⟨by simp [h2], ?_⟩
      rw [hv, h3]
      simp [bitsOf]
    · cases h

theorem app_rel {β : Be} (hf : β.env.f = fnsF) {es : List E} {bs : List Bool} (hb : bitsOf (es.map fun e => e.val β.env) = bs) : ARel β (appA es) (strkV bs) := by
  refine ⟨_, rfl, ⟨?_, ?_, ?_, ?_, trivial⟩, fun x hx => by simp at hx; rcases hx with rfl | rfl | rfl | rfl <;> rfl⟩ <;>
    · show Value.int _ _ = Value.int _ _
      simp only [E.val, E.vals, List.headD_cons, hf, consE_vals, fnsF]
      simp only [E.val] at hb
      simp only [hb]

theorem pre_get (bs : List Bool) : pre (fun j => bs.getD j false) bs.length = bs := by
  apply List.ext_getElem
  · simp [pre]
  · intro i h1 h2
    simp [pre, h2]

theorem intE_rel {β : Be} {c : C} {v : Value} {e : E} (h : CRel β c v) (he : intE c = some e) : v = .int .i64 (e.val β.env) := by
  unfold intE at he
  split at he
  · simp only [Option.some.injEq] at he; subst he; exact h
  · simp only [Option.some.injEq] at he; subst he; exact h
  · cases he

noncomputable def runMany : Bool :=
  paths 5 [(.le (.var 0) (L 256), false)] (askCall cxC noAnn noTails 100 0 39 [.a (.c (.slx (.var 0)))] ⟨.nil, 0⟩) fun l => callF (withT cxC l) (runA cxC noAnn 100 noTails l) 0 39 [.a (.c (.slx (.var 0)))] ⟨.nil, 0⟩ fun v _ => eqVv v (.tup [.agg zero4, .c (iC 5)])
theorem runMany_ok : runMany = true := by kernel_rfl

theorem run_many {w : World} (h : Laid w) {a : Option Addr} {n c : Nat} (hn : 256 < n) : CallRet prog 39 #[.slice a n c] w fun v' w' => v' = .tuple #[.agg #[.int .i64 0, .int .i64 0, .int .i64 0, .int .i64 0], .int .i64 5] ∧ Kept w w' := by
  have hi : Inv cxC w.heap.size ⟨fun _ => none, ⟨fun _ => n, fun _ _ => 0, fun _ => (0, 0), memOf w⟩⟩ ⟨.nil, 0⟩ w := inv0 _ rfl rfl (fun m x hx => by cases hx) h (fun k l hk => by cases hk)
  obtain ⟨l', h1, h2⟩ := symCallA (tl := noTails) (cx := cxC) (l := [(.le (.var 0) (L 256), false)]) (ann := noAnn) (n := 100) (m := 5) (fl := 0) (args' := #[.slice a n c]) mixed cxWOk (primsOkG (cx' := cxC) rfl rfl _) rfl runMany_ok (fun p hp => by
      rw [List.mem_singleton.1 hp]; simp [Tst.holds, E.val, E.vals, L]; omega) (Nat.le_refl _) hi ⟨⟨a, n, c, rfl, rfl⟩, trivial⟩
  refine h2.mono ?_
  rintro v' w' ⟨v, st', β', q1, q2, q3⟩
  refine ⟨?_, Kept.ofNil q3⟩
  have hv := eqVv_ok q1
  subst hv
  obtain ⟨⟨arr⟩, rfl, q5⟩ := q2
  match arr, q5 with
  | [x, y], ⟨q5, q6, _⟩ =>
    obtain ⟨⟨arr2⟩, rfl, q7, _⟩ := q5
    have hy : y = _ := q6
    match arr2, q7 with
    | [a1, a2, a3, a4], ⟨e1, e2, e3, e4, _⟩ =>
      have e1 : a1 = _ := e1
      have e2 : a2 = _ := e2
      have e3 : a3 = _ := e3
      have e4 : a4 = _ := e4
      rw [hy, e1, e2, e3, e4]; rfl

def is0 (c : C) : Bool :=
  match c with
  | .sc (.int .i64 (.ofNat 0)) => true
  | .sy .i64 (.lit (.ofNat 0)) => true
  | _ => false
theorem is0_ok {β : Be} {c : C} {v : Value} (hc : is0 c = true) (h : CRel β c v) : v = .int .i64 0 := by
  unfold is0 at hc
  split at hc
  · exact h
  · exact h
  · cases hc
def are0 : V → Bool
  | .a (.agg [a, b, c, d]) => is0 a && is0 b && is0 c && is0 d
  | _ => false

noncomputable def runNone : Bool :=
  paths 5 [] (askCall cxC noAnn noTails 100 0 41 [.a (.c (.slx (L 0)))] ⟨.nil, 0⟩) fun l => callF (withT cxC l) (runA cxC noAnn 100 noTails l) 0 41 [.a (.c (.slx (L 0)))] ⟨.nil, 0⟩ fun v _ => are0 v
theorem runNone_ok : runNone = true := by kernel_rfl

theorem run_none {w : World} (h : Laid w) {a : Option Addr} {c : Nat} : CallRet prog 41 #[.slice a 0 c] w fun v' w' => v' = strkV [] ∧ Kept w w' := by
  have hi : Inv cxC w.heap.size ⟨fun _ => none, ⟨fun _ => 0, fun _ _ => 0, fun _ => (0, 0), memOf w⟩⟩ ⟨.nil, 0⟩ w := inv0 _ rfl rfl (fun m x hx => by cases hx) h (fun k l hk => by cases hk)
  obtain ⟨l', h1, h2⟩ := symCallA (tl := noTails) (cx := cxC) (l := []) (ann := noAnn) (n := 100) (m := 5) (fl := 0) (args' := #[.slice a 0 c]) mixed cxWOk (primsOkG (cx' := cxC) rfl rfl _) rfl runNone_ok (fun p hp => nomatch hp) (Nat.le_refl _) hi ⟨⟨a, 0, c, rfl, rfl⟩, trivial⟩
  refine h2.mono ?_
  rintro v' w' ⟨v, st', β', q1, q2, q3⟩
  refine ⟨?_, Kept.ofNil q3⟩
  unfold are0 at q1
  split at q1
  · rename_i a b c d
    simp only [Bool.and_eq_true] at q1
    obtain ⟨⟨arr2⟩, rfl, q7, _⟩ := q2
    match arr2, q7 with
    | [a1, a2, a3, a4], ⟨e1, e2, e3, e4, _⟩ =>
      rw [is0_ok q1.1.1.1 e1, is0_ok q1.1.1.2 e2, is0_ok q1.1.2 e3, is0_ok q1.2 e4]; rfl
  · cases q1

theorem primsF (rows : Nat → Option (List C)) (B : Nat) : PrimsOk (cxF rows) prog B := by
  intro f p hp fl β st w args args' v st' hi hfl ha hpv
  have hL : Laid w := laid_base (cx' := cxF rows) rfl hi
  have hfn : β.env.f = fnsF := hi.facts.fns
  simp only [cxF, cxW, primF] at hp
  cases h15 : Nat.beq f 15 with
  | true =>
    rw [h15] at hp
    simp only [cond_true, Option.some.injEq] at hp; subst hp
    have := Nat.eq_of_beq_eq_true h15; subst this
    unfold pAwake at hpv
    split at hpv
    · simp only [Option.some.injEq, Prod.mk.injEq] at hpv
      obtain ⟨rfl, rfl⟩ := hpv
      obtain rfl : args' = #[] := by
        obtain ⟨l⟩ := args'
        match l, ha with
        | [], _ => rfl
      exact prim_kept hi (v' := .bool true) rfl (awake hL)
    · cases hpv
  | false =>
  rw [h15] at hp
  simp only [cond_false] at hp
  cases h39 : Nat.beq f 39 with
  | true =>
    rw [h39] at hp
    simp only [cond_true, Option.some.injEq] at hp; subst hp
    have := Nat.eq_of_beq_eq_true h39; subst this
    unfold pStreak at hpv
    split at hpv
    case h_2 => cases hpv
    rename_i id len cap fx
    obtain ⟨x', rfl, hx1⟩ : ∃ x', args' = #[x'] ∧ VRel β (.a (.c (.sl id 0 len cap fx))) x' := by
      obtain ⟨l⟩ := args'
      match l, ha with
      | [x'], hr => exact ⟨x', rfl, hr.1⟩
    obtain ⟨b, ex, hb, rfl⟩ := hx1
    cases h12' : (Nat.ble len 12 && Nat.ble len cap) with
    | true =>
      rw [h12'] at hpv
      simp only [cond_true] at hpv
      simp only [Bool.and_eq_true] at h12'
      have h12 := h12'.1
      have hcap := Nat.le_of_ble_eq_true h12'.2
      split at hpv
      case h_2 => cases hpv
      rename_i l e fx2 hg
      cases hl : Nat.beq l.length len with
      | false => rw [hl] at hpv; cases hpv
      | true =>
        rw [hl] at hpv
        simp only [cond_true, Option.map_eq_some_iff, Prod.mk.injEq] at hpv
        obtain ⟨es, hes, rfl, rfl⟩ := hpv
        have hll := Nat.eq_of_beq_eq_true hl
        obtain ⟨b', ex', ob, hb', hh, cur, pr, rest, rfl, hcur, hrel, _, _, _⟩ := hi.live id _ hg
        rw [hb] at hb'; cases hb'
        obtain ⟨e1, e2⟩ := sbs_rel hes hrel
        have hbl : (bitsOf (es.map fun e => e.val β.env)).length = len := by simp [bitsOf, e1, hll]
        have hcell : ∀ j, j < len → w.cell? ⟨b, 0 + j, none⟩ = some (.bool ((bitsOf (es.map fun e => e.val β.env)).getD j false)) := fun j hj => by
          simp only [World.cell?, hh, Option.isSome, Bool.false_eq_true, if_false]
          rw [← Array.getElem?_toList, hcur, e2, List.getElem?_append_left (by simp [hbl]; omega)]
          have hj2 : j < (bitsOf (es.map fun e => e.val β.env)).length := by omega
          simp [hj2]
        have := streakOf (bits := fun j => (bitsOf (es.map fun e => e.val β.env)).getD j false) (n := len) (b := b) (off := 0) (c := bif fx then cap + ex else cap) hL (Nat.le_of_ble_eq_true h12) (by cases fx <;> simp <;> omega) hcell
        rw [← hbl, pre_get, hbl] at this
        exact prim_kept hi (v := .tup [appA es, .c (iC 0)]) (v' := .tuple #[strkV (bitsOf (es.map fun e => e.val β.env)), .int .i64 0]) ⟨_, rfl, ⟨app_rel hfn rfl, rfl, trivial⟩⟩ this
    | false =>
      rw [h12'] at hpv
      simp only [cond_false] at hpv
      cases h256 : Nat.blt 256 len with
      | false => rw [h256] at hpv; cases hpv
      | true =>
        rw [h256] at hpv
        simp only [cond_true, Option.some.injEq, Prod.mk.injEq] at hpv
        obtain ⟨rfl, rfl⟩ := hpv
        have hlt : 256 < len := by simpa [Nat.blt, Nat.ble_eq, Nat.succ_le_iff] using h256
        exact prim_kept hi (v := .tup [.agg zero4, .c (iC 5)]) (v' := .tuple #[.agg #[.int .i64 0, .int .i64 0, .int .i64 0, .int .i64 0], .int .i64 5]) ⟨_, rfl, ⟨⟨_, rfl, ⟨rfl, rfl, rfl, rfl, trivial⟩, fun x hx => by simp at hx; subst hx; rfl⟩, rfl, trivial⟩⟩ (run_many hL hlt)
  | false =>
  rw [h39] at hp
  simp only [cond_false] at hp
  cases h41 : Nat.beq f 41 with
  | true =>
    rw [h41] at hp
    simp only [cond_true, Option.some.injEq] at hp; subst hp
    have := Nat.eq_of_beq_eq_true h41; subst this
    unfold pRef at hpv
    split at hpv
    case h_3 => cases hpv
    case h_2 =>
      simp only [Option.some.injEq, Prod.mk.injEq] at hpv
      obtain ⟨rfl, rfl⟩ := hpv
      obtain ⟨x', rfl, hx1⟩ : ∃ x', args' = #[x'] ∧ VRel β (.a (.c (.slx (.lit (.ofNat 0))))) x' := by
        obtain ⟨l⟩ := args'
        match l, ha with
        | [x'], hr => exact ⟨x', rfl, hr.1⟩
      obtain ⟨a, m, c, rfl, hm⟩ := hx1
      have hm0 : m = 0 := by
        have : (m : Int) = 0 := hm
        omega
      subst hm0
      exact prim_kept hi (v := .a (appA [])) (app_rel hfn rfl) (run_none hL)
    rename_i k len
    obtain ⟨x', rfl, hx1⟩ : ∃ x', args' = #[x'] ∧ VRel β (.a (.c (.osl k 0 len))) x' := by
      obtain ⟨l⟩ := args'
      match l, ha with
      | [x'], hr => exact ⟨x', rfl, hr.1⟩
    obtain ⟨c, hc, rfl⟩ := hx1
    cases h12 : Nat.ble len 12 with
    | false => rw [h12] at hpv; cases hpv
    | true =>
      rw [h12] at hpv
      simp only [cond_true] at hpv
      split at hpv
      case h_2 => cases hpv
      rename_i l hg
      cases hl : Nat.beq l.length len with
      | false => rw [hl] at hpv; cases hpv
      | true =>
        rw [hl] at hpv
        simp only [cond_true, Option.map_eq_some_iff, Prod.mk.injEq] at hpv
        obtain ⟨es, hes, rfl, rfl⟩ := hpv
        have hll := Nat.eq_of_beq_eq_true hl
        have hO := hi.facts.outer k l hg
        obtain ⟨vs, hvs, hmem⟩ : ∃ vs : List Value, All2 (CRel β) l vs ∧ ∀ j v, vs[j]? = some v → β.env.mem (β.env.out k).1 ((β.env.out k).2 + j) = some v := by
          have key : ∀ (m : List C) (i : Nat), (∀ j c, m[j]? = some c → l[i + j]? = some c) → ∃ vs : List Value, All2 (CRel β) m vs ∧ ∀ j v, vs[j]? = some v → β.env.mem (β.env.out k).1 ((β.env.out k).2 + (i + j)) = some v := by
            intro m
            induction m with
            | nil => intro i _; exact ⟨[], trivial, fun j v hj => by simp at hj⟩
            | cons c m ih =>
              intro i hm
              obtain ⟨v, g1, g2, _⟩ := hO i c (hm 0 c rfl)
              obtain ⟨vs, g3, g4⟩ := ih (i + 1) fun j c hj => by rw [show i + 1 + j = i + (j + 1) by omega]; exact hm (j + 1) c (by simpa using hj)
              refine ⟨v :: vs, ⟨CRel.mono (β := ⟨fun _ => none, β.env⟩) (β' := β) ⟨(fun _ _ h => nomatch h), rfl⟩ g2, g3⟩, fun j u hj => ?_⟩
              cases j with
              | zero => simp at hj; subst hj; exact g1
              | succ j => rw [show i + (j + 1) = i + 1 + j by omega]; exact g4 j u (by simpa using hj)
          obtain ⟨vs, g1, g2⟩ := key l 0 fun j c hj => by simpa using hj
          exact ⟨vs, g1, fun j v hj => by simpa using g2 j v hj⟩
        obtain ⟨e1, e2⟩ := sbs_rel hes hvs
        have hbl : (bitsOf (es.map fun e => e.val β.env)).length = len := by simp [bitsOf, e1, hll]
        have hcell : ∀ j, j < len → w.cell? ⟨(β.env.out k).1, (β.env.out k).2 + 0 + j, none⟩ = some (.bool ((bitsOf (es.map fun e => e.val β.env)).getD j false)) := fun j hj => by
          have hj2 : j < (bitsOf (es.map fun e => e.val β.env)).length := by omega
          have := hmem j (.bool ((bitsOf (es.map fun e => e.val β.env)).getD j false)) (by rw [e2]; simp [hj2])
          rw [show (β.env.out k).2 + 0 + j = (β.env.out k).2 + j by omega]
          exact (hi.base _ _ _ this).2
        have := refStreakOf (bits := fun j => (bitsOf (es.map fun e => e.val β.env)).getD j false) (n := len) (c := c) hL (Nat.le_of_ble_eq_true h12) hc hcell
        rw [← hbl, pre_get, hbl] at this
        exact prim_kept hi (v := .a (appA es)) (app_rel hfn rfl) this
  | false =>
  rw [h41] at hp
  simp only [cond_false] at hp
  cases h44 : (Nat.beq f 44 || Nat.beq f 42) with
  | true =>
    rw [h44] at hp
    simp only [cond_true, Option.some.injEq] at hp; subst hp
    unfold pCheck at hpv
    split at hpv
    case h_2 => cases hpv
    rename_i a b c d
    split at hpv
    case h_2 => cases hpv
    rename_i ea eb ec ed ha1 hb1 hc1 hd1
    simp only [Option.some.injEq, Prod.mk.injEq] at hpv
    obtain ⟨rfl, rfl⟩ := hpv
    obtain ⟨x', rfl, hx1⟩ : ∃ x', args' = #[x'] ∧ VRel β (.a (.agg [a, b, c, d])) x' := by
      obtain ⟨l⟩ := args'
      match l, ha with
      | [x'], hr => exact ⟨x', rfl, hr.1⟩
    obtain ⟨⟨arr⟩, rfl, q, _⟩ := hx1
    match arr, q with
    | [a', b', c', d'], ⟨q1, q2, q3, q4, _⟩ =>
      have e1 := intE_rel q1 ha1
      have e2 := intE_rel q2 hb1
      have e3 := intE_rel q3 hc1
      have e4 := intE_rel q4 hd1
      subst e1 e2 e3 e4
      have hv : VRel β (.a (.c (.sy .i64 (.app 20 (consE [ea, eb, ec, ed]))))) (.int .i64 (checkF (ea.val β.env) (eb.val β.env) (ec.val β.env) (ed.val β.env))) := by
        show Value.int _ _ = Value.int _ _
        congr 1
        have : E.val β.env (.app 20 (consE [ea, eb, ec, ed])) = β.env.f 20 ((consE [ea, eb, ec, ed]).vals β.env) := rfl
        rw [this, hfn, consE_vals]; rfl
      simp only [Bool.or_eq_true] at h44
      rcases h44 with h | h
      · have := Nat.eq_of_beq_eq_true h; subst this
        exact prim_kept hi hv (run_check checkRun44 hL _ _ _ _)
      · have := Nat.eq_of_beq_eq_true h; subst this
        exact prim_kept hi hv (run_check checkRun42 hL _ _ _ _)
  | false =>
    rw [h44] at hp
    simp only [cond_false] at hp
    have := primsOkG (cx' := cxW cx.prim fnsF noDefs rows) rfl rfl B f p hp fl β st w args args' v st' (Inv.to (cx := cxF rows) (cx' := cxW cx.prim fnsF noDefs rows) rfl rfl ⟨hi.facts.known, hi.facts.fns, hi.facts.defs, hi.facts.base, hi.facts.outer⟩ hi) hfl ha hpv
    exact this.mono fun v' w' ⟨β', q1, q2⟩ => ⟨β', q1, Good.to (cx := cxW cx.prim fnsF noDefs rows) (cx' := cxF rows) rfl rfl ⟨q2.inv.facts.known, q2.inv.facts.fns, q2.inv.facts.defs, q2.inv.facts.base, q2.inv.facts.outer⟩ q2⟩
end Go.Proofs.Tryz
