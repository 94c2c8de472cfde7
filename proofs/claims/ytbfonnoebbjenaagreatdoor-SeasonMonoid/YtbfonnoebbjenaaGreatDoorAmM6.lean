/- On the season seat's program: SeasonMonoid's context: its contracts hold. -/
import Derived.Test.YtbfonnoebbjenaaGreatDoorAmM3
namespace Go.Proofs.Tryz
open Go Go.Am
set_option maxRecDepth 100000

theorem unE_eq : ∀ {e : E} {es : List E}, unE e = some es → e = consE es
  | .nil, es, h => by simp only [unE, Option.some.injEq] at h; subst h; rfl
  | .pair a b, es, h => by
    simp only [unE, Option.map_eq_some_iff] at h
    obtain ⟨es', h1, rfl⟩ := h
    rw [unE_eq h1]; rfl
  | .var _, _, h => by simp [unE] at h
  | .lit _, _, h => by simp [unE] at h
  | .add _ _, _, h => by simp [unE] at h
  | .sub _ _, _, h => by simp [unE] at h
  | .mul _ _, _, h => by simp [unE] at h
  | .quo _ _, _, h => by simp [unE] at h
  | .rem _ _, _, h => by simp [unE] at h
  | .max _ _, _, h => by simp [unE] at h
  | .min _ _, _, h => by simp [unE] at h
  | .wrap _ _, _, h => by simp [unE] at h
  | .app _ _, _, h => by simp [unE] at h

theorem isLit_ok {β : Be} {n : Int} {c : C} {v : Value} (h : isLit n c = true) (hr : CRel β c v) : v = .int .i64 n := by
  unfold isLit at h
  split at h
  · rw [← of_decide_eq_true h]; exact hr
  · cases h

theorem app_val {ρ : Env} (hf : ρ.f = fnsF) (j : Nat) (es : List E) : E.val ρ (.app j (consE es)) = fnsF j (es.map fun e => e.val ρ) := by
  show ρ.f j ((consE es).vals ρ) = _
  rw [hf, consE_vals]

theorem asStk_rel {β : Be} (hf : β.env.f = fnsF) {l : List C} {es : List E} (h : asStk l = some es) {v : Value} (hr : ARel β (.agg l) v) : v = strkV (bitsOf (es.map fun e => e.val β.env)) := by
  unfold asStk at h
  split at h
  · rename_i a b c d
    cases hs : (a.same b && a.same c && a.same d) with
    | false => rw [hs] at h; cases h
    | true =>
      rw [hs] at h
      simp only [cond_true] at h
      simp only [Bool.and_eq_true] at hs
      have e1 := E.same_eq hs.1.1
      have e2 := E.same_eq hs.1.2
      have e3 := E.same_eq hs.2
      have e0 := unE_eq h
      subst e1; subst e2; subst e3; subst e0
      obtain ⟨⟨arr⟩, rfl, q, _⟩ := hr
      match arr, q with
      | [x0, x1, x2, x3], ⟨q0, q1, q2, q3, _⟩ =>
        have q0 : x0 = _ := q0
        have q1 : x1 = _ := q1
        have q2 : x2 = _ := q2
        have q3 : x3 = _ := q3
        rw [q0, q1, q2, q3, app_val hf, app_val hf, app_val hf, app_val hf]; rfl
  · rename_i a b c d _
    cases h0 : (isLit 0 a && isLit 0 b && isLit 0 c && isLit 0 d) with
    | true =>
      rw [h0] at h
      simp only [cond_true, Option.some.injEq] at h; subst h
      simp only [Bool.and_eq_true] at h0
      obtain ⟨⟨arr⟩, rfl, q, _⟩ := hr
      match arr, q with
      | [x0, x1, x2, x3], ⟨q0, q1, q2, q3, _⟩ =>
        rw [isLit_ok h0.1.1.1 q0, isLit_ok h0.1.1.2 q1, isLit_ok h0.1.2 q2, isLit_ok h0.2 q3]; rfl
    | false =>
      rw [h0] at h
      simp only [cond_false] at h
      cases h1 : (isLit 1 a && isLit 1 b && isLit 1 c && isLit 1 d) with
      | false => rw [h1] at h; cases h
      | true =>
        rw [h1] at h
        simp only [cond_true, Option.some.injEq] at h; subst h
        simp only [Bool.and_eq_true] at h1
        obtain ⟨⟨arr⟩, rfl, q, _⟩ := hr
        match arr, q with
        | [x0, x1, x2, x3], ⟨q0, q1, q2, q3, _⟩ =>
          rw [isLit_ok h1.1.1.1 q0, isLit_ok h1.1.1.2 q1, isLit_ok h1.1.2 q2, isLit_ok h1.2 q3]; rfl
  · cases h

noncomputable def runNil : Bool :=
  paths 5 [] (askCall cxC noAnn noTails 100 0 39 [.a (.c (.slx (L 0)))] ⟨.nil, 0⟩) fun l => callF (withT cxC l) (runA cxC noAnn 100 noTails l) 0 39 [.a (.c (.slx (L 0)))] ⟨.nil, 0⟩ fun v _ => match v with
    | .tup [.agg [a, b, c, d], .c e] => is0 a && is0 b && is0 c && is0 d && is0 e
    | _ => false
theorem runNil_ok : runNil = true := by kernel_rfl

theorem run_nil {w : World} (h : Laid w) {a : Option Addr} {c : Nat} : CallRet prog 39 #[.slice a 0 c] w fun v' w' => v' = .tuple #[strkV [], .int .i64 0] ∧ Kept w w' := by
  have hi : Inv cxC w.heap.size ⟨fun _ => none, ⟨fun _ => 0, fun _ _ => 0, fun _ => (0, 0), memOf w⟩⟩ ⟨.nil, 0⟩ w := inv0 _ rfl rfl (fun m x hx => by cases hx) h (fun k l hk => by cases hk)
  obtain ⟨l', h1, h2⟩ := symCallA (tl := noTails) (cx := cxC) (l := []) (ann := noAnn) (n := 100) (m := 5) (fl := 0) (args' := #[.slice a 0 c]) mixed cxWOk (primsOkG (cx' := cxC) rfl rfl _) rfl runNil_ok (fun p hp => nomatch hp) (Nat.le_refl _) hi ⟨⟨a, 0, c, rfl, rfl⟩, trivial⟩
  refine h2.mono ?_
  rintro v' w' ⟨v, st', β', q1, q2, q3⟩
  refine ⟨?_, Kept.ofNil q3⟩
  split at q1
  · rename_i a b c d e
    simp only [Bool.and_eq_true] at q1
    obtain ⟨⟨arr⟩, rfl, q5⟩ := q2
    match arr, q5 with
    | [x, y], ⟨q5, q6, _⟩ =>
      obtain ⟨⟨arr2⟩, rfl, q7, _⟩ := q5
      match arr2, q7 with
      | [a1, a2, a3, a4], ⟨e1, e2, e3, e4, _⟩ =>
        rw [is0_ok q1.1.1.1.1 e1, is0_ok q1.1.1.1.2 e2, is0_ok q1.1.1.2 e3, is0_ok q1.1.2 e4, is0_ok q1.2 q6]; rfl
  · cases q1

theorem pStreak_ok {cx' : Cx} (hfn0 : cx'.fns = fnsF) (hbase : cx'.base = cx.base) {B fl : Nat} {β : Be} {st : St} {w : World} {args : List V} {args' : Array Value} {v : V} {st' : St}
    (hi : Inv cx' B β st w) (ha : All2 (VRel β) args args'.toList) (hpv : pStreak fl args st = some (v, st')) : CallRet prog 39 args' w fun v' w' => ∃ β', VRel β' v v' ∧ Good cx' B fl β st w β' st' w' := by
  have hL : Laid w := laid_base hbase hi
  have hfn : β.env.f = fnsF := hi.facts.fns.trans hfn0
  unfold pStreak at hpv
  split at hpv
  case h_2 => cases hpv
  rename_i id len cap fx
  obtain ⟨x', rfl, hx1⟩ : ∃ x', args' = #[x'] ∧ VRel β (.a (.c (.sl id 0 len cap fx))) x' := by
    obtain ⟨l⟩ := args'
    match l, ha with
    | [x'], hr => exact ⟨x', rfl, hr.1⟩
  obtain ⟨b, ex, hb, rfl⟩ := hx1
  cases h12' : (Nat.ble len 12 && Nat.ble len cap) with
  | true =>
    rw [h12'] at hpv
    simp only [cond_true] at hpv
    simp only [Bool.and_eq_true] at h12'
    have h12 := h12'.1
    have hcap := Nat.le_of_ble_eq_true h12'.2
    split at hpv
    case h_2 => cases hpv
    rename_i l e fx2 hg
    cases hl : Nat.beq l.length len with
    | false => rw [hl] at hpv; cases hpv
    | true =>
      rw [hl] at hpv
      simp only [cond_true, Option.map_eq_some_iff, Prod.mk.injEq] at hpv
      obtain ⟨es, hes, rfl, rfl⟩ := hpv
      have hll := Nat.eq_of_beq_eq_true hl
      obtain ⟨b', ex', ob, hb', hh, cur, pr, rest, rfl, hcur, hrel, _, _, _⟩ := hi.live id _ hg
      rw [hb] at hb'; cases hb'
      obtain ⟨e1, e2⟩ := sbs_rel hes hrel
      have hbl : (bitsOf (es.map fun e => e.val β.env)).length = len := by simp [bitsOf, e1, hll]
      have hcell : ∀ j, j < len → w.cell? ⟨b, 0 + j, none⟩ = some (.bool ((bitsOf (es.map fun e => e.val β.env)).getD j false)) := fun j hj => by
        simp only [World.cell?, hh, Option.isSome, Bool.false_eq_true, if_false]
        rw [← Array.getElem?_toList, hcur, e2, List.getElem?_append_left (by simp [hbl]; omega)]
        have hj2 : j < (bitsOf (es.map fun e => e.val β.env)).length := by omega
        simp [hj2]
      have := streakOf (bits := fun j => (bitsOf (es.map fun e => e.val β.env)).getD j false) (n := len) (b := b) (off := 0) (c := bif fx then cap + ex else cap) hL (Nat.le_of_ble_eq_true h12) (by cases fx <;> simp <;> omega) hcell
      rw [← hbl, pre_get, hbl] at this
      exact prim_kept hi (v := .tup [appA es, .c (iC 0)]) (v' := .tuple #[strkV (bitsOf (es.map fun e => e.val β.env)), .int .i64 0]) ⟨_, rfl, ⟨app_rel hfn rfl, rfl, trivial⟩⟩ this
  | false =>
    rw [h12'] at hpv
    simp only [cond_false] at hpv
    cases h256 : Nat.blt 256 len with
    | false => rw [h256] at hpv; cases hpv
    | true =>
      rw [h256] at hpv
      simp only [cond_true, Option.some.injEq, Prod.mk.injEq] at hpv
      obtain ⟨rfl, rfl⟩ := hpv
      have hlt : 256 < len := by simpa [Nat.blt, Nat.ble_eq, Nat.succ_le_iff] using h256
      exact prim_kept hi (v := .tup [.agg zero4, .c (iC 5)]) (v' := .tuple #[.agg #[.int .i64 0, .int .i64 0, .int .i64 0, .int .i64 0], .int .i64 5]) ⟨_, rfl, ⟨⟨_, rfl, ⟨rfl, rfl, rfl, rfl, trivial⟩, fun x hx => by simp at hx; subst hx; rfl⟩, rfl, trivial⟩⟩ (run_many hL hlt)

theorem pStreakM_ok {cx' : Cx} (hfn0 : cx'.fns = fnsF) (hbase : cx'.base = cx.base) {B fl : Nat} {β : Be} {st : St} {w : World} {args : List V} {args' : Array Value} {v : V} {st' : St}
    (hi : Inv cx' B β st w) (ha : All2 (VRel β) args args'.toList) (hpv : pStreakM fl args st = some (v, st')) : CallRet prog 39 args' w fun v' w' => ∃ β', VRel β' v v' ∧ Good cx' B fl β st w β' st' w' := by
  unfold pStreakM at hpv
  split at hpv
  · rename_i c
    simp only [Option.some.injEq, Prod.mk.injEq] at hpv
    obtain ⟨rfl, rfl⟩ := hpv
    obtain rfl : args' = #[.slice none 0 c] := by
      obtain ⟨l⟩ := args'
      match l, ha with
      | [x'], hr => have e : x' = _ := hr.1; subst e; rfl
    exact prim_kept hi (v := .tup [appA [], .c (iC 0)]) (v' := .tuple #[strkV [], .int .i64 0]) ⟨_, rfl, ⟨app_rel (hi.facts.fns.trans hfn0) rfl, rfl, trivial⟩⟩ (run_nil (laid_base hbase hi))
  · exact pStreak_ok hfn0 hbase hi ha hpv

theorem pJoin_ok {cx' : Cx} (hfn0 : cx'.fns = fnsF) (hbase : cx'.base = cx.base) {B fl : Nat} {β : Be} {st : St} {w : World} {args : List V} {args' : Array Value} {v : V} {st' : St}
    (hi : Inv cx' B β st w) (ha : All2 (VRel β) args args'.toList) (hpv : pJoin fl args st = some (v, st')) : CallRet prog 40 args' w fun v' w' => ∃ β', VRel β' v v' ∧ Good cx' B fl β st w β' st' w' := by
  have hfn : β.env.f = fnsF := hi.facts.fns.trans hfn0
  unfold pJoin at hpv
  split at hpv
  case h_2 => cases hpv
  rename_i a b
  split at hpv
  case h_2 => cases hpv
  rename_i p q hp hq
  cases hle : Nat.ble (p.length + q.length) 100 with
  | false => rw [hle] at hpv; cases hpv
  | true =>
    rw [hle] at hpv
    simp only [cond_true, Option.some.injEq, Prod.mk.injEq] at hpv
    obtain ⟨rfl, rfl⟩ := hpv
    have hle' := Nat.le_of_ble_eq_true hle
    obtain ⟨x, y, rfl, hx, hy⟩ : ∃ x y, args' = #[x, y] ∧ VRel β (.a (.agg a)) x ∧ VRel β (.a (.agg b)) y := by
      obtain ⟨l⟩ := args'
      match l, ha with
      | [x, y], hr => exact ⟨x, y, rfl, hr.1, hr.2.1⟩
    rw [asStk_rel hfn hp hx, asStk_rel hfn hq hy]
    exact prim_kept hi (v := .tup [appA (p ++ q), .c (iC 0)]) (v' := .tuple #[strkV (bitsOf (p.map fun e => e.val β.env) ++ bitsOf (q.map fun e => e.val β.env)), .int .i64 0]) ⟨_, rfl, ⟨app_rel hfn (by simp [bitsOf]), rfl, trivial⟩⟩
      (joinOf (laid_base hbase hi) (bitsOf (p.map fun e => e.val β.env)) (bitsOf (q.map fun e => e.val β.env)) (by simp [bitsOf]; omega))

theorem primsMg (d : Nat → Option DT) (o : Nat → Option (List C)) (B : Nat) : PrimsOk (cxW primM fnsF d o) prog B := by
  intro f p hp fl β st w args args' v st' hi hfl ha hpv
  simp only [cxW, primM] at hp
  cases h15 : Nat.beq f 15 with
  | true =>
    rw [h15] at hp
    simp only [cond_true, Option.some.injEq] at hp; subst hp
    have := Nat.eq_of_beq_eq_true h15; subst this
    unfold pAwake at hpv
    split at hpv
    · simp only [Option.some.injEq, Prod.mk.injEq] at hpv
      obtain ⟨rfl, rfl⟩ := hpv
      obtain rfl : args' = #[] := by
        obtain ⟨l⟩ := args'
        match l, ha with
        | [], _ => rfl
      exact prim_kept hi (v' := .bool true) rfl (awake (laid_base (cx' := cxW primM fnsF d o) rfl hi))
    · cases hpv
  | false =>
  rw [h15] at hp
  simp only [cond_false] at hp
  cases h39 : Nat.beq f 39 with
  | true =>
    rw [h39] at hp
    simp only [cond_true, Option.some.injEq] at hp; subst hp
    have := Nat.eq_of_beq_eq_true h39; subst this
    exact pStreakM_ok (cx' := cxW primM fnsF d o) rfl rfl hi ha hpv
  | false =>
  rw [h39] at hp
  simp only [cond_false] at hp
  cases h40 : Nat.beq f 40 with
  | true =>
    rw [h40] at hp
    simp only [cond_true, Option.some.injEq] at hp; subst hp
    have := Nat.eq_of_beq_eq_true h40; subst this
    exact pJoin_ok (cx' := cxW primM fnsF d o) rfl rfl hi ha hpv
  | false =>
  rw [h40] at hp
  simp only [cond_false] at hp
  cases h44 : Nat.beq f 44 with
  | true =>
    rw [h44] at hp
    simp only [cond_true, Option.some.injEq] at hp; subst hp
    exact pCheck_ok (cx' := cxW primM fnsF d o) rfl rfl (.inl (Nat.eq_of_beq_eq_true h44)) hi ha hpv
  | false =>
    rw [h44] at hp
    simp only [cond_false] at hp
    have := primsOkG (cx' := cxW cx.prim fnsF d o) rfl rfl B f p hp fl β st w args args' v st' (Inv.to (cx := cxW primM fnsF d o) (cx' := cxW cx.prim fnsF d o) rfl rfl ⟨hi.facts.known, hi.facts.fns, hi.facts.defs, hi.facts.base, hi.facts.outer⟩ hi) hfl ha hpv
    exact this.mono fun v' w' ⟨β', q1, q2⟩ => ⟨β', q1, Good.to (cx := cxW cx.prim fnsF d o) (cx' := cxW primM fnsF d o) rfl rfl ⟨q2.inv.facts.known, q2.inv.facts.fns, q2.inv.facts.defs, q2.inv.facts.base, q2.inv.facts.outer⟩ q2⟩
theorem primsM (n : Nat) (B : Nat) : PrimsOk (cxM n) prog B := primsMg _ _ B
end Go.Proofs.Tryz
