/- On the season seat's program: Join's contract; the context in which SeasonMonoid is run. -/
import Derived.Test.YtbfonnoebbjenaaGreatDoorAmM1
namespace Go.Proofs.Tryz
open Go Go.Am
set_option maxRecDepth 100000

theorem pCheck_ok {cx' : Cx} (hfn : cx'.fns = fnsF) (hbase : cx'.base = cx.base) {f : FuncId} (h44 : f = 44 ∨ f = 42) {B fl : Nat} {β : Be} {st : St} {w : World} {args : List V} {args' : Array Value} {v : V} {st' : St}
    (hi : Inv cx' B β st w) (ha : All2 (VRel β) args args'.toList) (hpv : pCheck fl args st = some (v, st')) : CallRet prog f args' w fun v' w' => ∃ β', VRel β' v v' ∧ Good cx' B fl β st w β' st' w' := by
  have hL : Laid w := laid_base hbase hi
  unfold pCheck at hpv
  split at hpv
  case h_2 => cases hpv
  rename_i a b c d
  split at hpv
  case h_2 => cases hpv
  rename_i ea eb ec ed ha1 hb1 hc1 hd1
  simp only [Option.some.injEq, Prod.mk.injEq] at hpv
  obtain ⟨rfl, rfl⟩ := hpv
  obtain ⟨x', rfl, hx1⟩ : ∃ x', args' = #[x'] ∧ VRel β (.a (.agg [a, b, c, d])) x' := by
    obtain ⟨l⟩ := args'
    match l, ha with
    | [x'], hr => exact ⟨x', rfl, hr.1⟩
  obtain ⟨⟨arr⟩, rfl, q, _⟩ := hx1
  match arr, q with
  | [a', b', c', d'], ⟨q1, q2, q3, q4, _⟩ =>
    have e1 := intE_rel q1 ha1
    have e2 := intE_rel q2 hb1
    have e3 := intE_rel q3 hc1
    have e4 := intE_rel q4 hd1
    subst e1 e2 e3 e4
    have hv : VRel β (.a (.c (.sy .i64 (.app 20 (consE [ea, eb, ec, ed]))))) (.int .i64 (checkF (ea.val β.env) (eb.val β.env) (ec.val β.env) (ed.val β.env))) := by
      show Value.int _ _ = Value.int _ _
      congr 1
      have : E.val β.env (.app 20 (consE [ea, eb, ec, ed])) = β.env.f 20 ((consE [ea, eb, ec, ed]).vals β.env) := rfl
      rw [this, hi.facts.fns, hfn, consE_vals]; rfl
    rcases h44 with rfl | rfl
    · exact prim_kept hi hv (run_check checkRun44 hL _ _ _ _)
    · exact prim_kept hi hv (run_check checkRun42 hL _ _ _ _)

theorem primsJ (B : Nat) : PrimsOk cxJ prog B := by
  intro f p hp fl β st w args args' v st' hi hfl ha hpv
  simp only [cxJ, cxW, primJ] at hp
  cases h44 : Nat.beq f 44 with
  | true =>
    rw [h44] at hp
    simp only [cond_true, Option.some.injEq] at hp; subst hp
    exact pCheck_ok (cx' := cxJ) rfl rfl (.inl (Nat.eq_of_beq_eq_true h44)) hi ha hpv
  | false =>
    rw [h44] at hp
    simp only [cond_false] at hp
    have := primsOkG (cx' := cxW cx.prim fnsF noDefs noRows) rfl rfl B f p hp fl β st w args args' v st' (Inv.to (cx := cxJ) (cx' := cxW cx.prim fnsF noDefs noRows) rfl rfl ⟨hi.facts.known, hi.facts.fns, hi.facts.defs, hi.facts.base, hi.facts.outer⟩ hi) hfl ha hpv
    exact this.mono fun v' w' ⟨β', q1, q2⟩ => ⟨β', q1, Good.to (cx := cxW cx.prim fnsF noDefs noRows) (cx' := cxJ) rfl rfl ⟨q2.inv.facts.known, q2.inv.facts.fns, q2.inv.facts.defs, q2.inv.facts.base, q2.inv.facts.outer⟩ q2⟩

theorem join_run {w : World} (h : Laid w) (x0 x1 x2 x3 y0 y1 y2 y3 : Int) (hx : checkF x0 x1 x2 x3 = 0) (hy : checkF y0 y1 y2 y3 = 0) (hs : IntKind.wrap .i64 (x0 + y0) ≤ 999999999) :
    CallRet prog 40 #[.agg #[.int .i64 x0, .int .i64 x1, .int .i64 x2, .int .i64 x3], .agg #[.int .i64 y0, .int .i64 y1, .int .i64 y2, .int .i64 y3]] w fun v' w' =>
      v' = .tuple #[.agg #[.int .i64 (IntKind.wrap .i64 (x0 + y0)), .int .i64 (if x1 = x0 then IntKind.wrap .i64 (x0 + y1) else x1), .int .i64 (if y2 = y0 then IntKind.wrap .i64 (y0 + x2) else y2),
        .int .i64 (let m := if y3 > x3 then y3 else x3; if IntKind.wrap .i64 (x2 + y1) > m then IntKind.wrap .i64 (x2 + y1) else m)], .int .i64 0] ∧ Kept w w' := by
  let ρ : Env := ⟨fun n => [x0, x1, x2, x3, y0, y1, y2, y3].getD n 0, fnsF, fun _ => (0, 0), memOf w⟩
  have hi : Inv cxJ w.heap.size ⟨fun _ => none, ρ⟩ ⟨.nil, 0⟩ w := inv0 ρ rfl rfl (fun m x hx => by cases hx) h (fun k l hk => by cases hk)
  have hasg : AsgOk ρ asgJ := by
    intro p hp
    simp only [asgJ, List.mem_cons, List.not_mem_nil, or_false] at hp
    rcases hp with rfl | rfl | rfl
    · show (E.val ρ (.app 20 _) == E.val ρ (L 0)) = true
      have : E.val ρ (.app 20 (consE [xV 0, xV 1, xV 2, xV 3])) = checkF x0 x1 x2 x3 := rfl
      rw [this, hx]; rfl
    · show (E.val ρ (.app 20 _) == E.val ρ (L 0)) = true
      have : E.val ρ (.app 20 (consE [yV 0, yV 1, yV 2, yV 3])) = checkF y0 y1 y2 y3 := rfl
      rw [this, hy]; rfl
    · show decide (IntKind.wrap .i64 (x0 + y0) ≤ 999999999) = true
      simpa using hs
  obtain ⟨l', h1, h2⟩ := symCallA (tl := noTails) (cx := cxJ) (l := asgJ) (ann := noAnn) (n := 100) (m := 20) (fl := 0) (args' := #[.agg #[.int .i64 x0, .int .i64 x1, .int .i64 x2, .int .i64 x3], .agg #[.int .i64 y0, .int .i64 y1, .int .i64 y2, .int .i64 y3]]) mixed cxWOk (primsJ _) rfl runJ_ok hasg (Nat.le_refl _) hi
    ⟨⟨_, rfl, ⟨rfl, rfl, rfl, rfl, trivial⟩, fun x hx => by simp at hx; rcases hx with rfl | rfl | rfl | rfl <;> rfl⟩, ⟨_, rfl, ⟨rfl, rfl, rfl, rfl, trivial⟩, fun x hx => by simp at hx; rcases hx with rfl | rfl | rfl | rfl <;> rfl⟩, trivial⟩
  refine h2.mono ?_
  rintro v' w' ⟨v, st', β', q1, q2, q3⟩
  refine ⟨?_, Kept.ofNil q3⟩
  have hβ : β'.env = ρ := q3.ext.env
  have fs : Facts (withT cxJ l') β'.env := by rw [hβ]; exact facts_with hi.facts h1
  unfold isJ at q1
  split at q1
  · rename_i a b c d e
    simp only [Bool.and_eq_true] at q1
    obtain ⟨⟨arr⟩, rfl, q5⟩ := q2
    match arr, q5 with
    | [x, y], ⟨q5, q6, _⟩ =>
      obtain ⟨⟨arr2⟩, rfl, q7, _⟩ := q5
      match arr2, q7 with
      | [a1, a2, a3, a4], ⟨e1, e2, e3, e4, _⟩ =>
        have r1 := cellIs_ok (β := β') (fun t b => ask_holds fs) q1.1.1.1.1 rfl e1
        have r2 := cellIs_ok (β := β') (fun t b => ask_holds fs) q1.1.1.1.2 rfl e2
        have r3 := cellIs_ok (β := β') (fun t b => ask_holds fs) q1.1.1.2 rfl e3
        have r4 := cellIs_ok (β := β') (fun t b => ask_holds fs) q1.1.2 rfl e4
        have r5 := is0_ok q1.2 q6
        rw [hβ] at r1 r2 r3 r4
        have v1 : j0.eval ρ = IntKind.wrap .i64 (x0 + y0) := rfl
        have v2 : j1.eval ρ = if x1 = x0 then IntKind.wrap .i64 (x0 + y1) else x1 := by
          show (bif x1 == x0 then IntKind.wrap .i64 (x0 + y1) else x1) = _
          by_cases hq : x1 = x0
          · simp [hq]
          · have hb : (x1 == x0) = false := by simpa using hq
            rw [hb, if_neg hq]; rfl
        have v3 : j2.eval ρ = if y2 = y0 then IntKind.wrap .i64 (y0 + x2) else y2 := by
          show (bif y2 == y0 then IntKind.wrap .i64 (y0 + x2) else y2) = _
          by_cases hq : y2 = y0
          · simp [hq]
          · have hb : (y2 == y0) = false := by simpa using hq
            rw [hb, if_neg hq]; rfl
        rw [r1, r2, r3, r4, r5, v1, v2, v3]
        rfl
  · cases q1

/-- Join at streaks. -/
theorem joinOf {w : World} (h : Laid w) (p q : List Bool) (hn : p.length + q.length ≤ 500) : CallRet prog 40 #[strkV p, strkV q] w fun v' w' => v' = .tuple #[strkV (p ++ q), .int .i64 0] ∧ Kept w w' := by
  have hw : ∀ x : Int, 0 ≤ x → x ≤ 2000000 → IntKind.wrap .i64 x = x := fun x h0 h1 => wrap_mid (by omega) h1
  have l1 := Stk.lead_le p
  have l2 := Stk.trail_le p
  have l3 := Stk.lead_le q
  have l4 := Stk.trail_le q
  refine (join_run h p.length (Stk.lead p) (Stk.trail p) (Stk.long p) q.length (Stk.lead q) (Stk.trail q) (Stk.long q) (check_streak p (by omega)) (check_streak q (by omega)) (by rw [hw _ (by omega) (by omega)]; omega)).mono ?_
  rintro v' w' ⟨rfl, hk⟩
  refine ⟨?_, hk⟩
  rw [hw _ (by omega) (by omega), hw _ (by omega) (by omega), hw _ (by omega) (by omega), hw _ (by omega) (by omega)]
  simp only [strkV, Stk.lead_append, Stk.trail_append, Stk.long_append, List.length_append]
  have e2 : (if (Stk.lead p : Int) = (p.length : Int) then (p.length : Int) + (Stk.lead q : Int) else (Stk.lead p : Int)) = ((if Stk.lead p = p.length then p.length + Stk.lead q else Stk.lead p : Nat) : Int) := by
    by_cases hq : Stk.lead p = p.length
    · simp [hq]
    · rw [if_neg (by omega), if_neg hq]
  have e3 : (if (Stk.trail q : Int) = (q.length : Int) then (q.length : Int) + (Stk.trail p : Int) else (Stk.trail q : Int)) = ((if Stk.trail q = q.length then q.length + Stk.trail p else Stk.trail q : Nat) : Int) := by
    by_cases hq : Stk.trail q = q.length
    · simp [hq]
    · rw [if_neg (by omega), if_neg hq]
  have e4 : (let m := if (Stk.long q : Int) > (Stk.long p : Int) then (Stk.long q : Int) else (Stk.long p : Int); if (Stk.trail p : Int) + (Stk.lead q : Int) > m then (Stk.trail p : Int) + (Stk.lead q : Int) else m) = ((max (max (Stk.long p) (Stk.long q)) (Stk.trail p + Stk.lead q) : Nat) : Int) := by
    simp only
    split <;> split <;> omega
  rw [e2, e3, e4]
  simp
end Go.Proofs.Tryz
