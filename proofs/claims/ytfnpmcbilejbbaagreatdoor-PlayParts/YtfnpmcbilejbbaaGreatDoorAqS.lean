/- On the play seat's program: CheckRatio and Rate, and the reference's, answer as the plain laws say. -/
import Derived.Test.YtfnpmcbilejbbaaGreatDoorAqR
namespace Go.Proofs.Tryz
open Go Go.Am Go.Gc
set_option maxRecDepth 100000

section
variable {ρ : Env}
theorem ev_leaf (e : E) : (DT.leaf e).eval ρ = e.val ρ := rfl
theorem ev_le (a b : E) (x y : DT) : (DT.node (.le a b) x y).eval ρ = if a.val ρ ≤ b.val ρ then x.eval ρ else y.eval ρ := by
  simp only [DT.eval, Tst.holds]
  by_cases h : a.val ρ ≤ b.val ρ <;> simp [h]
theorem ev_eq (a b : E) (x y : DT) : (DT.node (.eq a b) x y).eval ρ = if a.val ρ = b.val ρ then x.eval ρ else y.eval ρ := by
  simp only [DT.eval, Tst.holds]
  by_cases h : a.val ρ = b.val ρ
  · simp [h]
  · rw [if_neg h, beq_eq_false_iff_ne.2 h]; rfl
theorem val_L (n : Int) : (L n).val ρ = n := rfl
theorem val_wE (e : E) : (wE e).val ρ = w64 (e.val ρ) := rfl
theorem val_neg (e : E) : (eNeg e).val ρ = w64 (0 - e.val ρ) := rfl
theorem val_quo (a b : E) : (E.quo a b).val ρ = (a.val ρ).tdiv (b.val ρ) := rfl
theorem val_mul (a b : E) : (E.mul a b).val ρ = a.val ρ * b.val ρ := rfl
theorem val_add (a b : E) : (E.add a b).val ρ = a.val ρ + b.val ρ := rfl
end

theorem ratio_rel {β : Be} {a b : E} {x y : Int} (h1 : a.val β.env = x) (h2 : b.val β.env = y) : VRel β (ratioV a b) (.agg #[vi x, vi y]) := by
  subst h1 h2
  exact ⟨_, rfl, ⟨rfl, rfl, trivial⟩, fun z hz => by simp at hz; rcases hz with rfl | rfl <;> rfl⟩
theorem sE_rel {β : Be} {a : E} {x : Int} (h : a.val β.env = x) : VRel β (sE a) (vi x) := by subst h; rfl

section
variable {q : FuncId → Option PT} {f : FuncId} {l0 : Asg} {args : List V} {args' : Array Value} {w : World} {ρ : Env}

theorem inv1 (h : Laid w) (hm : ρ.mem = memOf w) (hf : ρ.f = fnsQ) : Inv (cxW q fnsQ noDefs noRows) w.heap.size ⟨fun _ => none, ρ⟩ ⟨.nil, 0⟩ w :=
  inv0 ρ hm hf (fun m x hx => by cases hx) h (fun k l hk => by cases hk)

theorem run_T (hp : ∀ B, PrimsOk (cxW q fnsQ noDefs noRows) prog B) {dt : DT} (hk : runOne (cxW q fnsQ noDefs noRows) f l0 args (fun l => isT (cxW q fnsQ noDefs noRows) l dt) = true) (h : Laid w) (hm : ρ.mem = memOf w) (hf : ρ.f = fnsQ) (hl : AsgOk ρ l0) (ha : All2 (VRel ⟨fun _ => none, ρ⟩) args args'.toList) :
    CallRet prog f args' w fun v' w' => v' = vi (dt.eval ρ) ∧ Kept w w' := by
  have hi := inv1 (q := q) h hm hf
  obtain ⟨l', h1, h2⟩ := symL (tl := noTails) (ann := noAnn) (n := 100) (m := 60) cxWOk (hp _) rfl hk hl (Nat.le_refl _) hi ha
  refine h2.mono ?_
  rintro v' w' ⟨v, st', β', q1, q2, q3⟩
  refine ⟨?_, Kept.ofNil q3⟩
  have hβ : β'.env = ρ := q3.ext.env
  have fs : Facts (withT (cxW q fnsQ noDefs noRows) l') β'.env := by rw [hβ]; exact facts_with hi.facts h1
  unfold isT at q1
  split at q1
  · rename_i x
    rw [cellIs_ok (β := β') (fun t b => ask_holds fs) q1 rfl q2, hβ]; rfl
  · cases q1

theorem run_R (hp : ∀ B, PrimsOk (cxW q fnsQ noDefs noRows) prog B) {d1 d2 d3 : DT} (hk : runOne (cxW q fnsQ noDefs noRows) f l0 args (fun l => isR (cxW q fnsQ noDefs noRows) l d1 d2 d3) = true) (h : Laid w) (hm : ρ.mem = memOf w) (hf : ρ.f = fnsQ) (hl : AsgOk ρ l0) (ha : All2 (VRel ⟨fun _ => none, ρ⟩) args args'.toList) :
    CallRet prog f args' w fun v' w' => v' = .tuple #[.agg #[vi (d1.eval ρ), vi (d2.eval ρ)], vi (d3.eval ρ)] ∧ Kept w w' := by
  have hi := inv1 (q := q) h hm hf
  obtain ⟨l', h1, h2⟩ := symL (tl := noTails) (ann := noAnn) (n := 100) (m := 60) cxWOk (hp _) rfl hk hl (Nat.le_refl _) hi ha
  refine h2.mono ?_
  rintro v' w' ⟨v, st', β', q1, q2, q3⟩
  refine ⟨?_, Kept.ofNil q3⟩
  have hβ : β'.env = ρ := q3.ext.env
  have fs : Facts (withT (cxW q fnsQ noDefs noRows) l') β'.env := by rw [hβ]; exact facts_with hi.facts h1
  unfold isR at q1
  split at q1
  · rename_i x y z
    simp only [Bool.and_eq_true] at q1
    obtain ⟨arr, rfl, hr⟩ := q2
    obtain ⟨arr⟩ := arr
    match arr, hr with
    | [u, v], hr =>
      obtain ⟨⟨kA2, rfl, ha2, _⟩, hz, _⟩ := hr
      obtain ⟨kA2⟩ := kA2
      match kA2, ha2 with
      | [x', y'], ha2 =>
        rw [cellIs_ok (β := β') (fun t b => ask_holds fs) q1.1.1 rfl ha2.1, cellIs_ok (β := β') (fun t b => ask_holds fs) q1.1.2 rfl ha2.2.1, cellIs_ok (β := β') (fun t b => ask_holds fs) q1.2 rfl hz, hβ]; rfl
  · cases q1

theorem run_P (hp : ∀ B, PrimsOk (cxW q fnsQ noDefs noRows) prog B) {d1 d2 : DT} (hk : runOne (cxW q fnsQ noDefs noRows) f l0 args (fun l => isP (cxW q fnsQ noDefs noRows) l d1 d2) = true) (h : Laid w) (hm : ρ.mem = memOf w) (hf : ρ.f = fnsQ) (hl : AsgOk ρ l0) (ha : All2 (VRel ⟨fun _ => none, ρ⟩) args args'.toList) :
    CallRet prog f args' w fun v' w' => v' = .tuple #[vi (d1.eval ρ), vi (d2.eval ρ)] ∧ Kept w w' := by
  have hi := inv1 (q := q) h hm hf
  obtain ⟨l', h1, h2⟩ := symL (tl := noTails) (ann := noAnn) (n := 100) (m := 60) cxWOk (hp _) rfl hk hl (Nat.le_refl _) hi ha
  refine h2.mono ?_
  rintro v' w' ⟨v, st', β', q1, q2, q3⟩
  refine ⟨?_, Kept.ofNil q3⟩
  have hβ : β'.env = ρ := q3.ext.env
  have fs : Facts (withT (cxW q fnsQ noDefs noRows) l') β'.env := by rw [hβ]; exact facts_with hi.facts h1
  unfold isP at q1
  split at q1
  · rename_i x y
    simp only [Bool.and_eq_true] at q1
    obtain ⟨arr, rfl, hr⟩ := q2
    obtain ⟨arr⟩ := arr
    match arr, hr with
    | [u, v], hr =>
      have hu : CRel β' x u := hr.1
      have hv : CRel β' y v := hr.2.1
      rw [cellIs_ok (β := β') (fun t b => ask_holds fs) q1.1 rfl hu, cellIs_ok (β := β') (fun t b => ask_holds fs) q1.2 rfl hv, hβ]; rfl
  · cases q1
end

theorem primsG (B : Nat) : PrimsOk cxG prog B := tokG B

section
variable {w : World} {n d : Int}
theorem v_n0 : sN.val (ρ2 w n d) = n := rfl
theorem v_d0 : sD.val (ρ2 w n d) = d := rfl
theorem v_mn : sMn.val (ρ2 w n d) = -999999999 := rfl
theorem v_mx : sMx.val (ρ2 w n d) = 999999999 := rfl
theorem v_g0 : sG.val (ρ2 w n d) = divI n d := by unfold sG; rw [appE_val]; rfl
theorem v_e1 (a b : E) : (appE 1 [a, b]).val (ρ2 w n d) = euc (a.val (ρ2 w n d)) (b.val (ρ2 w n d)) := by rw [appE_val]; rfl

theorem check_ev : checkT.eval (ρ2 w n d) = chk n d := by
  simp only [checkT, dLf, ev_le, ev_eq, ev_leaf, val_L, v_n0, v_d0, v_mn, v_mx, v_g0]
  unfold chk
  by_cases h1 : -999999999 ≤ n
  · by_cases h2 : n ≤ 999999999
    · by_cases h3 : 1 ≤ d
      · by_cases h4 : d ≤ 999999999
        · rw [divI_gcd n d (by omega) (by omega)]
          simp only [if_pos h1, if_pos h2, if_pos h3, if_pos h4]
          by_cases h5 : Nat.gcd n.natAbs d.natAbs = 1
          · rw [if_pos h5, if_pos (by omega)]
          · rw [if_neg h5, if_neg (by omega)]
        · simp only [if_pos h1, if_pos h2, if_pos h3, if_neg h4]
      · simp only [if_pos h1, if_pos h2, if_neg h3]
    · simp only [if_pos h1, if_neg h2]
  · simp only [if_neg h1]

theorem checkR_ev : checkRT.eval (ρ2 w n d) = chk n d := by
  simp only [checkRT, dLf, ev_le, ev_eq, ev_leaf, val_L, v_n0, v_d0, v_mn, v_mx, v_e1, val_neg]
  unfold chk
  by_cases h1 : -999999999 ≤ n
  · by_cases h2 : n ≤ 999999999
    · by_cases h3 : 1 ≤ d
      · by_cases h4 : d ≤ 999999999
        · simp only [if_pos h1, if_pos h2, if_pos h3, if_pos h4]
          have e : ∀ a : Int, 0 ≤ a → a.natAbs = n.natAbs → ((if euc a d = 1 then 0 else 1 : Int) = if Nat.gcd n.natAbs d.natAbs = 1 then 0 else 1) := fun a ha hn => by
            rw [euc_abs' a d ha (by omega) hn rfl]
            by_cases h5 : Nat.gcd n.natAbs d.natAbs = 1
            · rw [if_pos h5, if_pos (by omega)]
            · rw [if_neg h5, if_neg (by omega)]
          by_cases h0 : 0 ≤ n
          · rw [if_pos h0]; exact e n h0 rfl
          · rw [if_neg h0, show w64 (0 - n) = 0 - n from wrap_id (by omega) (by omega)]
            exact e (0 - n) (by omega) (by omega)
        · simp only [if_pos h1, if_pos h2, if_pos h3, if_neg h4]
      · simp only [if_pos h1, if_pos h2, if_neg h3]
    · simp only [if_pos h1, if_neg h2]
  · simp only [if_neg h1]

theorem rateE_ev : rateET.eval (ρ2 w n d) = rtE n d := by
  simp only [rateET, dLf, ev_le, ev_eq, ev_leaf, val_L, v_n0, v_d0, v_mn, v_mx]
  rfl

theorem quo_ev (x : E) (xv : Int) (hx : x.val (ρ2 w n d) = xv) (hb : rtE n d = 0 → -999999999 ≤ xv ∧ xv ≤ 999999999) : (quoT x).eval (ρ2 w n d) = if rtE n d = 0 then (if d < 0 then (-xv).tdiv (Nat.gcd n.natAbs d.natAbs) else xv.tdiv (Nat.gcd n.natAbs d.natAbs)) else 0 := by
  simp only [quoT, rateT, dLf, ev_le, ev_eq, ev_leaf, val_L, v_n0, v_d0, v_mn, v_mx, val_wE, val_quo, val_neg, v_g0, hx]
  by_cases h1 : -999999999 ≤ n
  · by_cases h2 : n ≤ 999999999
    · by_cases h3 : -999999999 ≤ d
      · by_cases h4 : d ≤ 999999999
        · by_cases h5 : d = 0
          · have e : rtE n d ≠ 0 := by simp only [rtE, if_pos h1, if_pos h2, if_pos h3, if_pos h4, if_pos h5]; omega
            rw [if_neg e]
            simp only [if_pos h1, if_pos h2, if_pos h3, if_pos h4, if_pos h5]
          · have e := rtE_of h1 h2 h3 h4 h5
            simp only [if_pos h1, if_pos h2, if_pos h3, if_pos h4, if_neg h5, if_pos e]
            by_cases h6 : 0 ≤ d
            · rw [if_pos h6, if_neg (by omega), quo_pos xv n d (hb e) h5 (by omega)]
            · rw [if_neg h6, if_pos (by omega), quo_neg xv n d (hb e) h5 (by omega)]
        · have e : rtE n d ≠ 0 := by simp only [rtE, if_pos h1, if_pos h2, if_pos h3, if_neg h4]; omega
          simp only [if_pos h1, if_pos h2, if_pos h3, if_neg h4, if_neg e]
      · have e : rtE n d ≠ 0 := by simp only [rtE, if_pos h1, if_pos h2, if_neg h3]; omega
        simp only [if_pos h1, if_pos h2, if_neg h3, if_neg e]
    · have e : rtE n d ≠ 0 := by simp only [rtE, if_pos h1, if_neg h2]; omega
      simp only [if_pos h1, if_neg h2, if_neg e]
  · have e : rtE n d ≠ 0 := by simp only [rtE, if_neg h1]; omega
    simp only [if_neg h1, if_neg e]

theorem check_ret (n d : Int) (w : World) (h : Laid w) : CallRet prog 14 #[.agg #[vi n, vi d]] w fun v' w' => v' = vi (chk n d) ∧ Kept w w' := by
  have := run_T (ρ := ρ2 w n d) (args' := #[.agg #[vi n, vi d]]) primsG runCheck h rfl rfl (fun p hp => nomatch hp) ⟨ratio_rel rfl rfl, trivial⟩
  rwa [check_ev] at this
theorem checkR_ret (n d : Int) (w : World) (h : Laid w) : CallRet prog 11 #[.agg #[vi n, vi d]] w fun v' w' => v' = vi (chk n d) ∧ Kept w w' := by
  have := run_T (ρ := ρ2 w n d) (args' := #[.agg #[vi n, vi d]]) primsG runCheckR h rfl rfl (fun p hp => nomatch hp) ⟨ratio_rel rfl rfl, trivial⟩
  rwa [checkR_ev] at this
theorem rateE_ret (n d : Int) (w : World) (h : Laid w) : CallRet prog 9 #[vi n, vi d] w fun v' w' => v' = vi (rtE n d) ∧ Kept w w' := by
  have := run_T (ρ := ρ2 w n d) (args' := #[vi n, vi d]) primsG runRateE h rfl rfl (fun p hp => nomatch hp) ⟨sE_rel rfl, sE_rel rfl, trivial⟩
  rwa [rateE_ev] at this

theorem asg1 {ρ : Env} {t : Tst} {b : Bool} (h : t.holds ρ = b) : AsgOk ρ [(t, b)] := fun p hp => by rw [List.mem_singleton.1 hp]; exact h

theorem rate_ret (n d : Int) (w : World) (h : Laid w) : CallRet prog 7 #[vi n, vi d] w fun v' w' => v' = .tuple #[.agg #[vi (rtN n d), vi (rtD n d)], vi (rtE n d)] ∧ Kept w w' := by
  have e1 : (quoT sN).eval (ρ2 w n d) = rtN n d := quo_ev sN n rfl fun h => ⟨(rtE_zero h).1, (rtE_zero h).2.1⟩
  have e2 : (quoT sD).eval (ρ2 w n d) = rtD n d := quo_ev sD d rfl fun h => ⟨(rtE_zero h).2.2.1, (rtE_zero h).2.2.2.1⟩
  have fin : ∀ l0, runOne cxG 7 l0 [sE sN, sE sD] isRate = true → AsgOk (ρ2 w n d) l0 → CallRet prog 7 #[vi n, vi d] w fun v' w' => v' = .tuple #[.agg #[vi (rtN n d), vi (rtD n d)], vi (rtE n d)] ∧ Kept w w' := fun l0 hk hl => by
    have := run_R (ρ := ρ2 w n d) (args' := #[vi n, vi d]) primsG hk h rfl rfl hl ⟨sE_rel rfl, sE_rel rfl, trivial⟩
    rwa [e1, e2, rateE_ev] at this
  have le : ∀ a b : E, ¬ a.val (ρ2 w n d) ≤ b.val (ρ2 w n d) → Tst.holds (ρ2 w n d) (.le a b) = false := fun a b hab => by simp only [Tst.holds, decide_eq_false_iff_not]; exact hab
  by_cases h1 : -999999999 ≤ n
  · by_cases h2 : n ≤ 999999999
    · by_cases h3 : -999999999 ≤ d
      · by_cases h4 : d ≤ 999999999
        · by_cases h5 : d = 0
          · exact fin _ runRate4 (asg1 (by simp only [Tst.holds, v_d0, val_L, h5]; rfl))
          · refine fin _ runRate5 fun p hp => ?_
            have hg := divI_gcd n d h5 (by omega)
            have hp1 := gcd_pos n d h5
            have hp2 := gcd_le n d h5
            have hw : w64 (0 - divI n d) = 0 - divI n d := wrap_id (by omega) (by omega)
            have ne : ∀ a b : E, a.val (ρ2 w n d) ≠ b.val (ρ2 w n d) → Tst.holds (ρ2 w n d) (.eq a b) = false := fun a b hab => by simp only [Tst.holds, beq_eq_false_iff_ne]; exact hab
            simp only [List.mem_cons, List.not_mem_nil, or_false] at hp
            rcases hp with rfl | rfl | rfl
            · exact ne _ _ (by rw [v_g0, val_L]; omega)
            · exact ne _ _ (by rw [val_neg, v_g0, val_L, hw]; omega)
            · exact ne _ _ (by rw [v_d0, val_L]; exact h5)
        · exact fin _ runRate3 (asg1 (le _ _ h4))
      · exact fin _ runRate2 (asg1 (le _ _ h3))
    · exact fin _ runRate1 (asg1 (le _ _ h2))
  · exact fin _ runRate0 (asg1 (le _ _ h1))
end
end Go.Proofs.Tryz
