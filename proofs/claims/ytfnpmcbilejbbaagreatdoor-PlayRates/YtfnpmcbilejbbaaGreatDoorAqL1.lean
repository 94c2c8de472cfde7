/- On the play seat's program: PlayRates comes back with true from every input, and what was in memory is as it was. -/
import Derived.Test.YtfnpmcbilejbbaaGreatDoorAqC
namespace Go.Proofs.Tryz
open Go Go.Am Go.Gc
set_option maxRecDepth 100000

def kA2 : E := appE 2 [sN, sD]
def kB2 : E := appE 2 [sC, sE4]
def kA3 : E := appE 3 [sN, sD]
def kA4 : E := appE 4 [sN, sD]
def kA5 : E := appE 5 [sN, sD]
def kA6 : E := appE 6 [sN, sD, sC, sE4]
def kA7 : E := appE 7 [sN, sD, sC, sE4]
def kA8 : E := appE 8 [sN, sD, sC, sE4]
def sgn (b : Bool) (e : E) : E := bif b then e else eNeg e
def gE (p q : Bool) : E := appE 1 [sgn p sN, sgn q sD]
def rBad : Asg := [(.eq kA5 (L 0), false), (.eq (wE kA5) kA5, true), (.eq kA3 (L 0), true), (.eq kA4 (L 0), true)]
def rOk (p q : Bool) : Asg := [(.eq kA5 (L 0), true), (.eq (wE kA5) kA5, true), (.le (L 0) sN, p), (.le (L 0) sD, q), (.eq (gE p q) (L 0), false), (.eq kA3 (wE (.quo (sgn q sN) (gE p q))), true), (.eq kA4 (wE (.quo (sgn q sD) (gE p q))), true)]
def cOk : Asg := [(.eq kA2 (L 0), true), (.eq kB2 (L 0), true), (.eq (wE kA2) kA2, true), (.eq kA6 kA8, true), (.eq kA7 (L 0), true)]
def cOne : Asg := [(.eq kA2 (L 0), false), (.eq (wE kA2) kA2, true), (.eq kA6 (L 0), true), (.eq kA7 kA2, true)]
def cTwo : Asg := [(.eq kA2 (L 0), true), (.eq kB2 (L 0), false), (.eq (wE kA2) kA2, true), (.eq kA6 (L 0), true), (.eq kA7 kB2, true)]
noncomputable def runRates (l : Asg) : Bool := runLaw 3 l [ratioV sN sD, ratioV sC sE4]

theorem rates00 : runRates (rBad ++ cOk) = true := by kernel_rfl
theorem rates01 : runRates (rBad ++ cOne) = true := by kernel_rfl
theorem rates02 : runRates (rBad ++ cTwo) = true := by kernel_rfl
theorem rates10 : runRates (rOk true true ++ cOk) = true := by kernel_rfl
theorem rates11 : runRates (rOk true true ++ cOne) = true := by kernel_rfl
theorem rates12 : runRates (rOk true true ++ cTwo) = true := by kernel_rfl
theorem rates20 : runRates (rOk true false ++ cOk) = true := by kernel_rfl
theorem rates21 : runRates (rOk true false ++ cOne) = true := by kernel_rfl
theorem rates22 : runRates (rOk true false ++ cTwo) = true := by kernel_rfl
theorem rates30 : runRates (rOk false true ++ cOk) = true := by kernel_rfl
theorem rates31 : runRates (rOk false true ++ cOne) = true := by kernel_rfl
theorem rates32 : runRates (rOk false true ++ cTwo) = true := by kernel_rfl
theorem rates40 : runRates (rOk false false ++ cOk) = true := by kernel_rfl
theorem rates41 : runRates (rOk false false ++ cOne) = true := by kernel_rfl
theorem rates42 : runRates (rOk false false ++ cTwo) = true := by kernel_rfl

theorem rates_ok (p q : Bool) : runRates (rOk p q ++ cOk) = true ∧ runRates (rOk p q ++ cOne) = true ∧ runRates (rOk p q ++ cTwo) = true := by
  cases p <;> cases q
  · exact ⟨rates40, rates41, rates42⟩
  · exact ⟨rates30, rates31, rates32⟩
  · exact ⟨rates20, rates21, rates22⟩
  · exact ⟨rates10, rates11, rates12⟩

section
variable {ρ : Env}
theorem h_eq {a b : E} (h : a.val ρ = b.val ρ) : (Tst.eq a b).holds ρ = true := by simp only [Tst.holds, h, beq_self_eq_true]
theorem h_ne {a b : E} (h : a.val ρ ≠ b.val ρ) : (Tst.eq a b).holds ρ = false := by simp only [Tst.holds, beq_eq_false_iff_ne]; exact h
theorem h_le {a b : E} (h : a.val ρ ≤ b.val ρ) : (Tst.le a b).holds ρ = true := by simp only [Tst.holds, decide_eq_true_eq]; exact h
theorem h_lt {a b : E} (h : ¬ a.val ρ ≤ b.val ρ) : (Tst.le a b).holds ρ = false := by simp only [Tst.holds, decide_eq_false_iff_not]; exact h
theorem asgN : AsgOk ρ [] := fun _ hp => nomatch hp
theorem asgC {t : Tst} {b : Bool} {l : Asg} (h : t.holds ρ = b) (hl : AsgOk ρ l) : AsgOk ρ ((t, b) :: l) := fun p hp => by
  rcases List.mem_cons.1 hp with rfl | hp
  · exact h
  · exact hl p hp
theorem asgA {l m : Asg} (hl : AsgOk ρ l) (hm : AsgOk ρ m) : AsgOk ρ (l ++ m) := fun p hp => by
  rcases List.mem_append.1 hp with h | h
  · exact hl p h
  · exact hm p h
end

section
variable {w : World} {a b c d : Int}
theorem u_a2 : kA2.val (ρ4 w a b c d) = chk a b := by unfold kA2; rw [appE_val]; rfl
theorem u_b2 : kB2.val (ρ4 w a b c d) = chk c d := by unfold kB2; rw [appE_val]; rfl
theorem u_a3 : kA3.val (ρ4 w a b c d) = rtN a b := by unfold kA3; rw [appE_val]; rfl
theorem u_a4 : kA4.val (ρ4 w a b c d) = rtD a b := by unfold kA4; rw [appE_val]; rfl
theorem u_a5 : kA5.val (ρ4 w a b c d) = rtE a b := by unfold kA5; rw [appE_val]; rfl
theorem u_a6 : kA6.val (ρ4 w a b c d) = cmV a b c d := by unfold kA6; rw [appE_val]; rfl
theorem u_a7 : kA7.val (ρ4 w a b c d) = cmE a b c d := by unfold kA7; rw [appE_val]; rfl
theorem u_a8 : kA8.val (ρ4 w a b c d) = sgw a b c d := by unfold kA8; rw [appE_val]; rfl

theorem w_rtE : w64 (rtE a b) = rtE a b := by rcases rtE_cases a b with h | h | h <;> rw [h] <;> exact wrap_id (by omega) (by omega)
theorem w_chk : w64 (chk a b) = chk a b := by rcases chk_cases a b with h | h | h <;> rw [h] <;> exact wrap_id (by omega) (by omega)

theorem rBad_ok (h : rtE a b ≠ 0) : AsgOk (ρ4 w a b c d) rBad := by
  refine asgC (h_ne ?_) (asgC (h_eq ?_) (asgC (h_eq ?_) (asgC (h_eq ?_) asgN)))
  · rw [u_a5, val_L]; exact h
  · rw [val_wE, u_a5, w_rtE]
  · rw [u_a3, val_L, rtN, if_neg h]
  · rw [u_a4, val_L, rtD, if_neg h]

theorem sgn_val (e : E) (p : Bool) {x : Int} (hx : e.val (ρ4 w a b c d) = x) (hb : x.natAbs ≤ 999999999) : (sgn p e).val (ρ4 w a b c d) = if p = true then x else -x := by
  cases p with
  | true => simp only [sgn, cond_true, hx, if_true]
  | false =>
    simp only [sgn, cond_false, val_neg, hx, Bool.false_eq_true, if_false]
    rw [show w64 (0 - x) = 0 - x from wrap_id (by omega) (by omega)]; omega

theorem rOk_ok (h : rtE a b = 0) : AsgOk (ρ4 w a b c d) (rOk (decide (0 ≤ a)) (decide (0 ≤ b))) := by
  obtain ⟨h1, h2, h3, h4, h5⟩ := rtE_zero h
  have hg : (gE (decide (0 ≤ a)) (decide (0 ≤ b))).val (ρ4 w a b c d) = Nat.gcd a.natAbs b.natAbs := by
    unfold gE
    rw [appE_val]
    show euc ((sgn _ sN).val _) ((sgn _ sD).val _) = _
    rw [sgn_val sN _ (x := a) rfl (by omega), sgn_val sD _ (x := b) rfl (by omega)]
    simp only [decide_eq_true_eq]
    apply euc_abs'
    · split <;> omega
    · split <;> omega
    · split <;> omega
    · split <;> omega
  have hp := gcd_pos a b h5
  have key : ∀ (e : E) (x : Int), e.val (ρ4 w a b c d) = x → x.natAbs ≤ 999999999 → (wE (.quo (sgn (decide (0 ≤ b)) e) (gE (decide (0 ≤ a)) (decide (0 ≤ b))))).val (ρ4 w a b c d) = if b < 0 then (-x).tdiv (Nat.gcd a.natAbs b.natAbs) else x.tdiv (Nat.gcd a.natAbs b.natAbs) := by
    intro e x hx hb
    rw [val_wE, val_quo, hg, sgn_val e _ hx hb]
    simp only [decide_eq_true_eq]
    by_cases hn : b < 0
    · have t := tdiv_bound (-x) (Nat.gcd a.natAbs b.natAbs)
      rw [if_neg (show ¬ 0 ≤ b by omega), if_pos hn]
      exact wrap_id (by omega) (by omega)
    · have t := tdiv_bound x (Nat.gcd a.natAbs b.natAbs)
      rw [if_pos (show 0 ≤ b by omega), if_neg hn]
      exact wrap_id (by omega) (by omega)
  refine asgC (h_eq ?_) (asgC (h_eq ?_) (asgC ?_ (asgC ?_ (asgC (h_ne ?_) (asgC (h_eq ?_) (asgC (h_eq ?_) asgN))))))
  · rw [u_a5, val_L]; exact h
  · rw [val_wE, u_a5, w_rtE]
  · rfl
  · rfl
  · rw [hg, val_L]; omega
  · rw [u_a3, rtN, if_pos h, key sN a rfl (by omega)]
  · rw [u_a4, rtD, if_pos h, key sD b rfl (by omega)]

theorem cOk_ok (h1 : chk a b = 0) (h2 : chk c d = 0) : AsgOk (ρ4 w a b c d) cOk := by
  have e : cmE a b c d = 0 := by rw [cmE, if_pos h1, h2]
  refine asgC (h_eq ?_) (asgC (h_eq ?_) (asgC (h_eq ?_) (asgC (h_eq ?_) (asgC (h_eq ?_) asgN))))
  · rw [u_a2, val_L]; exact h1
  · rw [u_b2, val_L]; exact h2
  · rw [val_wE, u_a2, w_chk]
  · rw [u_a6, u_a8, cmV, if_pos e, sgw_sg h1 h2]
  · rw [u_a7, e]; rfl

theorem cOne_ok (h1 : chk a b ≠ 0) : AsgOk (ρ4 w a b c d) cOne := by
  have e : cmE a b c d = chk a b := by rw [cmE, if_neg h1]
  refine asgC (h_ne ?_) (asgC (h_eq ?_) (asgC (h_eq ?_) (asgC (h_eq ?_) asgN)))
  · rw [u_a2, val_L]; exact h1
  · rw [val_wE, u_a2, w_chk]
  · rw [u_a6, cmV, e, if_neg h1]; rfl
  · rw [u_a7, e, u_a2]

theorem cTwo_ok (h1 : chk a b = 0) (h2 : chk c d ≠ 0) : AsgOk (ρ4 w a b c d) cTwo := by
  have e : cmE a b c d = chk c d := by rw [cmE, if_pos h1]
  refine asgC (h_eq ?_) (asgC (h_ne ?_) (asgC (h_eq ?_) (asgC (h_eq ?_) (asgC (h_eq ?_) asgN))))
  · rw [u_a2, val_L]; exact h1
  · rw [u_b2, val_L]; exact h2
  · rw [val_wE, u_a2, w_chk]
  · rw [u_a6, cmV, e, if_neg h2]; rfl
  · rw [u_a7, e, u_b2]

theorem rates_law (a b c d : Int) (w : World) (h : Laid w) : CallRet prog 3 #[.agg #[vi a, vi b], .agg #[vi c, vi d]] w fun v' w' => v' = .bool true ∧ Kept w w' := by
  have fin : ∀ l, runRates l = true → AsgOk (ρ4 w a b c d) l → CallRet prog 3 #[.agg #[vi a, vi b], .agg #[vi c, vi d]] w fun v' w' => v' = .bool true ∧ Kept w w' := fun l hk hl =>
    law_ret (ρ := ρ4 w a b c d) (args' := #[.agg #[vi a, vi b], .agg #[vi c, vi d]]) hk h rfl rfl hl ⟨ratio_rel rfl rfl, ratio_rel rfl rfl, trivial⟩
  by_cases hr : rtE a b = 0
  · obtain ⟨sQ, q1, q2⟩ := rates_ok (decide (0 ≤ a)) (decide (0 ≤ b))
    by_cases h1 : chk a b = 0
    · by_cases h2 : chk c d = 0
      · exact fin _ sQ (asgA (rOk_ok hr) (cOk_ok h1 h2))
      · exact fin _ q2 (asgA (rOk_ok hr) (cTwo_ok h1 h2))
    · exact fin _ q1 (asgA (rOk_ok hr) (cOne_ok h1))
  · by_cases h1 : chk a b = 0
    · by_cases h2 : chk c d = 0
      · exact fin _ rates00 (asgA (rBad_ok hr) (cOk_ok h1 h2))
      · exact fin _ rates02 (asgA (rBad_ok hr) (cTwo_ok h1 h2))
    · exact fin _ rates01 (asgA (rBad_ok hr) (cOne_ok h1))
end
end Go.Proofs.Tryz
