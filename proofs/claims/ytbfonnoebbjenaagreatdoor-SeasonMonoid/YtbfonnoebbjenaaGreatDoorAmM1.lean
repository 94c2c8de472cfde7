/- On the season seat's program: Join answers the streak of the two lists, one behind the other. -/
import Derived.Test.YtbfonnoebbjenaaGreatDoorAmL4
import Derived.Test.YtbfonnoebbjenaaGreatDoorAmStk
namespace Go.Proofs.Tryz
open Go Go.Am
set_option maxRecDepth 100000

noncomputable def primJ (f : FuncId) : Option (Nat → List V → St → Option (V × St)) := bif Nat.beq f 44 then some pCheck else cx.prim f
noncomputable def cxJ : Cx := cxW primJ fnsF noDefs noRows

def xV (j : Nat) : E := .var j
def yV (j : Nat) : E := .var (4 + j)
def argsJ : List V := [streakV (xV 0) (xV 1) (xV 2) (xV 3), streakV (yV 0) (yV 1) (yV 2) (yV 3)]
def asgJ : Asg := [(.eq (.app 20 (consE [xV 0, xV 1, xV 2, xV 3])) (L 0), true), (.eq (.app 20 (consE [yV 0, yV 1, yV 2, yV 3])) (L 0), true), (.le (pE (xV 0) (yV 0)) (L 999999999), true)]
def j0 : DT := .leaf (pE (xV 0) (yV 0))
def j1 : DT := .node (.eq (xV 1) (xV 0)) (.leaf (pE (xV 0) (yV 1))) (.leaf (xV 1))
def j2 : DT := .node (.eq (yV 2) (yV 0)) (.leaf (pE (yV 0) (xV 2))) (.leaf (yV 2))
def j3 : DT := .leaf (.max (.max (xV 3) (yV 3)) (pE (xV 2) (yV 1)))
def isJ (look : Tst → Option Bool) : V → Bool
  | .tup [.agg [a, b, c, d], .c e] => cellIs look .i64 j0 a && cellIs look .i64 j1 b && cellIs look .i64 j2 c && cellIs look .i64 j3 d && is0 e
  | _ => false
noncomputable def runJ : Bool :=
  paths 20 asgJ (askCall cxJ noAnn noTails 100 0 40 argsJ ⟨.nil, 0⟩) fun l => callF (withT cxJ l) (runA cxJ noAnn 100 noTails l) 0 40 argsJ ⟨.nil, 0⟩ fun v _ => isJ (Am.ask (withT cxJ l)) v
theorem runJ_ok : runJ = true := by kernel_rfl

theorem wrap_mid {x : Int} (h0 : -1000000 ≤ x) (h1 : x ≤ 2000000) : IntKind.wrap .i64 x = x := by
  have h : IntKind.wrap .i64 x = (if (true && decide (x % (2 : Int) ^ 64 ≥ 2 ^ 63)) = true then x % (2 : Int) ^ 64 - 2 ^ 64 else x % (2 : Int) ^ 64) := rfl
  rw [h]
  by_cases hx : 0 ≤ x
  · have e : x % (2 : Int) ^ 64 = x := Int.emod_eq_of_lt hx (by omega)
    rw [e, if_neg]
    simp; omega
  · have e : x % (2 : Int) ^ 64 = x + 2 ^ 64 := by omega
    rw [e, if_pos]
    · omega
    · simp; omega

/-- The numbers of a streak pass the check. -/
theorem check_streak (l : List Bool) (h : l.length ≤ 1000) : checkF l.length (Stk.lead l) (Stk.trail l) (Stk.long l) = 0 := by
  have l1 := Stk.lead_le_long l
  have l2 := Stk.trail_long l
  have l3 := Stk.long_le l
  obtain ⟨f1, f2⟩ := Stk.fits l
  have hval : ∀ (ρ : Env) (e : E), E.val ρ e = ((e.vals ρ).headD 0) := fun _ _ => rfl
  unfold checkF checkT
  simp only [DT.eval, Tst.holds, hval, gE, fE, aE, oE, pE, mE, okT, formT, rangeT, L, E.vals, List.headD_cons, List.getD_cons_zero, List.getD_cons_succ]
  have c1 : decide ((0 : Int) ≤ (l.length : Int)) = true := by simp
  have c2 : decide ((l.length : Int) ≤ 999999999) = true := by simp; omega
  have c3 : decide ((0 : Int) ≤ (Stk.lead l : Int)) = true := by simp
  have c4 : decide ((0 : Int) ≤ (Stk.trail l : Int)) = true := by simp
  have c5 : decide ((Stk.lead l : Int) ≤ (Stk.long l : Int)) = true := by simp; omega
  have c6 : decide ((Stk.trail l : Int) ≤ (Stk.long l : Int)) = true := by simp; omega
  have c7 : decide ((Stk.long l : Int) ≤ (l.length : Int)) = true := by simp; omega
  simp only [c1, c2, c3, c4, c5, c6, c7, cond_true]
  by_cases he : Stk.long l = l.length
  · obtain ⟨g1, g2⟩ := f1 he
    simp [he, g1, g2]
  · obtain ⟨g1, g2⟩ := f2 he
    have d1 : ((Stk.long l : Int) == (l.length : Int)) = false := by simp; omega
    rw [wrap_mid (by omega : -1000000 ≤ (Stk.lead l : Int) + (Stk.trail l : Int)) (by omega), wrap_mid (by omega : -1000000 ≤ (l.length : Int) - 1) (by omega), wrap_mid (by omega : -1000000 ≤ (l.length : Int) - 2) (by omega),
      wrap_mid (by omega : -1000000 ≤ (Stk.lead l : Int) + (Stk.trail l : Int) + (Stk.long l : Int)) (by omega)]
    have d2 : decide ((Stk.lead l : Int) + (Stk.trail l : Int) ≤ (l.length : Int) - 1) = true := by simp; omega
    simp only [d1, d2, cond_false, cond_true]
    rcases g2 with g2 | g2
    · have d3 : decide ((Stk.long l : Int) ≤ if (Stk.trail l : Int) > (Stk.lead l : Int) then (Stk.trail l : Int) else (Stk.lead l : Int)) = true := by
        simp only [decide_eq_true_eq]; split <;> omega
      simp only [d3, cond_true]
    · have d4 : decide ((Stk.lead l : Int) + (Stk.trail l : Int) + (Stk.long l : Int) ≤ (l.length : Int) - 2) = true := by simp; omega
      simp only [d4, cond_true]
      cases decide ((Stk.long l : Int) ≤ if (Stk.trail l : Int) > (Stk.lead l : Int) then (Stk.trail l : Int) else (Stk.lead l : Int)) <;> rfl
end Go.Proofs.Tryz
