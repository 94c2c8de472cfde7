/- On the play seat's program: PlayOrders comes back with true from every input, and what was in memory is as it was. -/
import Derived.Test.YtfnpmcbilejbbaaGreatDoorAqL1
namespace Go.Proofs.Tryz
open Go Go.Am Go.Gc
set_option maxRecDepth 100000

def sP : E := vE 4
def sQ : E := vE 5
/-- Compare's answer and error. -/
def cV (a b c d : E) : E := appE 6 [a, b, c, d]
def cE (a b c d : E) : E := appE 7 [a, b, c, d]
def kX : E := cV sN sD sC sE4
def kY : E := cV sC sE4 sN sD
def kZ : E := cV sC sE4 sP sQ
def kW : E := cV sN sD sP sQ
def sN1 : E := wE (.add sN sD)
def kM : E := cV sN sD sN1 sD
def kC2 : E := appE 2 [sP, sQ]
def tim (e : E) (k : Int) : E := wE (.mul e (L k))
def kF (k : Int) : Asg := [(.eq (appE 5 [tim sN k, tim sD k]) (L 0), true), (.eq (appE 3 [tim sN k, tim sD k]) sN, true), (.eq (appE 4 [tim sN k, tim sD k]) sD, true)]
def okF : Asg := [(.eq kA2 (L 0), true), (.eq kB2 (L 0), true), (.eq kC2 (L 0), true)]
def smF (p : Bool) : Asg := [(.le (L 0) sN, p), (.le (sgn p sN) (L 30000), true), (.le sD (L 30000), true)]
def cmF : Asg := [(.eq (cE sN sD sC sE4) (L 0), true), (.eq (cE sC sE4 sN sD) (L 0), true), (.eq (cE sC sE4 sP sQ) (L 0), true), (.eq (cE sN sD sP sQ) (L 0), true), (.eq (cE sN sD sN1 sD) (L 0), true),
  (.eq kX (eNeg kY), true), (.eq kM (L (-1)), true)]
def e0F : Asg := [(.eq kX (L 0), true), (.eq sN sC, true), (.eq sD sE4, true)]
def e1F : Asg := [(.eq kX (L 0), false), (.eq sN sC, false)]
def e2F : Asg := [(.eq kX (L 0), false), (.eq sN sC, true), (.eq sD sE4, false)]
def z0F : Asg := [(.eq kX kZ, false)]
def z1F : Asg := [(.eq kX kZ, true), (.eq kW (L 0), true)]
def z2F : Asg := [(.eq kX kZ, true), (.eq kW kX, true)]
def fullF (p : Bool) (e z : Asg) : Asg := okF ++ (smF p ++ (kF 1 ++ (kF (-1) ++ (kF 7 ++ (kF (-100) ++ (cmF ++ (e ++ z)))))))
noncomputable def runOrders (l : Asg) : Bool := runLaw 5 l [ratioV sN sD, ratioV sC sE4, ratioV sP sQ]

theorem ord0 : runOrders [(.eq kA2 (L 0), false)] = true := by kernel_rfl
theorem ord1 : runOrders [(.eq kA2 (L 0), true), (.eq kB2 (L 0), false)] = true := by kernel_rfl
theorem ord2 : runOrders [(.eq kA2 (L 0), true), (.eq kB2 (L 0), true), (.eq kC2 (L 0), false)] = true := by kernel_rfl
theorem ord3 : runOrders (okF ++ [(.le (L 0) sN, true), (.le (sgn true sN) (L 30000), false)]) = true := by kernel_rfl
theorem ord4 : runOrders (okF ++ [(.le (L 0) sN, false), (.le (sgn false sN) (L 30000), false)]) = true := by kernel_rfl
theorem ord5 : runOrders (okF ++ [(.le (L 0) sN, true), (.le (sgn true sN) (L 30000), true), (.le sD (L 30000), false)]) = true := by kernel_rfl
theorem ord6 : runOrders (okF ++ [(.le (L 0) sN, false), (.le (sgn false sN) (L 30000), true), (.le sD (L 30000), false)]) = true := by kernel_rfl
theorem full00 : runOrders (fullF true e0F z0F) = true := by kernel_rfl
theorem full01 : runOrders (fullF true e0F z1F) = true := by kernel_rfl
theorem full10 : runOrders (fullF true e1F z0F) = true := by kernel_rfl
theorem full11 : runOrders (fullF true e1F z2F) = true := by kernel_rfl
theorem full20 : runOrders (fullF true e2F z0F) = true := by kernel_rfl
theorem full21 : runOrders (fullF true e2F z2F) = true := by kernel_rfl
theorem lull00 : runOrders (fullF false e0F z0F) = true := by kernel_rfl
theorem lull01 : runOrders (fullF false e0F z1F) = true := by kernel_rfl
theorem lull10 : runOrders (fullF false e1F z0F) = true := by kernel_rfl
theorem lull11 : runOrders (fullF false e1F z2F) = true := by kernel_rfl
theorem lull20 : runOrders (fullF false e2F z0F) = true := by kernel_rfl
theorem lull21 : runOrders (fullF false e2F z2F) = true := by kernel_rfl

theorem full_ok (p : Bool) : runOrders (fullF p e0F z0F) = true ∧ runOrders (fullF p e0F z1F) = true ∧ runOrders (fullF p e1F z0F) = true ∧ runOrders (fullF p e1F z2F) = true ∧ runOrders (fullF p e2F z0F) = true ∧ runOrders (fullF p e2F z2F) = true := by
  cases p
  · exact ⟨lull00, lull01, lull10, lull11, lull20, lull21⟩
  · exact ⟨full00, full01, full10, full11, full20, full21⟩

def ρ6 (w : World) (a b c d x y : Int) : Env := ⟨fun i => [a, b, c, d, x, y].getD i 0, fnsQ, fun _ => (0, 0), memOf w⟩

section
variable {w : World} {a b c d x y : Int}
theorem s_a2 : kA2.val (ρ6 w a b c d x y) = chk a b := by unfold kA2; rw [appE_val]; rfl
theorem s_b2 : kB2.val (ρ6 w a b c d x y) = chk c d := by unfold kB2; rw [appE_val]; rfl
theorem s_c2 : kC2.val (ρ6 w a b c d x y) = chk x y := by unfold kC2; rw [appE_val]; rfl
theorem s_cV (e f g h : E) : (cV e f g h).val (ρ6 w a b c d x y) = cmV (e.val (ρ6 w a b c d x y)) (f.val (ρ6 w a b c d x y)) (g.val (ρ6 w a b c d x y)) (h.val (ρ6 w a b c d x y)) := by unfold cV; rw [appE_val]; rfl
theorem s_cE (e f g h : E) : (cE e f g h).val (ρ6 w a b c d x y) = cmE (e.val (ρ6 w a b c d x y)) (f.val (ρ6 w a b c d x y)) (g.val (ρ6 w a b c d x y)) (h.val (ρ6 w a b c d x y)) := by unfold cE; rw [appE_val]; rfl
theorem s_3 (e f : E) : (appE 3 [e, f]).val (ρ6 w a b c d x y) = rtN (e.val (ρ6 w a b c d x y)) (f.val (ρ6 w a b c d x y)) := by rw [appE_val]; rfl
theorem s_4 (e f : E) : (appE 4 [e, f]).val (ρ6 w a b c d x y) = rtD (e.val (ρ6 w a b c d x y)) (f.val (ρ6 w a b c d x y)) := by rw [appE_val]; rfl
theorem s_5 (e f : E) : (appE 5 [e, f]).val (ρ6 w a b c d x y) = rtE (e.val (ρ6 w a b c d x y)) (f.val (ρ6 w a b c d x y)) := by rw [appE_val]; rfl
theorem s_n0 : sN.val (ρ6 w a b c d x y) = a := rfl
theorem s_d0 : sD.val (ρ6 w a b c d x y) = b := rfl
theorem s_c0 : sC.val (ρ6 w a b c d x y) = c := rfl
theorem s_e0 : sE4.val (ρ6 w a b c d x y) = d := rfl
theorem s_p0 : sP.val (ρ6 w a b c d x y) = x := rfl
theorem s_q0 : sQ.val (ρ6 w a b c d x y) = y := rfl

theorem okF_ok (h1 : chk a b = 0) (h2 : chk c d = 0) (h3 : chk x y = 0) : AsgOk (ρ6 w a b c d x y) okF := by
  refine asgC (h_eq ?_) (asgC (h_eq ?_) (asgC (h_eq ?_) asgN))
  · rw [s_a2, val_L]; exact h1
  · rw [s_b2, val_L]; exact h2
  · rw [s_c2, val_L]; exact h3

theorem sgn_val6 (p : Bool) (hb : a.natAbs ≤ 999999999) : (sgn p sN).val (ρ6 w a b c d x y) = if p = true then a else -a := by
  cases p with
  | true => simp only [sgn, cond_true, s_n0, if_true]
  | false =>
    simp only [sgn, cond_false, val_neg, s_n0, Bool.false_eq_true, if_false]
    rw [show w64 (0 - a) = 0 - a from wrap_id (by omega) (by omega)]; omega

theorem sgn_abs (hb : a.natAbs ≤ 999999999) : (sgn (decide (0 ≤ a)) sN).val (ρ6 w a b c d x y) = a.natAbs := by
  rw [sgn_val6 _ hb]
  simp only [decide_eq_true_eq]
  split <;> omega

theorem kF_ok (h1 : chk a b = 0) (ha : a.natAbs ≤ 30000) (hb : b.natAbs ≤ 30000) (k : Int) (hk : k.natAbs ≤ 100) (hk0 : k ≠ 0) : AsgOk (ρ6 w a b c d x y) (kF k) := by
  obtain ⟨_, _, _, _, hl⟩ := chk_zero h1
  obtain ⟨r1, r2, r3⟩ := rt_mul (k := k) hl ha hb hk hk0
  have e1 : (tim sN k).val (ρ6 w a b c d x y) = a * k := by
    unfold tim; rw [val_wE, val_mul, val_L, s_n0]; exact mul_bound (by omega) (by omega)
  have e2 : (tim sD k).val (ρ6 w a b c d x y) = b * k := by
    unfold tim; rw [val_wE, val_mul, val_L, s_d0]; exact mul_bound (by omega) (by omega)
  refine asgC (h_eq ?_) (asgC (h_eq ?_) (asgC (h_eq ?_) asgN))
  · rw [s_5, e1, e2, val_L]; exact r1
  · rw [s_3, e1, e2, s_n0]; exact r2
  · rw [s_4, e1, e2, s_d0]; exact r3

theorem cm_zero {a b c d : Int} (h1 : chk a b = 0) (h2 : chk c d = 0) : cmE a b c d = 0 ∧ cmV a b c d = sg (a, b) (c, d) := by
  have e : cmE a b c d = 0 := by rw [cmE, if_pos h1, h2]
  exact ⟨e, by rw [cmV, if_pos e]⟩

theorem cmF_ok (h1 : chk a b = 0) (h2 : chk c d = 0) (h3 : chk x y = 0) (ha : a.natAbs ≤ 30000) (hb : b.natAbs ≤ 30000) : AsgOk (ρ6 w a b c d x y) cmF := by
  have e : sN1.val (ρ6 w a b c d x y) = a + b := by unfold sN1; rw [val_wE, val_add, s_n0, s_d0]; exact wrap_id (by omega) (by omega)
  obtain ⟨_, _, k3, k4, hl⟩ := chk_zero h1
  have hm : chk (a + b) b = 0 := chk_low (by omega) (by omega) k4 (more_low hl)
  refine asgC (h_eq ?_) (asgC (h_eq ?_) (asgC (h_eq ?_) (asgC (h_eq ?_) (asgC (h_eq ?_) (asgC (h_eq ?_) (asgC (h_eq ?_) asgN))))))
  · rw [s_cE, val_L]; exact (cm_zero h1 h2).1
  · rw [s_cE, val_L]; exact (cm_zero h2 h1).1
  · rw [s_cE, val_L]; exact (cm_zero h2 h3).1
  · rw [s_cE, val_L]; exact (cm_zero h1 h3).1
  · rw [s_cE, val_L, e]; exact (cm_zero h1 hm).1
  · unfold kX kY
    rw [val_neg, s_cV, s_cV]
    show cmV a b c d = w64 (0 - cmV c d a b)
    rw [(cm_zero h1 h2).2, (cm_zero h2 h1).2, sg_neg (c, d) (a, b)]
    rcases sg_cases (c, d) (a, b) with q | q | q <;> rw [q] <;> exact (wrap_id (by omega) (by omega)).symm
  · unfold kM
    rw [s_cV, val_L, e]
    show cmV a b (a + b) b = -1
    rw [(cm_zero h1 hm).2, more_sg (by omega)]

theorem orders_law (a b c d x y : Int) (w : World) (h : Laid w) : CallRet prog 5 #[.agg #[vi a, vi b], .agg #[vi c, vi d], .agg #[vi x, vi y]] w fun v' w' => v' = .bool true ∧ Kept w w' := by
  have fin : ∀ l, runOrders l = true → AsgOk (ρ6 w a b c d x y) l → CallRet prog 5 #[.agg #[vi a, vi b], .agg #[vi c, vi d], .agg #[vi x, vi y]] w fun v' w' => v' = .bool true ∧ Kept w w' := fun l hk hl =>
    law_ret (ρ := ρ6 w a b c d x y) (args' := #[.agg #[vi a, vi b], .agg #[vi c, vi d], .agg #[vi x, vi y]]) hk h rfl rfl hl ⟨ratio_rel rfl rfl, ratio_rel rfl rfl, ratio_rel rfl rfl, trivial⟩
  by_cases h1 : chk a b = 0
  case neg => exact fin _ ord0 (asgC (h_ne (by rw [s_a2, val_L]; exact h1)) asgN)
  by_cases h2 : chk c d = 0
  case neg => exact fin _ ord1 (asgC (h_eq (by rw [s_a2, val_L]; exact h1)) (asgC (h_ne (by rw [s_b2, val_L]; exact h2)) asgN))
  by_cases h3 : chk x y = 0
  case neg => exact fin _ ord2 (asgC (h_eq (by rw [s_a2, val_L]; exact h1)) (asgC (h_eq (by rw [s_b2, val_L]; exact h2)) (asgC (h_ne (by rw [s_c2, val_L]; exact h3)) asgN)))
  obtain ⟨l1, l2, l3, l4, hla⟩ := chk_zero h1
  obtain ⟨_, _, _, _, hlb⟩ := chk_zero h2
  obtain ⟨_, _, _, _, hlc⟩ := chk_zero h3
  have ok := okF_ok (w := w) h1 h2 h3
  have hn : a.natAbs ≤ 999999999 := by omega
  have sT : (sgn true sN).val (ρ6 w a b c d x y) = a := by rw [sgn_val6 _ hn]; rfl
  have sF : (sgn false sN).val (ρ6 w a b c d x y) = -a := by rw [sgn_val6 _ hn]; rfl
  by_cases ha : a.natAbs ≤ 30000
  case neg =>
    by_cases hp : 0 ≤ a
    · exact fin _ ord3 (asgA ok (asgC (h_le (by rw [val_L, s_n0]; exact hp)) (asgC (h_lt (by rw [sT, val_L]; omega)) asgN)))
    · exact fin _ ord4 (asgA ok (asgC (h_lt (by rw [val_L, s_n0]; exact hp)) (asgC (h_lt (by rw [sF, val_L]; omega)) asgN)))
  by_cases hb : b ≤ 30000
  case neg =>
    by_cases hp : 0 ≤ a
    · exact fin _ ord5 (asgA ok (asgC (h_le (by rw [val_L, s_n0]; exact hp)) (asgC (h_le (by rw [sT, val_L]; omega)) (asgC (h_lt (by rw [s_d0, val_L]; exact hb)) asgN))))
    · exact fin _ ord6 (asgA ok (asgC (h_lt (by rw [val_L, s_n0]; exact hp)) (asgC (h_le (by rw [sF, val_L]; omega)) (asgC (h_lt (by rw [s_d0, val_L]; exact hb)) asgN))))
  have hb' : b.natAbs ≤ 30000 := by omega
  have sm : AsgOk (ρ6 w a b c d x y) (smF (decide (0 ≤ a))) := by
    refine asgC ?_ (asgC (h_le ?_) (asgC (h_le ?_) asgN))
    · rfl
    · rw [sgn_abs hn, val_L]; omega
    · rw [s_d0, val_L]; exact hb
  have full : ∀ e z, AsgOk (ρ6 w a b c d x y) e → AsgOk (ρ6 w a b c d x y) z → AsgOk (ρ6 w a b c d x y) (fullF (decide (0 ≤ a)) e z) := fun e z he hz =>
    asgA ok (asgA sm (asgA (kF_ok h1 ha hb' 1 (by omega) (by omega)) (asgA (kF_ok h1 ha hb' (-1) (by omega) (by omega)) (asgA (kF_ok h1 ha hb' 7 (by omega) (by omega)) (asgA (kF_ok h1 ha hb' (-100) (by omega) (by omega)) (asgA (cmF_ok h1 h2 h3 ha hb') (asgA he hz)))))))
  obtain ⟨f1, f2, f3, f4, f5, f6⟩ := full_ok (decide (0 ≤ a))
  have vx : kX.val (ρ6 w a b c d x y) = sg (a, b) (c, d) := by unfold kX; rw [s_cV]; exact (cm_zero h1 h2).2
  have vz : kZ.val (ρ6 w a b c d x y) = sg (c, d) (x, y) := by unfold kZ; rw [s_cV]; exact (cm_zero h2 h3).2
  have vw : kW.val (ρ6 w a b c d x y) = sg (a, b) (x, y) := by unfold kW; rw [s_cV]; exact (cm_zero h1 h3).2
  by_cases hx : sg (a, b) (c, d) = 0
  · have heq := (sg_zero hla hlb).1 hx
    have q1 : a = c := congrArg Prod.fst heq
    have q2 : b = d := congrArg Prod.snd heq
    have he : AsgOk (ρ6 w a b c d x y) e0F := asgC (h_eq (by rw [vx, val_L]; exact hx)) (asgC (h_eq (by rw [s_n0, s_c0]; exact q1)) (asgC (h_eq (by rw [s_d0, s_e0]; exact q2)) asgN))
    by_cases hz : sg (a, b) (c, d) = sg (c, d) (x, y)
    · have hw := sg_trans hla hlb hlc hz
      exact fin _ f2 (full _ _ he (asgC (h_eq (by rw [vx, vz]; exact hz)) (asgC (h_eq (by rw [vw, val_L, hw]; exact hx)) asgN)))
    · exact fin _ f1 (full _ _ he (asgC (h_ne (by rw [vx, vz]; exact hz)) asgN))
  · have hne : ¬ (a = c ∧ b = d) := fun q => hx ((sg_zero hla hlb).2 (by rw [q.1, q.2]))
    by_cases hac : a = c
    · have he : AsgOk (ρ6 w a b c d x y) e2F := asgC (h_ne (by rw [vx, val_L]; exact hx)) (asgC (h_eq (by rw [s_n0, s_c0]; exact hac)) (asgC (h_ne (by rw [s_d0, s_e0]; exact fun q => hne ⟨hac, q⟩)) asgN))
      by_cases hz : sg (a, b) (c, d) = sg (c, d) (x, y)
      · have hw := sg_trans hla hlb hlc hz
        exact fin _ f6 (full _ _ he (asgC (h_eq (by rw [vx, vz]; exact hz)) (asgC (h_eq (by rw [vw, vx]; exact hw)) asgN)))
      · exact fin _ f5 (full _ _ he (asgC (h_ne (by rw [vx, vz]; exact hz)) asgN))
    · have he : AsgOk (ρ6 w a b c d x y) e1F := asgC (h_ne (by rw [vx, val_L]; exact hx)) (asgC (h_ne (by rw [s_n0, s_c0]; exact hac)) asgN)
      by_cases hz : sg (a, b) (c, d) = sg (c, d) (x, y)
      · have hw := sg_trans hla hlb hlc hz
        exact fin _ f4 (full _ _ he (asgC (h_eq (by rw [vx, vz]; exact hz)) (asgC (h_eq (by rw [vw, vx]; exact hw)) asgN)))
      · exact fin _ f3 (full _ _ he (asgC (h_ne (by rw [vx, vz]; exact hz)) asgN))
end
end Go.Proofs.Tryz
