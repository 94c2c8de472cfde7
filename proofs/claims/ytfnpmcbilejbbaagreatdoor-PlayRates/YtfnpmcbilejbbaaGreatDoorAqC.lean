/- On the play seat's program: Compare, and the reference's, by their contracts; the table of all contracts. -/
import Derived.Test.YtfnpmcbilejbbaaGreatDoorAqS
import Derived.Test.YtfnpmcbilejbbaaGreatDoorAqZd
namespace Go.Proofs.Tryz
open Go Go.Am Go.Gc
set_option maxRecDepth 100000

noncomputable def tC : FuncId → Option PT := addP 14 (pA 2) cx.prim
noncomputable def cxC : Cx := cxW tC fnsQ noDefs noRows
theorem tokC {q : FuncId → Option PT} (B : Nat) : TOk (cxW q fnsQ noDefs noRows) B tC := (tokBase q fnsQ noDefs noRows).add (pokA fun a b w h => check_ret a b w h)
theorem primsC (B : Nat) : PrimsOk cxC prog B := tokC B

def sC : E := vE 2
def sE4 : E := vE 3
def sK1 : E := appE 2 [sN, sD]
def sK2 : E := appE 2 [sC, sE4]
def xX : E := wE (.mul sN sE4)
def yY : E := wE (.mul sC sD)
def prT : DT := .node (.le yY xX) (.node (.le xX yY) (dLf 0) (dLf 1)) (dLf (-1))
def cmVT : DT := .node (.eq sK1 (L 0)) (.node (.eq sK2 (L 0)) (.node (.eq sN sC) (.node (.eq sD sE4) (dLf 0) prT) prT) (dLf 0)) (dLf 0)
def cmET : DT := .node (.eq sK1 (L 0)) (.node (.eq sK2 (L 0)) (dLf 0) (.leaf sK2)) (.leaf sK1)

theorem runCmp : runOne cxC 8 [] [ratioV sN sD, ratioV sC sE4] (fun l => isP cxC l cmVT cmET) = true := by kernel_rfl
theorem runCmpR : runOne cxC 13 [] [ratioV sN sD, ratioV sC sE4] (fun l => isT cxC l prT) = true := by kernel_rfl

def ρ4 (w : World) (a b c d : Int) : Env := ⟨fun i => [a, b, c, d].getD i 0, fnsQ, fun _ => (0, 0), memOf w⟩
section
variable {w : World} {a b c d : Int}
theorem u_n0 : sN.val (ρ4 w a b c d) = a := rfl
theorem u_d0 : sD.val (ρ4 w a b c d) = b := rfl
theorem u_c0 : sC.val (ρ4 w a b c d) = c := rfl
theorem u_e0 : sE4.val (ρ4 w a b c d) = d := rfl
theorem u_k1 : sK1.val (ρ4 w a b c d) = chk a b := by unfold sK1; rw [appE_val]; rfl
theorem u_k2 : sK2.val (ρ4 w a b c d) = chk c d := by unfold sK2; rw [appE_val]; rfl
theorem pr_ev : prT.eval (ρ4 w a b c d) = sgw a b c d := by
  simp only [prT, xX, yY, dLf, ev_le, ev_leaf, val_L, val_wE, val_mul, u_n0, u_d0, u_c0, u_e0]
  unfold sgw
  by_cases h1 : w64 (c * b) ≤ w64 (a * d)
  · have n1 : ¬ w64 (a * d) < w64 (c * b) := by omega
    by_cases h2 : w64 (a * d) ≤ w64 (c * b)
    · have n2 : ¬ w64 (c * b) < w64 (a * d) := by omega
      simp only [if_pos h1, if_neg n1, if_neg n2]
      exact if_pos h2
    · have n2 : w64 (c * b) < w64 (a * d) := by omega
      simp only [if_pos h1, if_neg n1, if_pos n2]
      exact if_neg h2
  · have n1 : w64 (a * d) < w64 (c * b) := by omega
    simp only [if_neg h1, if_pos n1]
theorem cmE_ev : cmET.eval (ρ4 w a b c d) = cmE a b c d := by
  simp only [cmET, dLf, ev_eq, ev_leaf, val_L, u_k1, u_k2]
  unfold cmE
  by_cases h1 : chk a b = 0
  · rw [if_pos h1, if_pos h1]
    by_cases h2 : chk c d = 0
    · rw [if_pos h2, h2]
    · rw [if_neg h2]
  · rw [if_neg h1, if_neg h1]
theorem cmV_ev : cmVT.eval (ρ4 w a b c d) = cmV a b c d := by
  simp only [cmVT, dLf, ev_eq, ev_leaf, val_L, u_k1, u_k2, pr_ev, u_n0, u_d0, u_c0, u_e0]
  unfold cmV cmE
  by_cases h1 : chk a b = 0
  · by_cases h2 : chk c d = 0
    · simp only [if_pos h1, if_pos h2, sgw_sg h1 h2]
      by_cases h3 : a = c
      · by_cases h4 : b = d
        · subst h3 h4
          simp [sg]
        · simp only [if_pos h3, if_neg h4]
      · simp only [if_neg h3]
    · simp only [if_pos h1, if_neg h2]
  · simp only [if_neg h1]

theorem cmp_ret (a b c d : Int) (w : World) (h : Laid w) : CallRet prog 8 #[.agg #[vi a, vi b], .agg #[vi c, vi d]] w fun v' w' => v' = .tuple #[vi (cmV a b c d), vi (cmE a b c d)] ∧ Kept w w' := by
  have := run_P (ρ := ρ4 w a b c d) (args' := #[.agg #[vi a, vi b], .agg #[vi c, vi d]]) primsC runCmp h rfl rfl (fun p hp => nomatch hp) ⟨ratio_rel rfl rfl, ratio_rel rfl rfl, trivial⟩
  rwa [cmV_ev, cmE_ev] at this
theorem cmpR_ret (a b c d : Int) (w : World) (h : Laid w) : CallRet prog 13 #[.agg #[vi a, vi b], .agg #[vi c, vi d]] w fun v' w' => v' = vi (sgw a b c d) ∧ Kept w w' := by
  have := run_T (ρ := ρ4 w a b c d) (args' := #[.agg #[vi a, vi b], .agg #[vi c, vi d]]) primsC runCmpR h rfl rfl (fun p hp => nomatch hp) ⟨ratio_rel rfl rfl, ratio_rel rfl rfl, trivial⟩
  rwa [pr_ev] at this
end

/-- All contracts. -/
noncomputable def tL : FuncId → Option PT := addP 6 pTrue (addP 7 (pIR 3 4 5) (addP 8 (pAP 6 7) (addP 14 (pA 2) (addP 11 (pA 2) (addP 9 (pI 5 2) (addP 13 (pAA 8) (addP 36 (pI 1 2) cx.prim)))))))
noncomputable def cxL : Cx := cxW tL fnsQ noDefs noRows
theorem primsL (B : Nat) : PrimsOk cxL prog B :=
  ((((((((tokBase tL fnsQ noDefs noRows).add (pokI fun l w hl _ => by
    match l, hl with
    | [a, b], _ => exact gcd_ret a b w)).add (pokAA fun a b c d w h => cmpR_ret a b c d w h)).add (pokI fun l w hl h => by
    match l, hl with
    | [a, b], _ => exact rateE_ret a b w h)).add (pokA fun a b w h => checkR_ret a b w h)).add (pokA fun a b w h => check_ret a b w h)).add (pokAP fun a b c d w h => cmp_ret a b c d w h)).add (pokIR fun a b w h => rate_ret a b w h)).add (pokTrue fun w h => awake h)

def isTrueV (v : V) (_ : St) : Bool := isTrue v
noncomputable def runLaw (f : FuncId) (l0 : Asg) (args : List V) : Bool := runOne cxL f l0 args (fun _ => isTrueV)

theorem law_ret {f : FuncId} {l0 : Asg} {args : List V} {args' : Array Value} {w : World} {ρ : Env} (hk : runLaw f l0 args = true) (h : Laid w) (hm : ρ.mem = memOf w) (hf : ρ.f = fnsQ) (hl : AsgOk ρ l0) (ha : All2 (VRel ⟨fun _ => none, ρ⟩) args args'.toList) :
    CallRet prog f args' w fun v' w' => v' = .bool true ∧ Kept w w' := by
  have hi := inv1 (q := tL) h hm hf
  obtain ⟨l', h1, h2⟩ := symL (c := cxL) (K := fun _ => isTrueV) (tl := noTails) (ann := noAnn) (n := 100) (m := 60) cxWOk (primsL _) rfl hk hl (Nat.le_refl _) hi ha
  refine h2.mono ?_
  rintro v' w' ⟨v, st', β', q1, q2, q3⟩
  exact ⟨isTrue_rel q1 q2, Kept.ofNil q3⟩
end Go.Proofs.Tryz
