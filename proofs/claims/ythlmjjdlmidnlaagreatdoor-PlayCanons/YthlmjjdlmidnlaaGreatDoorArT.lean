/- On the seat of the open Play statements: the touches of a move, checked: the program and the reference answer alike. -/
import Derived.Test.YthlmjjdlmidnlaaGreatDoorArPr
namespace Go.Proofs.Tryz
open Go Go.Am
set_option maxRecDepth 100000

/-- the symbols: whether it is an out, where the touches begin, how many there are -/
def tO : E := vE 0
def tF : E := vE 1
def tN : E := vE 2
def tchE (i : Nat) : E := appE 2000 [.add tF (L i)]
def tchLoop : Nat → DT
  | 0 => dLf 0
  | m + 1 => .node (.le tN (L (8 - m : Nat))) (dLf 0) (.node (.le (L 1) (tchE (8 - m))) (.node (.le (tchE (8 - m)) (L 9)) (match 8 - m with
    | 0 => tchLoop m
    | i + 1 => .node (.eq (tchE i) (tchE (i + 1))) (dLf 16) (tchLoop m)) (dLf 16)) (dLf 16))
def tchT : DT := .node (.le tN (L 9)) (.node (.eq tO (L 0)) (tchLoop 9) (.node (.eq tN (L 0)) (dLf 16) (tchLoop 9))) (dLf 16)

/-- The function of the touches that symbols stand for. -/
def fT (t : Int → Int) : Nat → List Int → Int
  | 2000, [j] => t j
  | _, _ => 0
/-- What the check of touches answers. -/
def tchV (x : Int) (t : Int → Int) (o n : Int) : Int := tchT.eval (envV [x, o, n] (fT t))

noncomputable def cxT (g : Nat → List Int → Int) : Cx := cxW cx.prim g noDefs noRows
def argsT : List V := [vc (.ost 0 tF tN), vc (.sb tO)]
def argsTR : List V := [.a (.agg [.unk, .unk, .sb tO, .unk, .ost 0 tF tN])]

theorem runT (g : Nat → List Int → Int) : runOne 100 60 (cxT g) 80 [] argsT (fun l => isT (cxT g) l tchT) = true := by kernel_rfl
theorem runTR (g : Nat → List Int → Int) : runOne 100 60 (cxT g) 83 [] argsTR (fun l => isT (cxT g) l tchT) = true := by kernel_rfl

theorem tch_ret (x : Int) (t : Int → Int) (o n : Int) (v : Value) (w : World) (h : Laid w) (hv : IsInts w v t o n) :
    CallRet prog 80 #[v, .bool (decide (x ≠ 0))] w fun v' w' => v' = vi (tchV x t o n) ∧ Kept w w' :=
  run_T (vs := [x, o, n]) (fun _ => tokBase _ _ _ _) (runT (fT t)) h asN ⟨ost_rel (k := 0) (oe := tF) (ne := tN) hv rfl (fun _ => rfl), rfl, trivial⟩
theorem tchR_ret (x : Int) (t : Int → Int) (o n : Int) (a b c v : Value) (w : World) (h : Laid w) (hv : IsInts w v t o n) (h1 : scal a = true) (h2 : scal b = true) (h3 : scal c = true) :
    CallRet prog 83 #[.agg #[a, b, .bool (decide (x ≠ 0)), c, v]] w fun v' w' => v' = vi (tchV x t o n) ∧ Kept w w' := by
  have hs : scal v = true := by obtain ⟨a, m, c, rfl, _⟩ := hv; rfl
  refine run_T (vs := [x, o, n]) (fun _ => tokBase _ _ _ _) (runTR (fT t)) h asN ⟨⟨_, rfl, ⟨h1, h2, rfl, h3, ost_rel (k := 0) (oe := tF) (ne := tN) hv rfl (fun _ => rfl), trivial⟩, fun z hz => ?_⟩, trivial⟩
  simp at hz
  rcases hz with rfl | rfl | rfl | rfl | rfl
  · exact h1
  · exact h2
  · rfl
  · exact h3
  · exact hs
end Go.Proofs.Tryz
