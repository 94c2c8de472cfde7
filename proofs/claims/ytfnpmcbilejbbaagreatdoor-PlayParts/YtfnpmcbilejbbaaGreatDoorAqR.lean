/- On the play seat's program: the functions of ratios by their contracts. -/
import Derived.Test.YtfnpmcbilejbbaaGreatDoorAqG
import Derived.Test.YtfnpmcbilejbbaaGreatDoorAqPr
import Derived.KernelRfl
namespace Go.Proofs.Tryz
open Go Go.Am Go.Gc
set_option maxRecDepth 100000

def L (n : Int) : E := .lit n
def vE (n : Nat) : E := .var n
def wE (e : E) : E := .wrap .i64 e
def noAnn : Ann := fun _ _ => none
def noDefs : Nat → Option DT := fun _ => none
def noRows : Nat → Option (List C) := fun _ => none

/-- The functions that symbols stand for. -/
def fnsQ : Nat → List Int → Int
  | 0, [a, b] => divI a b
  | 1, [a, b] => euc a b
  | 2, [a, b] => chk a b
  | 3, [a, b] => rtN a b
  | 4, [a, b] => rtD a b
  | 5, [a, b] => rtE a b
  | 6, [a, b, c, d] => cmV a b c d
  | 7, [a, b, c, d] => cmE a b c d
  | 8, [a, b, c, d] => sgw a b c d
  | _, _ => 0

theorem keptOf {w w' : World} (h : Go.RowKit.Below w.heap.size w w') : Kept w w' := ⟨h.os, h.tape, h.output, h.size, h.block⟩

theorem fnGcd : cx.fn 36 = some f36 := by kernel_rfl
theorem fnDiv : cx.fn 33 = some f33 := by kernel_rfl
theorem bodyGcd : f36.body.isSome = true := by kernel_rfl
theorem bodyDiv : f33.body.isSome = true := by kernel_rfl

theorem gcd_ret (a b : Int) (w : World) : CallRet prog 36 #[vi a, vi b] w fun v' w' => v' = vi (euc a b) ∧ Kept w w' := by
  obtain ⟨c, hc⟩ := Option.isSome_iff_exists.1 bodyGcd
  refine .inr ⟨callFunc_enter cxOk fnGcd hc _ w, (gcd_c w.heap.size a b w).mono ?_⟩
  rintro e w' ⟨rfl, h⟩
  exact ⟨_, rfl, rfl, keptOf h⟩
theorem div_ret (a b : Int) (w : World) : CallRet prog 33 #[vi a, vi b] w fun v' w' => v' = vi (divI a b) ∧ Kept w w' := by
  obtain ⟨c, hc⟩ := Option.isSome_iff_exists.1 bodyDiv
  refine .inr ⟨callFunc_enter cxOk fnDiv hc _ w, (div_c w.heap.size a b w).mono ?_⟩
  rintro e w' ⟨rfl, h⟩
  exact ⟨_, rfl, rfl, keptOf h⟩

/-- The first table: the loops. -/
noncomputable def tG : FuncId → Option PT := addP 36 (pI 1 2) (addP 33 (pI 0 2) cx.prim)
noncomputable def cxG : Cx := cxW tG fnsQ noDefs noRows
theorem tokG {q : FuncId → Option PT} (B : Nat) : TOk (cxW q fnsQ noDefs noRows) B tG :=
  ((tokBase q fnsQ noDefs noRows).add (pokI fun l w hl _ => by
    match l, hl with
    | [a, b], _ => exact div_ret a b w)).add (pokI fun l w hl _ => by
    match l, hl with
    | [a, b], _ => exact gcd_ret a b w)

/-! ### one ratio -/
def sN : E := vE 0
def sD : E := vE 1
def sG : E := appE 0 [sN, sD]
def eNeg (e : E) : E := wE (.sub (L 0) e)
def sMx : E := L 999999999
def sMn : E := L (-999999999)
def dLf (n : Int) : DT := .leaf (L n)

def checkT : DT := .node (.le sMn sN) (.node (.le sN sMx) (.node (.le (L 1) sD) (.node (.le sD sMx) (.node (.eq sG (L 1)) (dLf 0) (dLf 1)) (dLf 3)) (dLf 3)) (dLf 3)) (dLf 3)
def checkRT : DT := .node (.le sMn sN) (.node (.le sN sMx) (.node (.le (L 1) sD) (.node (.le sD sMx) (.node (.le (L 0) sN) (.node (.eq (appE 1 [sN, sD]) (L 1)) (dLf 0) (dLf 1)) (.node (.eq (appE 1 [eNeg sN, sD]) (L 1)) (dLf 0) (dLf 1))) (dLf 3)) (dLf 3)) (dLf 3)) (dLf 3)
def rateT (x y : DT) : DT := .node (.le sMn sN) (.node (.le sN sMx) (.node (.le sMn sD) (.node (.le sD sMx) (.node (.eq sD (L 0)) (dLf 0) (.node (.le (L 0) sD) x y)) (dLf 0)) (dLf 0)) (dLf 0)) (dLf 0)
def rateET : DT := .node (.le sMn sN) (.node (.le sN sMx) (.node (.le sMn sD) (.node (.le sD sMx) (.node (.eq sD (L 0)) (dLf 6) (dLf 0)) (dLf 3)) (dLf 3)) (dLf 3)) (dLf 3)
def quoT (x : E) : DT := rateT (.leaf (wE (.quo x sG))) (.leaf (wE (.quo x (eNeg sG))))

def ρ2 (w : World) (n d : Int) : Env := ⟨fun i => [n, d].getD i 0, fnsQ, fun _ => (0, 0), memOf w⟩

def isT (c : Cx) (l : Asg) (d : DT) : V → St → Bool := fun v _ => match v with
  | .a (.c x) => cellIs (Am.ask (withT c l)) .i64 d x
  | _ => false
def isR (c : Cx) (l : Asg) (d1 d2 d3 : DT) : V → St → Bool := fun v _ => match v with
  | .tup [.agg [x, y], .c z] => cellIs (Am.ask (withT c l)) .i64 d1 x && cellIs (Am.ask (withT c l)) .i64 d2 y && cellIs (Am.ask (withT c l)) .i64 d3 z
  | _ => false
def isP (c : Cx) (l : Asg) (d1 d2 : DT) : V → St → Bool := fun v _ => match v with
  | .tup [.c x, .c y] => cellIs (Am.ask (withT c l)) .i64 d1 x && cellIs (Am.ask (withT c l)) .i64 d2 y
  | _ => false

noncomputable def runOne (c : Cx) (f : FuncId) (l0 : Asg) (args : List V) (K : Asg → V → St → Bool) : Bool :=
  paths 60 l0 (askCall c noAnn noTails 100 0 f args ⟨.nil, 0⟩) fun l => callG (withT c l) (runL c noAnn 100 noTails l) 0 f args ⟨.nil, 0⟩ (K l)

def ratioV (a b : E) : V := .a (.agg [.sy .i64 a, .sy .i64 b])
def sE (e : E) : V := .a (.c (.sy .i64 e))

theorem runCheck : runOne cxG 14 [] [ratioV sN sD] (fun l => isT cxG l checkT) = true := by kernel_rfl
theorem runCheckR : runOne cxG 11 [] [ratioV sN sD] (fun l => isT cxG l checkRT) = true := by kernel_rfl
theorem runRateE : runOne cxG 9 [] [sE sN, sE sD] (fun l => isT cxG l rateET) = true := by kernel_rfl
noncomputable def isRate (l : Asg) : V → St → Bool := isR cxG l (quoT sN) (quoT sD) rateET
theorem runRate0 : runOne cxG 7 [(.le sMn sN, false)] [sE sN, sE sD] isRate = true := by kernel_rfl
theorem runRate1 : runOne cxG 7 [(.le sN sMx, false)] [sE sN, sE sD] isRate = true := by kernel_rfl
theorem runRate2 : runOne cxG 7 [(.le sMn sD, false)] [sE sN, sE sD] isRate = true := by kernel_rfl
theorem runRate3 : runOne cxG 7 [(.le sD sMx, false)] [sE sN, sE sD] isRate = true := by kernel_rfl
theorem runRate4 : runOne cxG 7 [(.eq sD (L 0), true)] [sE sN, sE sD] isRate = true := by kernel_rfl
theorem runRate5 : runOne cxG 7 [(.eq sG (L 0), false), (.eq (eNeg sG) (L 0), false), (.eq sD (L 0), false)] [sE sN, sE sD] isRate = true := by kernel_rfl
end Go.Proofs.Tryz
