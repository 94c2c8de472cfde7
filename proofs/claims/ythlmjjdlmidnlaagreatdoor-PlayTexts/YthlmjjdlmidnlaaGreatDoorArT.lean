/- On the seat of the open Play statements: the touches of a move, checked: the program and the reference answer alike. On the seat of the open Play statements: a move, checked: what the program's run and the reference's answer. On the seat of the open Play statements: a move, checked: the kernel's runs. On the seat of the open Play statements: a move, checked by the reference: the kernel's runs. -/
import Derived.Test.YthlmjjdlmidnlaaGreatDoorArPr
namespace Go.Proofs.Tryz
open Go Go.Am
set_option maxRecDepth 100000

/-- the symbols: whether it is an out, where the touches begin, how many there are -/
def tO : E := vE 0
def tF : E := vE 1
def tN : E := vE 2
def tchE (i : Nat) : E := appE 2000 [.add tF (L i)]
def tchLoop : Nat → DT
  | 0 => dLf 0
  | m + 1 => .node (.le tN (L (8 - m : Nat))) (dLf 0) (.node (.le (L 1) (tchE (8 - m))) (.node (.le (tchE (8 - m)) (L 9)) (match 8 - m with
    | 0 => tchLoop m
    | i + 1 => .node (.eq (tchE i) (tchE (i + 1))) (dLf 16) (tchLoop m)) (dLf 16)) (dLf 16))
def tchT : DT := .node (.le tN (L 9)) (.node (.eq tO (L 0)) (tchLoop 9) (.node (.eq tN (L 0)) (dLf 16) (tchLoop 9))) (dLf 16)

/-- The function of the touches that symbols stand for. -/
def fT (t : Int → Int) : Nat → List Int → Int
  | 2000, [j] => t j
  | _, _ => 0
/-- What the check of touches answers. -/
def tchV (x : Int) (t : Int → Int) (o n : Int) : Int := tchT.eval (envV [x, o, n] (fT t))

noncomputable def cxT (g : Nat → List Int → Int) : Cx := cxW cx.prim g noDefs noRows
def argsT : List V := [vc (.ost 0 tF tN), vc (.sb tO)]
def argsTR : List V := [.a (.agg [.unk, .unk, .sb tO, .unk, .ost 0 tF tN])]

theorem runT (g : Nat → List Int → Int) : runOne 100 60 (cxT g) 80 [] argsT (fun l => isT (cxT g) l tchT) = true := by kernel_rfl
theorem runTR (g : Nat → List Int → Int) : runOne 100 60 (cxT g) 83 [] argsTR (fun l => isT (cxT g) l tchT) = true := by kernel_rfl

theorem tch_ret (x : Int) (t : Int → Int) (o n : Int) (v : Value) (w : World) (h : Laid w) (hv : IsInts w v t o n) :
    CallRet prog 80 #[v, .bool (decide (x ≠ 0))] w fun v' w' => v' = vi (tchV x t o n) ∧ Kept w w' :=
  run_T (vs := [x, o, n]) (fun _ => tokBase _ _ _ _) (runT (fT t)) h asN ⟨ost_rel (k := 0) (oe := tF) (ne := tN) hv rfl (fun _ => rfl), rfl, trivial⟩
theorem tchR_ret (x : Int) (t : Int → Int) (o n : Int) (a b c v : Value) (w : World) (h : Laid w) (hv : IsInts w v t o n) (h1 : scal a = true) (h2 : scal b = true) (h3 : scal c = true) :
    CallRet prog 83 #[.agg #[a, b, .bool (decide (x ≠ 0)), c, v]] w fun v' w' => v' = vi (tchV x t o n) ∧ Kept w w' := by
  have hs : scal v = true := by obtain ⟨a, m, c, rfl, _⟩ := hv; rfl
  refine run_T (vs := [x, o, n]) (fun _ => tokBase _ _ _ _) (runTR (fT t)) h asN ⟨⟨_, rfl, ⟨h1, h2, rfl, h3, ost_rel (k := 0) (oe := tF) (ne := tN) hv rfl (fun _ => rfl), trivial⟩, fun z hz => ?_⟩, trivial⟩
  simp at hz
  rcases hz with rfl | rfl | rfl | rfl | rfl
  · exact h1
  · exact h2
  · rfl
  · exact h3
  · exact hs
end Go.Proofs.Tryz

namespace Go.Proofs.Tryz
open Go Go.Am
set_option maxRecDepth 100000

/-- the symbols: from, to, whether it is an out, the string's place and length, the touches' place and number -/
def mFr : E := vE 0
def mTo : E := vE 1
def mOu : E := vE 2
def mSo : E := vE 3
def mSn : E := vE 4
def mBo : E := vE 5
def mBn : E := vE 6
def mBy : E := appE 1000 [.add mSo (L 0)]
def mTch : E := appE 30 [mOu, L 0, mBo, mBn]
def mFar : E := wE (.sub mTo mFr)

def range34 (d : DT) : DT := .node (.le (L 0) mFr) (.node (.le mFr (L 3)) (.node (.le (L 1) mTo) (.node (.le mTo (L 4)) d (dLf 3)) (dLf 3)) (dLf 3)) (dLf 3)
def tchD : DT := .node (.eq mTch (L 0)) (dLf 0) (.leaf mTch)
def farD (lo hi : Int) : DT := .node (.le (L lo) mFar) (.node (.le mFar (L hi)) tchD (dLf 15)) (dLf 15)
def wayP : List (Int × Int × Int × Int) → DT
  | [] => dLf 13
  | (c, b, lo, hi) :: l => .node (.eq mBy (L c)) (.node (.eq mFr (L 0)) (farD 1 b) (farD lo hi)) (wayP l)
def safeW : List (Int × Int × Int × Int) := [(98, 4, 1, 4), (97, 4, 1, 4), (115, -1, 1, 4), (112, 4, 1, 4), (107, -1, 1, 4), (116, 4, 1, 4), (111, 4, 1, 4)]
def outsW : List (Int × Int × Int × Int) := [(102, 1, 1, 1), (103, 4, 0, 4), (99, 1, 0, -1), (100, -1, 0, 0), (107, 1, 0, -1), (110, 1, 1, 4), (121, 1, 0, -1)]
/-- what the program answers -/
def moveP : DT := range34 (.node (.eq mSn (L 1)) (.node (.eq mOu (L 0)) (wayP safeW) (wayP outsW)) (dLf 13))
/-- what the reference answers -/
def goodD (t : Tst) : DT := .node t (.leaf mTch) (dLf 15)
def wayR (d : Int → DT) : List Int → DT
  | [] => dLf 13
  | c :: l => .node (.eq mBy (L c)) (d c) (wayR d l)
def safeR (c : Int) : DT := .node (.le mTo mFr) (dLf 15) (.node (.le mFr (L 0)) (if c = 115 ∨ c = 107 then dLf 15 else (.leaf mTch)) (.leaf mTch))
def outsR (c : Int) : DT :=
  if c = 100 then .node (.le mFr (L 0)) (dLf 15) (goodD (.eq mTo mFr))
  else if c = 103 then goodD (.le mFr mTo)
  else if c = 110 then .node (.le mTo mFr) (dLf 15) (.node (.le mFr (L 0)) (goodD (.eq mTo (L 1))) (.leaf mTch))
  else if c = 102 then goodD (.eq mTo (wE (.add mFr (L 1))))
  else .node (.eq mFr (L 0)) (goodD (.eq mTo (L 1))) (dLf 15)
def moveR : DT := range34 (.node (.eq mSn (L 1)) (.node (.eq mOu (L 0)) (wayR safeR [98, 97, 115, 112, 107, 116, 111]) (wayR outsR [102, 103, 99, 100, 107, 110, 121])) (dLf 13))

/-- The functions that symbols stand for. -/
def fM (y t : Int → Int) (f : Nat) (l : List Int) : Int :=
  if f = 1000 then y (l.headD 0) else if f = 2000 then t (l.headD 0) else match f, l with
  | 30, [x, k, o, n] => tchV x (fun j => if k = 0 then t j else 0) o n
  | _, _ => 0

/-! ### the check of touches as a primitive -/
def argT : List V → Option (E × Nat × E × E)
  | [.a (.c (.ost k o n)), .a (.c (.sb x))] => some (x, k, o, n)
  | [.a (.c (.ost k o n)), .a (.c (.sc (.bool b)))] => some (L (bif b then 1 else 0), k, o, n)
  | _ => none
def argTR : List V → Option (E × Nat × E × E)
  | [.a (.agg [_, _, .sb x, _, .ost k o n])] => some (x, k, o, n)
  | _ => none
def ansT (p : E × Nat × E × E) : V := sE (appE 30 [p.1, L (p.2.1 : Nat), p.2.2.1, p.2.2.2])
def pT (_ : Nat) (args : List V) (st : St) : Option (V × St) := (argT args).map fun p => (ansT p, st)
def pTR (_ : Nat) (args : List V) (st : St) : Option (V × St) := (argTR args).map fun p => (ansT p, st)

section
variable {q : FuncId → Option PT} {g : Nat → List Int → Int} {d : Nat → Option DT} {o : Nat → Option (List C)} {B : Nat}

theorem pokT (hg : ∀ (x : Int) (k : Nat) (o n : Int), g 30 [x, (k : Int), o, n] = tchV x (fun j => g (2000 + k) [j]) o n) : POk (cxW q g d o) B 80 pT := by
  intro fl β st w args args' v st' hi hfl ha hpv
  have hL : Laid w := laid_base (cx' := cxW q g d o) rfl hi
  have hfn : β.env.f = g := hi.facts.fns
  simp only [pT, Option.map_eq_some_iff, Prod.mk.injEq] at hpv
  obtain ⟨p, hp, rfl, rfl⟩ := hpv
  unfold argT at hp
  obtain ⟨al⟩ := args'
  split at hp
  · rename_i k oe ne x
    simp only [Option.some.injEq] at hp; subst hp
    match al, ha with
    | [v1, v2], ha =>
      obtain ⟨r1, r2, _⟩ := ha
      have e2 : v2 = .bool (decide (x.val β.env ≠ 0)) := r2
      subst e2
      refine prim_kept hi (v' := vi (tchV (x.val β.env) (fun j => β.env.f (2000 + k) [j]) (oe.val β.env) (ne.val β.env))) ?_ (tch_ret _ _ _ _ _ w hL (ints_of hi r1))
      exact ansI_rel (by rw [hfn]; exact hg _ _ _ _)
  · rename_i k oe ne b
    simp only [Option.some.injEq] at hp; subst hp
    match al, ha with
    | [v1, v2], ha =>
      obtain ⟨r1, r2, _⟩ := ha
      have e2 : v2 = .bool (decide ((bif b then (1 : Int) else 0) ≠ 0)) := by
        have : v2 = .bool b := r2
        rw [this]; cases b <;> rfl
      subst e2
      refine prim_kept hi (v' := vi (tchV (bif b then (1 : Int) else 0) (fun j => β.env.f (2000 + k) [j]) (oe.val β.env) (ne.val β.env))) ?_ (tch_ret _ _ _ _ _ w hL (ints_of hi r1))
      exact ansI_rel (by rw [hfn]; exact hg _ _ _ _)
  · cases hp

theorem pokTR (hg : ∀ (x : Int) (k : Nat) (o n : Int), g 30 [x, (k : Int), o, n] = tchV x (fun j => g (2000 + k) [j]) o n) : POk (cxW q g d o) B 83 pTR := by
  intro fl β st w args args' v st' hi hfl ha hpv
  have hL : Laid w := laid_base (cx' := cxW q g d o) rfl hi
  have hfn : β.env.f = g := hi.facts.fns
  simp only [pTR, Option.map_eq_some_iff, Prod.mk.injEq] at hpv
  obtain ⟨p, hp, rfl, rfl⟩ := hpv
  unfold argTR at hp
  split at hp
  case h_2 => cases hp
  rename_i c1 c2 x c3 k oe ne
  simp only [Option.some.injEq] at hp; subst hp
  obtain ⟨al⟩ := args'
  match al, ha with
  | [v1], ha =>
    obtain ⟨⟨⟨cs⟩, rfl, hr, hs⟩, _⟩ := ha
    match cs, hr with
    | [u1, u2, u3, u4, u5], ⟨_, _, r3, _, r5, _⟩ =>
      have e2 : u3 = .bool (decide (x.val β.env ≠ 0)) := r3
      subst e2
      refine prim_kept hi (v' := vi (tchV (x.val β.env) (fun j => β.env.f (2000 + k) [j]) (oe.val β.env) (ne.val β.env))) ?_ (tchR_ret _ _ _ _ _ _ _ _ w hL (ints_of hi r5) (hs _ (by simp)) (hs _ (by simp)) (hs _ (by simp)))
      exact ansI_rel (by rw [hfn]; exact hg _ _ _ _)
end

noncomputable def tM : FuncId → Option PT := addP 80 pT (addP 83 pTR cx.prim)
noncomputable def cxM (g : Nat → List Int → Int) : Cx := cxW tM g noDefs noRows
def argsM : List V := [.a (.agg [syC mFr, syC mTo, .sb mOu, .ot 0 mSo mSn, .ost 0 mBo mBn])]
noncomputable def runM (g : Nat → List Int → Int) (f : Nat) (l0 : Asg) (d : DT) : Bool := runOne 200 40 (cxM g) f l0 argsM (fun l => isT (cxM g) l d)
end Go.Proofs.Tryz

namespace Go.Proofs.Tryz
open Go Go.Am
set_option maxRecDepth 100000
theorem runMove0 (g : Nat → List Int → Int) : runM g 18 [(.eq mSn (L 1), false)] moveP = true := by kernel_rfl
theorem runMove1 (g : Nat → List Int → Int) : runM g 18 [(.eq mSn (L 1), true), (.eq mOu (L 0), true)] moveP = true := by kernel_rfl
theorem runMove2 (g : Nat → List Int → Int) : runM g 18 [(.eq mSn (L 1), true), (.eq mOu (L 0), false)] moveP = true := by kernel_rfl
end Go.Proofs.Tryz

namespace Go.Proofs.Tryz
open Go Go.Am
set_option maxRecDepth 100000
theorem runMoveR0 (g : Nat → List Int → Int) : runM g 20 [(.eq mSn (L 1), false)] moveR = true := by kernel_rfl
theorem runMoveR1 (g : Nat → List Int → Int) : runM g 20 [(.eq mSn (L 1), true), (.eq mOu (L 0), true)] moveR = true := by kernel_rfl
theorem runMoveR2 (g : Nat → List Int → Int) : runM g 20 [(.eq mSn (L 1), true), (.eq mOu (L 0), false)] moveR = true := by kernel_rfl
end Go.Proofs.Tryz
