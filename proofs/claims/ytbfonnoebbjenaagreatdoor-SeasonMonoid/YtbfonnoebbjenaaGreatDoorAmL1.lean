/- On the season seat's program: CheckStreak, and the reference's, answer by the same cases. -/
import Derived.Test.YtbfonnoebbjenaaGreatDoorAmZa
import Derived.Test.YtbfonnoebbjenaaGreatDoorAmLa
import Derived.KernelRfl
namespace Go.Proofs.Tryz
open Go Go.Am
set_option maxRecDepth 100000

def vE (n : Nat) : E := .var n
def gE : E := .var 0
def fE : E := .var 1
def aE : E := .var 2
def oE : E := .var 3
def pE (a b : E) : E := .wrap .i64 (.add a b)
def mE (a b : E) : E := .wrap .i64 (.sub a b)
def L (n : Int) : E := .lit n

def okT : DT := .leaf (L 0)
def formT : DT := .leaf (L 1)
def rangeT : DT := .leaf (L 3)
/-- The first error of a streak. -/
def checkT : DT :=
  .node (.le (L 0) gE) (.node (.le gE (L 999999999))
    (.node (.le (L 0) fE) (.node (.le (L 0) aE) (.node (.le fE oE) (.node (.le aE oE) (.node (.le oE gE)
      (.node (.eq oE gE) (.node (.eq fE gE) (.node (.eq aE gE) okT formT) formT)
        (.node (.le (pE fE aE) (mE gE (L 1))) (.node (.le oE (.max fE aE)) okT (.node (.le (pE (pE fE aE) oE) (mE gE (L 2))) okT formT)) formT))
      formT) formT) formT) formT) formT) rangeT) rangeT

def streakV (a b c d : E) : V := .a (.agg [.sy .i64 a, .sy .i64 b, .sy .i64 c, .sy .i64 d])
def isT (cx : Cx) (l : Asg) (d : DT) : V → St → Bool := fun v _ => match v with
  | .a (.c c) => cellIs (Am.ask (withT cx l)) .i64 d c
  | _ => false

def noAnn : Ann := fun _ _ => none
def noDefs : Nat → Option DT := fun _ => none
def noRows : Nat → Option (List C) := fun _ => none
noncomputable def cxC : Cx := cxW cx.prim (fun _ _ => 0) noDefs noRows

noncomputable def checkRun (f : FuncId) : Bool :=
  paths 60 [] (askCall cxC noAnn noTails 100 0 f [streakV gE fE aE oE] ⟨.nil, 0⟩) fun l => callF (withT cxC l) (runA cxC noAnn 100 noTails l) 0 f [streakV gE fE aE oE] ⟨.nil, 0⟩ (isT cxC l checkT)
theorem checkRun44 : checkRun 44 = true := by kernel_rfl
theorem checkRun42 : checkRun 42 = true := by kernel_rfl

def ρ4 (w : World) (g f a o : Int) : Env := ⟨fun n => [g, f, a, o].getD n 0, fun _ _ => 0, fun _ => (0, 0), memOf w⟩
/-- The first error of a streak, as a number. -/
def checkF (g f a o : Int) : Int := checkT.eval ⟨fun n => [g, f, a, o].getD n 0, fun _ _ => 0, fun _ => (0, 0), fun _ _ => none⟩

theorem eval_mem (d : DT) (v : Nat → Int) (f : Nat → List Int → Int) (o o' : Nat → Nat × Nat) (m m' : Nat → Nat → Option Value) : d.eval ⟨v, f, o, m⟩ = d.eval ⟨v, f, o', m'⟩ := by
  have hE : ∀ e : E, e.vals ⟨v, f, o, m⟩ = e.vals ⟨v, f, o', m'⟩ := fun e => by induction e <;> simp_all [E.vals]
  have hV : ∀ e : E, e.val ⟨v, f, o, m⟩ = e.val ⟨v, f, o', m'⟩ := fun e => by simp [E.val, hE]
  induction d with
  | leaf e => exact hV e
  | node t a b iha ihb =>
    have ht : t.holds ⟨v, f, o, m⟩ = t.holds ⟨v, f, o', m'⟩ := by cases t <;> simp [Tst.holds, hV]
    simp only [DT.eval, ht, iha, ihb]

theorem run_check {f : FuncId} (hk : checkRun f = true) {w : World} (h : Laid w) (g p a o : Int) : CallRet prog f #[.agg #[.int .i64 g, .int .i64 p, .int .i64 a, .int .i64 o]] w fun v' w' => v' = .int .i64 (checkF g p a o) ∧ Kept w w' := by
  have hi : Inv cxC w.heap.size ⟨fun _ => none, ρ4 w g p a o⟩ ⟨.nil, 0⟩ w := inv0 (ρ4 w g p a o) rfl rfl (fun m x hx => by cases hx) h (fun k l hk => by cases hk)
  obtain ⟨l', h1, h2⟩ := symCallA (tl := noTails) (ann := noAnn) (n := 100) (m := 60) (fl := 0) (args' := #[.agg #[.int .i64 g, .int .i64 p, .int .i64 a, .int .i64 o]]) mixed cxWOk (fun f p hp => primsOk w.heap.size f p hp) rfl hk (fun p hp => by cases hp) (Nat.le_refl _) hi
    ⟨⟨_, rfl, ⟨rfl, rfl, rfl, rfl, trivial⟩, fun x hx => by simp at hx; rcases hx with rfl | rfl | rfl | rfl <;> rfl⟩, trivial⟩
  refine h2.mono ?_
  rintro v' w' ⟨v, st', β', q1, q2, q3⟩
  refine ⟨?_, Kept.ofNil q3⟩
  unfold isT at q1
  split at q1
  · rename_i c
    have hβ : β'.env = ρ4 w g p a o := q3.ext.env
    have fs : Facts (withT cxC l') β'.env := by rw [hβ]; exact facts_with hi.facts h1
    have := cellIs_ok (β := β') (fun t b => ask_holds fs) q1 rfl q2
    rw [this, hβ]
    exact congrArg _ (eval_mem _ _ _ _ _ _ _)
  · cases q1
end Go.Proofs.Tryz
