/- On the season seat's program: SeasonStreaks returns true: run with symbols, on all roads. -/
import Derived.Test.YtbfonnoebbjenaaGreatDoorAmL4
namespace Go.Proofs.Tryz
open Go Go.Am
set_option maxRecDepth 100000

def aV (j : Nat) : E := .var (400 + j)
def bV (j : Nat) : E := .var (404 + j)
def asgF : Asg := [(.eq (pE (bV 0) (aV 2)) (pE (aV 2) (bV 0)), true)]
def isTrueV : V → Bool
  | .a (.c (.sc (.bool true))) => true
  | _ => false
def argsF (x : C) : List V := [.a (.c x), streakV (aV 0) (aV 1) (aV 2) (aV 3), streakV (bV 0) (bV 1) (bV 2) (bV 3)]
noncomputable def runF (rows : Nat → Option (List C)) (x : C) (asg : Asg) : Bool :=
  paths 60 asg (askCall (cxF rows) noAnn 100 0 5 (argsF x) ⟨.nil, 0⟩) fun l => callF (withT (cxF rows) l) (runA (cxF rows) noAnn 100 l) 0 5 (argsF x) ⟨.nil, 0⟩ fun v _ => isTrueV v

noncomputable def runN (n : Nat) : Bool := runF (rowS n) (.osl 0 0 n) asgF
theorem run_0 : runF noRows (.slx (L 0)) asgF = true := by kernel_rfl
theorem run_1 : (nats 7).all (fun n => runN (n + 1)) = true := by kernel_rfl
theorem run_8 : (nats 5).all (fun n => runN (n + 8)) = true := by kernel_rfl
theorem run_257 : runN 257 = true := by kernel_rfl
theorem run_258 : runN 258 = true := by kernel_rfl
theorem run_mid : runF noRows (.slx (.var 300)) [(.le (.var 300) (L 256), true), (.le (.var 300) (L 12), false)] = true := by kernel_rfl
theorem run_big : runF noRows (.slx (.var 300)) [(.le (.var 300) (L 258), false)] = true := by kernel_rfl
end Go.Proofs.Tryz
