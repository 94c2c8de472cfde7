/- On the play seat's program, 'awake' ends in true: held on every road by the evaluator. On the play seat's program, 'awake' comes back with true, and what was in memory is as it was. -/
import Derived.Test.YthlmjjdlmidnlaaGreatDoorArZa
import Derived.Test.YthlmjjdlmidnlaaGreatDoorAmFb
namespace Go.Proofs.Tryz
open Go Go.Am
def isTrue : V → Bool
  | .a (.c (.sc (.bool true))) => true
  | _ => false
theorem awakeRun : callG cx (runG cx 1000) 0 13 [] ⟨.nil, 0⟩ (fun v _ => isTrue v) = true := by kernel_rfl
end Go.Proofs.Tryz

namespace Go.Proofs.Tryz
open Go Go.Am
set_option maxRecDepth 100000

theorem isTrue_rel {β : Be} {v : V} {v' : Value} (h : isTrue v = true) (hr : VRel β v v') : v' = .bool true := by
  unfold isTrue at h
  split at h
  · exact hr
  · cases h

theorem awake {w : World} (h : Laid w) : CallRet prog 13 #[] w fun v' w' => v' = .bool true ∧ Kept w w' :=
  (call_ok (n := 1000) (f := 13) (args := []) (fl := 0) (st := ⟨.nil, 0⟩) (K := fun v _ => isTrue v) mixed cxOk (primsOk _) (by rw [← fast]; exact awakeRun) (Nat.le_refl _) (inv00 h) (args' := #[]) trivial).mono fun _ _ ⟨_, _, _, h1, h2, h3⟩ => ⟨isTrue_rel h1 h2, Kept.of (fun id o _ ho => by simp [T.get] at ho) h3⟩
end Go.Proofs.Tryz
