/- On the season seat's program, 'awake' ends in true: held on every road by the evaluator. -/
import Derived.Test.YtbfonnoebbjenaaGreatDoorAmZa
import Derived.Test.YtbfonnoebbjenaaGreatDoorAmFc
namespace Go.Proofs.Tryz
open Go Go.Am
def isTrue : V → Bool
  | .a (.c (.sc (.bool true))) => true
  | _ => false
theorem awakeRun : callG cx (runH cx (cutG cx [17] [] 1000) 1000) 0 15 [] ⟨.nil, 0⟩ (fun v _ => isTrue v) = true := by kernel_rfl
end Go.Proofs.Tryz
