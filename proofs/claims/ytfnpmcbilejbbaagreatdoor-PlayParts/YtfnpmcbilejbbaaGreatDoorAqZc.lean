/- On the play seat's program, 'awake' ends in true: held on every road by the evaluator. -/
import Derived.Test.YtfnpmcbilejbbaaGreatDoorAqZa
import Derived.Test.YtfnpmcbilejbbaaGreatDoorAmFb
namespace Go.Proofs.Tryz
open Go Go.Am
def isTrue : V → Bool
  | .a (.c (.sc (.bool true))) => true
  | _ => false
theorem awakeRun : callG cx (runG cx 1000) 0 6 [] ⟨.nil, 0⟩ (fun v _ => isTrue v) = true := by kernel_rfl
end Go.Proofs.Tryz
