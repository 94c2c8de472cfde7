/- On the season seat's program, 'awake' comes back with true, and what was in memory is as it was. -/
import Derived.Test.YtbfonnoebbjenaaGreatDoorAmZc
import Derived.Test.YtbfonnoebbjenaaGreatDoorAmZa
namespace Go.Proofs.Tryz
open Go Go.Am
set_option maxRecDepth 100000

theorem isTrue_rel {β : Be} {v : V} {v' : Value} (h : isTrue v = true) (hr : VRel β v v') : v' = .bool true := by
  unfold isTrue at h
  split at h
  · exact hr
  · cases h

theorem awake {w : World} (h : Laid w) : CallRet prog 15 #[] w fun v' w' => v' = .bool true ∧ Kept w w' :=
  (callCutG mixed cxOk (primsOk _) awakeRun (Nat.le_refl _) (inv00 h) (args' := #[]) trivial).mono fun _ _ ⟨_, _, _, h1, h2, h3⟩ => ⟨isTrue_rel h1 h2, Kept.of (fun id o _ ho => by simp [T.get] at ho) h3⟩
end Go.Proofs.Tryz
