/- On the seat of the open Play statements: PlayCounts: what the kernel runs. -/
import Derived.Test.YthlmjjdlmidnlaaGreatDoorArI
import Derived.Test.YthlmjjdlmidnlaaGreatDoorArNc
namespace Go.Proofs.Tryz
open Go Go.Am
set_option maxRecDepth 100000

theorem cntG (y t : Nat → Int → Int) : Cn.Cnt (fG y t) := by
  have e : ∀ k : Nat, (fun j => fG y t (1000 + k) [j]) = bs y t (1000 + k) := fun k => by funext j; rw [fG_y]
  refine ⟨fun a s k o n => ?_, fun a s k o n => ?_, fun a s k o n => ?_, fun a s k o n => ?_⟩ <;> rw [fG_s (by omega), e] <;> rfl

/-- the moves' symbols; what the check of the play answers -/
def mvEs : Nat → Nat → List MvE
  | 0, _ => []
  | n + 1, i => mvE i :: mvEs n (i + 1)
def plX (n : Nat) : E := plE 0 yO yN 1 eO eN n (mvEs n 0)
def xF : List Bool → Nat → Asg
  | [], _ => []
  | b :: l, i => (.eq (pv i 2) (L 0), b) :: xF l (i + 1)
def bitsL : Nat → List (List Bool)
  | 0 => [[]]
  | n + 1 => (bitsL n).flatMap fun l => [true :: l, false :: l]
def factsX (n : Nat) (l : List Bool) : Asg := (.eq (plX n) (L 0), true) :: xF l 0

noncomputable def tU (k : Option Nat) : FuncId → Option PT := addP 43 Cn.pC (addP 44 Cn.pC (tLf k))
noncomputable def cxU (k : Option Nat) (g : Nat → List Int → Int) : Cx := cxW (tU k) g noDefs (rowsP k)
def argsU (k : Option Nat) : List V := [.a (.agg (playC k)), vc (.ot 10 (pv 8 3) (pv 8 4)), .a (.agg [syC (pv 8 0), syC (pv 8 1)])]
noncomputable def runU (k : Option Nat) (g : Nat → List Int → Int) (l0 : Asg) : Bool :=
  paths 40 l0 (askCallF (cxU k g) noAnn noTails 200 0 7 (argsU k) ⟨.nil, 0⟩) fun l => callG (withT (cxU k g) l) (runL (cxU k g) noAnn 200 noTails l) 0 7 (argsU k) ⟨.nil, 0⟩ (fun v _ => isTrue v)
noncomputable def runUs (n : Nat) (g : Nat → List Int → Int) (pre : List Bool) (m : Nat) : Bool := (bitsL m).all fun l => runU (some n) g (factsX n (pre ++ l))
end Go.Proofs.Tryz
