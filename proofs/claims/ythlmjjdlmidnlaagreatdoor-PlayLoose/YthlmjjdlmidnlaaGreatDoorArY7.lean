/- On the seat of the open Play statements: the card of PlayLoose: the law returns true for every input, and each argument reads behind the call as it read before. -/
import Derived.Test.YthlmjjdlmidnlaaGreatDoorAsAh
import Derived.Test.YthlmjjdlmidnlaaGreatDoorTie
import Derived.Test.YthlmjjdlmidnlaaGreatDoorCards
import Derived.SevenTiedAt
namespace Go.Proofs.YthlmjjdlmidnlaaGreatDoor
open Go
set_option maxRecDepth 100000

theorem looseCard : Rows.PlayLooseCardSaid :=
  Claim7.holds_tied_plain_at .later [] [.data, .widerDeep, .widerDeep, .pinned] true (true, "531036d3ee5cb7aff87b5cffaa980339396344aba1b56e1f63d95c5c501276f5") false
    Tryz.loose_holds (fun _ h => by cases h) (by as_aux_lemma => kernel_rfl) (fun _ h => by cases h) playLoose_row_tie rfl ⟨rfl, rfl⟩ (by as_aux_lemma => kernel_rfl) rfl
    (fun f fn hf hfn => by
      obtain rfl : f = 10 := Option.some.inj (Tryz.f10_named.symm.trans hf) |>.symm
      obtain rfl : fn = Tryz.f10 := (Option.some.inj (Tryz.func10.symm.trans hfn)).symm
      exact ⟨by as_aux_lemma => kernel_rfl, fun j t ht => by
        rw [Tryz.params10] at ht
        have hm : t ∈ [24, 24, 3] := by simpa using Array.mem_of_getElem? ht
        have hall : ([24, 24, 3].all fun u => !Tryz.prog.wantsStandIn u) = true := by as_aux_lemma => kernel_rfl
        exact (show Tryz.prog.wantsStandIn t = false by simpa using List.all_eq_true.1 hall t hm)⟩)
    (by as_aux_lemma => kernel_rfl)
end Go.Proofs.YthlmjjdlmidnlaaGreatDoor
