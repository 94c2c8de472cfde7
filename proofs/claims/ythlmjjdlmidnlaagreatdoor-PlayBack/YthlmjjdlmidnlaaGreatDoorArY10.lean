/- On the seat of the open Play statements: the card of PlayBack: the law returns true for every input, and each argument reads behind the call as it read before. -/
import Derived.Test.YthlmjjdlmidnlaaGreatDoorAvHu
import Derived.Test.YthlmjjdlmidnlaaGreatDoorTie
import Derived.Test.YthlmjjdlmidnlaaGreatDoorCards
import Derived.SevenTiedAt
namespace Go.Proofs.YthlmjjdlmidnlaaGreatDoor
open Go
set_option maxRecDepth 100000

theorem backCard : Rows.PlayBackCardSaid :=
  Claim7.holds_tied_plain_at .later [] [.data, .widerDeep, .widerDeep, .pinned] true (true, "531036d3ee5cb7aff87b5cffaa980339396344aba1b56e1f63d95c5c501276f5") false
    Tryz.back_holds (fun _ h => by cases h) (by as_aux_lemma => kernel_rfl) (fun _ h => by cases h) playBack_row_tie rfl ⟨rfl, rfl⟩ (by as_aux_lemma => kernel_rfl) rfl
    (fun f fn hf hfn => by
      obtain rfl : f = 12 := Option.some.inj (Tryz.f12_named.symm.trans hf) |>.symm
      obtain rfl : fn = Tryz.f12 := (Option.some.inj (Tryz.func12.symm.trans hfn)).symm
      exact ⟨by as_aux_lemma => kernel_rfl, fun j t ht => by
        rw [Tryz.params12] at ht
        have hm : t ∈ [24, 24, 86] := by simpa using Array.mem_of_getElem? ht
        have hall : ([24, 24, 86].all fun u => !Tryz.prog.wantsStandIn u) = true := by as_aux_lemma => kernel_rfl
        exact (show Tryz.prog.wantsStandIn t = false by simpa using List.all_eq_true.1 hall t hm)⟩)
    (by as_aux_lemma => kernel_rfl)
end Go.Proofs.YthlmjjdlmidnlaaGreatDoor
