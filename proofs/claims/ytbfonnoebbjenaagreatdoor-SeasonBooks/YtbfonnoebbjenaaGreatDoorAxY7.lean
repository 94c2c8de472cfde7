/- On the season seat: the card of SeasonBooks: the law returns true for every input, and each argument reads behind the call as it read before. -/
import Derived.Test.YtbfonnoebbjenaaGreatDoorAxW7
import Derived.Test.YtbfonnoebbjenaaGreatDoorTie
import Derived.Test.YtbfonnoebbjenaaGreatDoorCards
import Derived.SevenTiedAt
namespace Go.Proofs.YtbfonnoebbjenaaGreatDoor
open Go
set_option maxRecDepth 100000

theorem booksCard : Rows.SeasonBooksCardSaid :=
  Claim7.holds_tied_plain_at .later [] [.data, .data, .data, .widerDeep] true (true, "54bc7f06a043235b700d4102272d9bcbe39d0a4849f4e8ec154460d590aebe3e") true
    Tryz.books_holds (fun _ h => by cases h) (by as_aux_lemma => kernel_rfl) (fun _ h => by cases h) seasonBooks_row_tie rfl ⟨rfl, rfl⟩ (by as_aux_lemma => kernel_rfl) rfl
    (fun f fn hf hfn => by
      obtain rfl : f = 10 := Option.some.inj (Tryz.f10_named.symm.trans hf) |>.symm
      obtain rfl : fn = Tryz.f10 := (Option.some.inj (Tryz.func10.symm.trans hfn)).symm
      exact ⟨by as_aux_lemma => kernel_rfl, fun j t ht => by
        rw [Tryz.params10] at ht
        have hm : t ∈ [22, 105, 9] := by simpa using Array.mem_of_getElem? ht
        have hall : ([22, 105, 9].all fun u => !Tryz.prog.wantsStandIn u) = true := by as_aux_lemma => kernel_rfl
        exact (show Tryz.prog.wantsStandIn t = false by simpa using List.all_eq_true.1 hall t hm)⟩)
    (by as_aux_lemma => kernel_rfl)
end Go.Proofs.YtbfonnoebbjenaaGreatDoor
