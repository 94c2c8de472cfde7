/- On the play seat's program: the card of PlayParts: the law returns true for every input, and each argument reads behind the call as it read before. -/
import Derived.Test.YtfnpmcbilejbbaaGreatDoorAqX3
import Derived.Test.YtfnpmcbilejbbaaGreatDoorTie
import Derived.Test.YtfnpmcbilejbbaaGreatDoorCards
import Derived.SevenTiedAt
namespace Go.Proofs.YtfnpmcbilejbbaaGreatDoor
open Go
set_option maxRecDepth 100000

theorem partsCard : Rows.PlayPartsCardSaid :=
  Claim7.holds_tied_plain_at .later [] [.data, .widerDeep, .widerDeep, .pinned] true (true, "d5d0d111f696f8f1e1e0b6d58550842d237d2a96111bf06fe1009cb1fda8ecd8") false
    Tryz.parts_holds (fun _ h => by cases h) (by as_aux_lemma => kernel_rfl) (fun _ h => by cases h) playParts_row_tie rfl ⟨rfl, rfl⟩ (by as_aux_lemma => kernel_rfl) rfl
    (fun f fn hf hfn => by
      obtain rfl : f = 4 := Option.some.inj (Tryz.f4_named.symm.trans hf) |>.symm
      obtain rfl : fn = Tryz.f4 := (Option.some.inj (Tryz.func4.symm.trans hfn)).symm
      exact ⟨by as_aux_lemma => kernel_rfl, fun j t ht => by
        rw [Tryz.params4] at ht
        have hm : t ∈ [9, 5, 38] := by simpa using Array.mem_of_getElem? ht
        have hall : ([9, 5, 38].all fun u => !Tryz.prog.wantsStandIn u) = true := by as_aux_lemma => kernel_rfl
        exact (show Tryz.prog.wantsStandIn t = false by simpa using List.all_eq_true.1 hall t hm)⟩)
    (by as_aux_lemma => kernel_rfl)
end Go.Proofs.YtfnpmcbilejbbaaGreatDoor
