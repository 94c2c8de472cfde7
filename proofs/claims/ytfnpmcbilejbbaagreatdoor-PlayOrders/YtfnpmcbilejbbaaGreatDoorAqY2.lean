/- On the play seat's program: the card of PlayOrders: the law returns true for every input, and each argument reads behind the call as it read before. -/
import Derived.Test.YtfnpmcbilejbbaaGreatDoorAqX2
import Derived.Test.YtfnpmcbilejbbaaGreatDoorTie
import Derived.Test.YtfnpmcbilejbbaaGreatDoorCards
import Derived.SevenTiedAt
namespace Go.Proofs.YtfnpmcbilejbbaaGreatDoor
open Go
set_option maxRecDepth 100000

theorem ordersCard : Rows.PlayOrdersCardSaid :=
  Claim7.holds_tied_plain_at .later [] [.data, .widerDeep, .widerDeep, .pinned] true (true, "d5d0d111f696f8f1e1e0b6d58550842d237d2a96111bf06fe1009cb1fda8ecd8") false
    Tryz.orders_holds (fun _ h => by cases h) (by as_aux_lemma => kernel_rfl) (fun _ h => by cases h) playOrders_row_tie rfl ⟨rfl, rfl⟩ (by as_aux_lemma => kernel_rfl) rfl
    (fun f fn hf hfn => by
      obtain rfl : f = 5 := Option.some.inj (Tryz.f5_named.symm.trans hf) |>.symm
      obtain rfl : fn = Tryz.f5 := (Option.some.inj (Tryz.func5.symm.trans hfn)).symm
      exact ⟨by as_aux_lemma => kernel_rfl, fun j t ht => by
        rw [Tryz.params5] at ht
        have hm : t ∈ [23, 23, 23] := by simpa using Array.mem_of_getElem? ht
        have hall : ([23, 23, 23].all fun u => !Tryz.prog.wantsStandIn u) = true := by as_aux_lemma => kernel_rfl
        exact (show Tryz.prog.wantsStandIn t = false by simpa using List.all_eq_true.1 hall t hm)⟩)
    (by as_aux_lemma => kernel_rfl)
end Go.Proofs.YtfnpmcbilejbbaaGreatDoor
