/- The index of a game in a book: by the kit's walk. Plain: what a valid game holds. -/
import Derived.Test.YtbfonnoebbjenaaGreatDoorAxTl
import Derived.Test.YtbfonnoebbjenaaGreatDoorAxTc
namespace Go.Proofs.Tryz
open Go Go.Am Go.RowKit Go.Op
set_option maxRecDepth 100000

set_option maxHeartbeats 1600000 in
theorem indexG_w {w : World} {v : Value} {g : Nat → GmD} {n : Nat} (h : IsGames w v g n) (hn : n ≤ 10000) (nm : List UInt8) :
    Calls prog 125 #[.agg #[v], .string (bA nm)] w fun e w' => e = .returned (.int .i64 (fndK g nm 0 n)) ∧ Below w.heap.size w w' := by
  have h3 : At ((w.alloc (.cells #[v] 31)).alloc (.cells #[.string (bA nm)] 9)) (w.heap.size + 1) #[.string (bA nm)] 9 := by
    have := at_new (w.alloc (.cells #[v] 31)) #[.string (bA nm)] 9
    simpa using this
  have hB : Below w.heap.size w ((w.alloc (.cells #[v] 31)).alloc (.cells #[.string (bA nm)] 9)) := ((Below.refl _ _).alloc (Nat.le_refl _) _).alloc (by simp) _
  have h3c : ((w.alloc (.cells #[v] 31)).alloc (.cells #[.string (bA nm)] 9)).cell? ⟨w.heap.size + 1, 0, none⟩ = some (.string (bA nm)) := by
    unfold At at h3
    simp only [World.cell?, h3]
    rfl
  have c159 := indexGF_w (h.below hB) hn nm 160 #[.pointer (some ⟨w.heap.size + 1, 0, none⟩)] (enters_of func160 (by kernel_rfl) rfl) (fun x lv W hb => clo160 x lv nm W ((hb.cell (cell_under h3c)).trans h3c))
  generalize fndK g nm 0 n = K at c159 ⊢
  clear h h3 h3c
  go_enter func125, ntmps125
  go_wp2_with fail
  go_at_call 159
  refine c159.mono ?_
  rintro e W2 ⟨rfl, hb2⟩
  have hb3 := hB.trans (hb2.mono hB.size)
  clear c159
  go_wp2_with fail
  go_ret
  exact ⟨rfl, hb3⟩
end Go.Proofs.Tryz

namespace Go.Proofs.Tryz
open Go Go.Am Go.RowKit Go.Op
set_option maxRecDepth 100000

theorem fst_every : ∀ {l : List Int}, fstE l = 0 → ∀ x ∈ l, x = 0
  | [], _, _, hx => absurd hx List.not_mem_nil
  | y :: r, h, x, hx => by
    unfold fstE at h
    split at h
    · rename_i q
      rcases List.mem_cons.1 hx with e | e
      · rw [e]; exact q
      · exact fst_every h x e
    · rename_i q; exact absurd h q
theorem inE_both {n lo hi : Int} (h : inE n lo hi = 0) : lo ≤ n ∧ n ≤ hi := by
  unfold inE at h
  split at h
  · cases h
  · omega
theorem nmE_is {l : List UInt8} (h : nmE l = 0) : isNm l = true := by
  unfold nmE at h
  split at h
  · assumption
  · cases h
/-- What a valid game holds. -/
theorem gm_head {g : GmD} (h : gmE g = 0) : isNm g.nm = true ∧ (1 ≤ g.ver ∧ g.ver ≤ 999999999) ∧ (0 ≤ g.day ∧ g.day ≤ 99999) ∧ isNm g.t0 = true ∧ isNm g.t1 = true ∧ g.t0 ≠ g.t1 ∧ ((0 ≤ g.s0 ∧ g.s0 ≤ 999) ∧ (0 ≤ g.s1 ∧ g.s1 ≤ 999)) ∧ g.k ≤ 60 := by
  unfold gmE at h
  split at h
  · rename_i hq
    have hall := fst_every hq
    unfold headL at hall
    refine ⟨nmE_is (hall _ (by simp)), inE_both (hall (inE g.ver 1 999999999) (by simp)), inE_both (hall (inE g.day 0 99999) (by simp)), nmE_is (hall (nmE g.t0) (by simp)), nmE_is (hall (nmE g.t1) (by simp)), fun e => ?_, ⟨inE_both (hall (inE g.s0 0 999) (by simp)), inE_both (hall (inE g.s1 0 999) (by simp))⟩, ?_⟩
    · have := hall (if g.t0 = g.t1 then 9 else 0) (by simp)
      rw [if_pos e] at this
      cases this
    · have := hall (if 60 < g.k then 5 else 0) (by simp)
      split at this
      · cases this
      · omega
  · rename_i hq; exact absurd h hq
end Go.Proofs.Tryz
