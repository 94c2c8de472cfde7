/- On the season seat's program: SeasonStreaks comes back with true from every input, and what was in memory is as it was. -/
import Derived.Test.YtbfonnoebbjenaaGreatDoorAmL5
import Derived.Test.YtbfonnoebbjenaaGreatDoorAmL6
namespace Go.Proofs.Tryz
open Go Go.Am
set_option maxRecDepth 100000

/-- The symbols of a call of SeasonStreaks. -/
def vF (bits : Nat → Bool) (n : Nat) (l : List Int) (m : Nat) : Int :=
  if m < 300 then (if bits m then 1 else 0) else if m = 300 then n else l.getD (m - 400) 0
def ρF (w : World) (bits : Nat → Bool) (n b off : Nat) (l : List Int) : Env := ⟨vF bits n l, fnsF, fun _ => (b, off), memOf w⟩

theorem isTrueV_rel {β : Be} {v : V} {v' : Value} (h : isTrueV v = true) (hr : VRel β v v') : v' = .bool true := by
  unfold isTrueV at h
  split at h
  · exact hr
  · cases h

theorem streak_rel {β : Be} {a b c d : E} {x y z u : Int} (h1 : a.val β.env = x) (h2 : b.val β.env = y) (h3 : c.val β.env = z) (h4 : d.val β.env = u) : VRel β (streakV a b c d) (.agg #[.int .i64 x, .int .i64 y, .int .i64 z, .int .i64 u]) := by
  subst h1 h2 h3 h4
  exact ⟨_, rfl, ⟨rfl, rfl, rfl, rfl, trivial⟩, fun x hx => by simp at hx; rcases hx with rfl | rfl | rfl | rfl <;> rfl⟩

theorem asgF_ok (ρ : Env) : AsgOk ρ asgF := by
  intro p hp
  rw [List.mem_singleton.1 hp]
  simp only [Tst.holds, pE, E.val, E.vals, List.headD_cons, bV, aV]
  rw [Int.add_comm]; simp

theorem run_law {rows : Nat → Option (List C)} {x : C} {asg : Asg} (hk : runF rows x asg = true) {w : World} (h : Laid w) (bits : Nat → Bool) (n b off : Nat) (a0 a1 a2 a3 b0 b1 b2 b3 : Int) {l : Value}
    (ho : ∀ k l, rows k = some l → ∀ j c, l[j]? = some c → ∃ v, w.cell? ⟨b, off + j, none⟩ = some v ∧ CRel ⟨fun _ => none, ρF w bits n b off [a0, a1, a2, a3, b0, b1, b2, b3]⟩ c v ∧ scal v = true)
    (hasg : AsgOk (ρF w bits n b off [a0, a1, a2, a3, b0, b1, b2, b3]) asg) (hx : CRel ⟨fun _ => none, ρF w bits n b off [a0, a1, a2, a3, b0, b1, b2, b3]⟩ x l) :
    CallRet prog 5 #[l, .agg #[.int .i64 a0, .int .i64 a1, .int .i64 a2, .int .i64 a3], .agg #[.int .i64 b0, .int .i64 b1, .int .i64 b2, .int .i64 b3]] w fun v' w' => v' = .bool true ∧ Kept w w' := by
  have hi : Inv (cxF rows) w.heap.size ⟨fun _ => none, ρF w bits n b off [a0, a1, a2, a3, b0, b1, b2, b3]⟩ ⟨.nil, 0⟩ w := inv0 _ rfl rfl (fun m x hx => by cases hx) h ho
  obtain ⟨l', h1, h2⟩ := symCallA (cx := cxF rows) (l := asg) (ann := noAnn) (n := 100) (m := 60) (fl := 0) (args' := #[l, .agg #[.int .i64 a0, .int .i64 a1, .int .i64 a2, .int .i64 a3], .agg #[.int .i64 b0, .int .i64 b1, .int .i64 b2, .int .i64 b3]]) mixed cxWOk (primsF rows _) rfl hk hasg (Nat.le_refl _) hi
    ⟨hx, streak_rel rfl rfl rfl rfl, streak_rel rfl rfl rfl rfl, trivial⟩
  refine h2.mono ?_
  rintro v' w' ⟨v, st', β', q1, q2, q3⟩
  exact ⟨isTrueV_rel q1 q2, Kept.ofNil q3⟩

theorem runN_ok {n : Nat} (h1 : 0 < n) (h2 : n ≤ 12 ∨ n = 257 ∨ n = 258) : runN n = true := by
  by_cases h : n ≤ 12
  · by_cases h8 : n < 8
    · have := List.all_eq_true.1 run_1 (n - 1) (mem_nats.2 (by omega))
      rwa [show n - 1 + 1 = n by omega] at this
    · have := List.all_eq_true.1 run_8 (n - 8) (mem_nats.2 (by omega))
      rwa [show n - 8 + 8 = n by omega] at this
  · rcases h2 with h2 | rfl | rfl
    · exact absurd h2 h
    · exact run_257
    · exact run_258

theorem law_slice {w : World} (h : Laid w) (bits : Nat → Bool) (a : Option Addr) (n c : Nat) (hnc : n ≤ c) (hc : 0 < n → ∃ b off, a = some ⟨b, off, none⟩ ∧ ∀ j, j < n → w.cell? ⟨b, off + j, none⟩ = some (.bool (bits j))) (a0 a1 a2 a3 b0 b1 b2 b3 : Int) :
    CallRet prog 5 #[.slice a n c, .agg #[.int .i64 a0, .int .i64 a1, .int .i64 a2, .int .i64 a3], .agg #[.int .i64 b0, .int .i64 b1, .int .i64 b2, .int .i64 b3]] w fun v' w' => v' = .bool true ∧ Kept w w' := by
  have v300 : (ρF w bits n 0 0 [a0, a1, a2, a3, b0, b1, b2, b3]).v 300 = n := rfl
  by_cases h0 : n = 0
  · subst h0
    exact run_law run_0 h bits 0 0 0 a0 a1 a2 a3 b0 b1 b2 b3 (fun k l hk => by cases hk) (asgF_ok _) ⟨a, 0, c, rfl, rfl⟩
  · by_cases hs : n ≤ 12 ∨ n = 257 ∨ n = 258
    · obtain ⟨b, off, rfl, hcell⟩ := hc (by omega)
      refine run_law (runN_ok (by omega) hs) h bits n b off a0 a1 a2 a3 b0 b1 b2 b3 (fun k l hk j x hj => ?_) (asgF_ok _) ⟨c, hnc, rfl⟩
      unfold rowS at hk
      cases hb : Nat.beq k 0 with
      | false => rw [hb] at hk; cases hk
      | true =>
        rw [hb] at hk
        simp only [cond_true, Option.some.injEq] at hk; subst hk
        have hlt : j < n := by have := (List.getElem?_eq_some_iff.1 hj).1; simpa [bitsC] using this
        have hcj : x = .sb (.var j) := by
          simp only [bitsC, List.getElem?_map, List.getElem?_range hlt, Option.map_some, Option.some.injEq] at hj
          exact hj.symm
        subst hcj
        refine ⟨_, hcell j hlt, ?_, rfl⟩
        show Value.bool _ = Value.bool _
        congr 1
        have hj3 : j < 300 := by omega
        simp only [E.val, E.vals, List.headD_cons, ρF, vF, if_pos hj3]
        cases bits j <;> rfl
    · by_cases hm : n ≤ 256
      · refine run_law run_mid h bits n 0 0 a0 a1 a2 a3 b0 b1 b2 b3 (fun k l hk => by cases hk) (fun p hp => ?_) ⟨a, n, c, rfl, v300.symm⟩
        rcases List.mem_cons.1 hp with rfl | hp
        · simp only [Tst.holds, L, E.val, E.vals, List.headD_cons, v300, decide_eq_true_eq]; omega
        · rw [List.mem_singleton.1 hp]
          simp only [Tst.holds, L, E.val, E.vals, List.headD_cons, v300, decide_eq_false_iff_not]; omega
      · refine run_law run_big h bits n 0 0 a0 a1 a2 a3 b0 b1 b2 b3 (fun k l hk => by cases hk) (fun p hp => ?_) ⟨a, n, c, rfl, v300.symm⟩
        rw [List.mem_singleton.1 hp]
        simp only [Tst.holds, L, E.val, E.vals, List.headD_cons, v300, decide_eq_false_iff_not]; omega
end Go.Proofs.Tryz
