/- Lists of games checked, on both sides: by the kit's walk. Totals and differences by the reference; what valid games hold: by the kit's walk. -/
import Derived.Test.YtbfonnoebbjenaaGreatDoorAxPb
import Derived.Test.YtbfonnoebbjenaaGreatDoorAxK
import Derived.Test.YtbfonnoebbjenaaGreatDoorAxR
import Derived.Test.YtbfonnoebbjenaaGreatDoorAxH
import Derived.Test.YtbfonnoebbjenaaGreatDoorAxSh
namespace Go.Proofs.Tryz
open Go Go.Am Go.RowKit Go.Op
set_option maxRecDepth 100000

/-! ### the season's -/
theorem wpList_slice1 {ts e : TypeId} {v : Value} (hrun : ∀ w : World, (Instr.buildSlice ts 1 #[(0, v)]).run prog w = .ok (.slice (some ⟨w.heap.size, 0, none⟩) 1 1) (w.alloc (.cells #[v] e))) (w : World) {ops : Array Oper} {rest : List Oper} {o : Oper} {a : Act} {Q : Exit → Act → World → Prop} (hgd : o.guard = none) (x : Operand) (ho : o.op = .buildSlice ts 1 #[(0, x)])
    (hx : a.eval x = v) (h : wpList prog ops Q rest (a.put o.dst (.slice (some ⟨w.heap.size, 0, none⟩) 1 1)) (w.alloc (.cells #[v] e))) : wpList prog ops Q (o :: rest) a w := by
  refine wpList_plain hgd fun K' hK' => ?_
  unfold Oper.wp execOp
  simp only [ho, List.map_toArray, List.map_cons, List.map_nil, hx, Sem.run_bind, hrun, Result.andThen_ok, Sem.run_pure]
  exact hK' _ _ h
end Go.Proofs.Tryz

namespace Go.Proofs.Tryz
open Go Go.Am Go.RowKit Go.Op
set_option maxRecDepth 100000

/-! ### plain -/
theorem bookK_ok {g : Nat → GmD} : ∀ {k i : Nat}, bookK g i k = 0 → ∀ j, i ≤ j → j < i + k → gmE (g j) = 0
  | 0, i, _, j, h1, h2 => by omega
  | k + 1, i, h, j, h1, h2 => by
    rw [bookK] at h
    by_cases hq : gmE (g i) = 0
    · rw [if_pos hq] at h
      split at h
      · cases h
      · split at h
        · cases h
        · rcases Nat.lt_or_eq_of_le h1 with q | rfl
          · exact bookK_ok h j q (by omega)
          · exact hq
    · rw [if_neg hq] at h; exact absurd h hq
theorem bookE_ok {g : Nat → GmD} {n : Nat} (h : bookE g n = 0) : n ≤ 64 ∧ ∀ j, j < n → gmE (g j) = 0 := by
  unfold bookE at h
  split at h
  · cases h
  · exact ⟨by omega, fun j hj => bookK_ok h j (Nat.zero_le _) (by omega)⟩
/-! ### the reference's -/
end Go.Proofs.Tryz
