/- Plain: how often each fielder touched the ball; what a valid play's moves are. The document's Touches, by the kit's walk. Touches, by the kit's walk. Plain: the permutation that a key draws. Draw, by the kit's walk. slices.Clone and HasInt, by the kit's walk. The document's Assists, by the kit's walk. The document's Draw, by the kit's walk. SameInts of two slices with the same integers, by the kit's walk. -/
import Derived.Test.YthlmjjdlmidnlaaGreatDoorArE
import Derived.WalkKit
import Derived.BigRegion
import Derived.Test.YthlmjjdlmidnlaaGreatDoorArZa
import Derived.Lib.SliceRun
namespace Go.Proofs.Tryz
open Go Go.Am
set_option maxRecDepth 100000

/-- What is known of the moves of a valid play. -/
structure Val (d : Nat → MvD) (n : Nat) : Prop where
  n4 : n ≤ 4
  fr : ∀ i, i < n → 0 ≤ (d i).fr ∧ (d i).fr ≤ 3
  bn : ∀ i, i < n → 0 ≤ (d i).bn ∧ (d i).bn ≤ 9
  out : ∀ i, i < n → (d i).x ≠ 0 → 1 ≤ (d i).bn
  t : ∀ i, i < n → ∀ j : Nat, (j : Int) < (d i).bn → 1 ≤ (d i).t ((d i).bo + j) ∧ (d i).t ((d i).bo + j) ≤ 9

end Go.Proofs.Tryz

namespace Go.Proofs.Tryz
open Go Go.Am Go.RowKit
set_option maxRecDepth 100000

def numOf' : Value → Int
  | .int _ n => n
  | _ => 0
theorem cellsAt_below {B : Nat} {w W : World} (h : Below B w W) : ∀ {n b off : Nat} {vs : List Value}, (cellsAt w b off n) = vs.map some → b < B → cellsAt W b off n = vs.map some
  | 0, _, _, vs, e, _ => e
  | n + 1, b, off, vs, e, hb => by
    match vs, e with
    | v :: vs, e =>
      simp only [cellsAt, List.map_cons, List.cons.injEq] at e ⊢
      exact ⟨(h.cell (by exact hb)).trans e.1, cellsAt_below h e.2 hb⟩
theorem IsInts.below {w W : World} (h : Below w.heap.size w W) {v : Value} {t : Int → Int} {o n : Int} (hi : IsInts w v t o n) : IsInts W v t o n := by
  obtain ⟨a, m, c, rfl, h1, h2, h3⟩ := hi
  refine ⟨a, m, c, rfl, h1, h2, fun h0 => ?_⟩
  obtain ⟨b, off, ha, hj⟩ := h3 h0
  exact ⟨b, off, ha, fun j hjm => (h.cell (cell_under (hj j hjm))).trans (hj j hjm)⟩
theorem IsMv.below {w W : World} (h : Below w.heap.size w W) {b off : Nat} {m : MvD} (hm : IsMv w (cellsAt w b off 5) m) : IsMv W (cellsAt W b off 5) m := by
  obtain ⟨sv, bv, e, h1, h2⟩ := hm
  refine ⟨sv, bv, ?_, h1, h2.below h⟩
  have hb : b < w.heap.size := by
    simp only [cellsAt, List.cons.injEq] at e
    exact cell_under e.1
  exact cellsAt_below (vs := [vi m.fr, vi m.to, .bool (decide (m.x ≠ 0)), sv, bv]) h e hb

end Go.Proofs.Tryz

namespace Go.Proofs.Tryz
open Go Go.Am Go.RowKit
set_option maxRecDepth 100000

theorem belowOf {w w' : World} (h : Kept w w') : Below w.heap.size w w' := ⟨h.os, h.tape, h.output, h.size, h.block⟩

theorem al2_0 (w : World) (A Z : Obj) : ((w.alloc A).alloc Z).heap[w.heap.size]? = some A := by
  show ((w.heap.push A).push Z)[w.heap.size]? = _
  rw [Array.getElem?_push, if_neg (by simp only [Array.size_push]; omega), Array.getElem?_push, if_pos rfl]
theorem al2_1 (w : World) (A Z : Obj) : ((w.alloc A).alloc Z).heap[w.heap.size + 1]? = some Z := by
  show ((w.heap.push A).push Z)[w.heap.size + 1]? = _
  rw [Array.getElem?_push, if_pos (by simp only [Array.size_push])]
theorem size2 (w : World) (A Z : Obj) : ((w.alloc A).alloc Z).heap.size = w.heap.size + 2 := by
  show ((w.heap.push A).push Z).size = _
  simp only [Array.size_push]
theorem old1 {w : World} {k : Nat} {o : Obj} (h : w.heap[k]? = some o) (Z : Obj) : (w.alloc Z).heap[k]? = some o := by
  have hk := (Array.getElem?_eq_some_iff.1 h).1
  show (w.heap.push Z)[k]? = _
  rw [Array.getElem?_push, if_neg (by omega)]; exact h

end Go.Proofs.Tryz

namespace Go.Dr

end Go.Dr

namespace Go.Proofs.Tryz
open Go Go.Am Go.RowKit Go.Dr
set_option maxRecDepth 100000

theorem info3 : (prog.info? 3).map (fun i => (i.zero, i.size, i.bytes)) = some (some (.int .i64 0), 1, 8) := by kernel_rfl

def vsOf (l : List Int) : List Value := l.map (Value.int .i64)

end Go.Proofs.Tryz

namespace Go.Proofs.Tryz
open Go Go.Am Go.RowKit Go.Dr
set_option maxRecDepth 100000

/-- The cells of a slice of integers. -/
def intsL (t : Int → Int) (o : Int) (m : Nat) : List Int := (List.range m).map fun (j : Nat) => t (o + (j : Int))
theorem length_intsL (t : Int → Int) (o : Int) (m : Nat) : (intsL t o m).length = m := by simp [intsL]
theorem intsL_get {t : Int → Int} {o : Int} {m j : Nat} (h : j < m) : (intsL t o m)[j]? = some (t (o + (j : Int))) := by simp [intsL, h]

end Go.Proofs.Tryz

namespace Go.Proofs.Tryz
open Go Go.Am Go.RowKit Go.Dr
set_option maxRecDepth 100000

theorem owns_below {w w' : World} {base : Nat} {e : TypeId} {size n : Nat} {v : Value} {xs : List Value} (h : w.ownsRow base e size v n xs) (hb : Below w.heap.size w w') : w'.ownsRow base e size v n xs := by
  refine ⟨h.1, ?_⟩
  rcases h.2 with q | ⟨g, cap, cur, hv, h1, h2, h3⟩
  · exact .inl q
  · exact .inr ⟨g, cap, cur, hv, h1, (hb.block _ (lt_of_block h2)).trans h2, h3⟩

theorem owns_base {w : World} {base b2 : Nat} {e : TypeId} {size n : Nat} {v : Value} {xs : List Value} (h : w.ownsRow base e size v n xs) (hb : b2 ≤ base) : w.ownsRow b2 e size v n xs := by
  refine ⟨h.1, ?_⟩
  rcases h.2 with q | ⟨g, cap, cur, hv, h1, h2⟩
  · exact .inl q
  · exact .inr ⟨g, cap, cur, hv, Nat.le_trans hb h1, h2⟩

end Go.Proofs.Tryz

namespace Go.Proofs.Tryz
open Go Go.Am Go.RowKit Go.Dr
set_option maxRecDepth 100000

end Go.Proofs.Tryz

namespace Go.Proofs.Tryz
open Go Go.Am Go.RowKit Go.Dr
set_option maxRecDepth 100000

end Go.Proofs.Tryz
