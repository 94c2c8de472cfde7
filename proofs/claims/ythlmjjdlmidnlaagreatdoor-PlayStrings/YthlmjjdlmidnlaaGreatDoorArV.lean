/- Plain: how often each fielder touched the ball; what a valid play's moves are. The document's Touches, by the kit's walk. Touches, by the kit's walk. Plain: the permutation that a key draws. Draw, by the kit's walk. -/
import Derived.Test.YthlmjjdlmidnlaaGreatDoorArE
import Derived.WalkKit
import Derived.BigRegion
import Derived.Test.YthlmjjdlmidnlaaGreatDoorArZa
namespace Go.Proofs.Tryz
open Go Go.Am
set_option maxRecDepth 100000

/-- What is known of the moves of a valid play. -/
structure Val (d : Nat → MvD) (n : Nat) : Prop where
  n4 : n ≤ 4
  fr : ∀ i, i < n → 0 ≤ (d i).fr ∧ (d i).fr ≤ 3
  bn : ∀ i, i < n → 0 ≤ (d i).bn ∧ (d i).bn ≤ 9
  out : ∀ i, i < n → (d i).x ≠ 0 → 1 ≤ (d i).bn
  t : ∀ i, i < n → ∀ j : Nat, (j : Int) < (d i).bn → 1 ≤ (d i).t ((d i).bo + j) ∧ (d i).t ((d i).bo + j) ≤ 9

def addT (l : List Int) (x : Int) : List Int := l.set (x - 1).toNat (l[(x - 1).toNat]?.getD 0 + 1)
def innT (m : MvD) (l : List Int) : Nat → List Int
  | 0 => l
  | k + 1 => addT (innT m l k) (m.t (m.bo + k))
def outT (d : Nat → MvD) : Nat → List Int
  | 0 => List.replicate 9 0
  | i + 1 => innT (d i) (outT d i) (d i).bn.toNat
/-- How often each fielder touched the ball, in n moves. -/
def tchL (d : Nat → MvD) (n : Nat) : List Int := outT d n

theorem length_addT (l : List Int) (x : Int) : (addT l x).length = l.length := by simp [addT]
theorem length_innT (m : MvD) (l : List Int) : ∀ k, (innT m l k).length = l.length
  | 0 => rfl
  | k + 1 => by rw [innT, length_addT, length_innT m l k]
theorem length_outT (d : Nat → MvD) : ∀ n, (outT d n).length = 9
  | 0 => rfl
  | n + 1 => by rw [outT, length_innT, length_outT d n]

/-- Counters up to a bound. -/
def Upto (l : List Int) (c : Int) : Prop := ∀ (j : Nat) (x : Int), l[j]? = some x → 0 ≤ x ∧ x ≤ c
theorem Upto.add {l : List Int} {c : Int} (h : Upto l c) (h0 : 0 ≤ c) (x : Int) : Upto (addT l x) (c + 1) := by
  intro j z hz
  unfold addT at hz
  rw [List.getElem?_set] at hz
  split at hz
  · split at hz
    · simp only [Option.some.injEq] at hz; subst hz
      cases hl : l[(x - 1).toNat]? with
      | none => simp; omega
      | some u => have := h _ _ hl; simp; omega
    · cases hz
  · have := h _ _ hz; omega
theorem Upto.inn {m : MvD} {l : List Int} {c : Int} (h : Upto l c) (h0 : 0 ≤ c) : ∀ k : Nat, Upto (innT m l k) (c + k)
  | 0 => by simpa [innT] using h
  | k + 1 => by
    have := (Upto.inn (m := m) h h0 k).add (by omega) (m.t (m.bo + k))
    rw [innT, show c + ((k + 1 : Nat) : Int) = c + k + 1 by omega]; exact this
theorem Upto.out {d : Nat → MvD} {n : Nat} (hv : Val d n) : ∀ i, i ≤ n → Upto (outT d i) (9 * i)
  | 0, _ => by
    intro j x hx
    have : x = 0 := by
      have := List.mem_replicate.1 (List.mem_iff_getElem?.2 ⟨j, hx⟩)
      exact this.2
    subst this; omega
  | i + 1, h => by
    have ih := (Upto.out hv i (by omega)).inn (m := d i) (by omega) (d i).bn.toNat
    have hb := hv.bn i (by omega)
    intro j x hx
    have := ih j x hx
    omega
end Go.Proofs.Tryz

namespace Go.Proofs.Tryz
open Go Go.Am Go.RowKit
set_option maxRecDepth 100000

def numOf' : Value → Int
  | .int _ n => n
  | _ => 0
def cntA (l : List Int) : Array Value := (l.map vi).toArray

theorem cellsAt_below {B : Nat} {w W : World} (h : Below B w W) : ∀ {n b off : Nat} {vs : List Value}, (cellsAt w b off n) = vs.map some → b < B → cellsAt W b off n = vs.map some
  | 0, _, _, vs, e, _ => e
  | n + 1, b, off, vs, e, hb => by
    match vs, e with
    | v :: vs, e =>
      simp only [cellsAt, List.map_cons, List.cons.injEq] at e ⊢
      exact ⟨(h.cell (by exact hb)).trans e.1, cellsAt_below h e.2 hb⟩
theorem IsInts.below {w W : World} (h : Below w.heap.size w W) {v : Value} {t : Int → Int} {o n : Int} (hi : IsInts w v t o n) : IsInts W v t o n := by
  obtain ⟨a, m, c, rfl, h1, h2, h3⟩ := hi
  refine ⟨a, m, c, rfl, h1, h2, fun h0 => ?_⟩
  obtain ⟨b, off, ha, hj⟩ := h3 h0
  exact ⟨b, off, ha, fun j hjm => (h.cell (cell_under (hj j hjm))).trans (hj j hjm)⟩
theorem IsMv.below {w W : World} (h : Below w.heap.size w W) {b off : Nat} {m : MvD} (hm : IsMv w (cellsAt w b off 5) m) : IsMv W (cellsAt W b off 5) m := by
  obtain ⟨sv, bv, e, h1, h2⟩ := hm
  refine ⟨sv, bv, ?_, h1, h2.below h⟩
  have hb : b < w.heap.size := by
    simp only [cellsAt, List.cons.injEq] at e
    exact cell_under e.1
  exact cellsAt_below (vs := [vi m.fr, vi m.to, .bool (decide (m.x ≠ 0)), sv, bv]) h e hb

theorem al3_0 (w : World) (A Z Y : Obj) : (((w.alloc A).alloc Z).alloc Y).heap[w.heap.size]? = some A := by
  show ((w.heap.push A).push Z |>.push Y)[w.heap.size]? = _
  rw [Array.getElem?_push, if_neg (by simp only [Array.size_push]; omega), Array.getElem?_push, if_neg (by simp only [Array.size_push]; omega), Array.getElem?_push, if_pos rfl]
theorem al3_1 (w : World) (A Z Y : Obj) : (((w.alloc A).alloc Z).alloc Y).heap[w.heap.size + 1]? = some Z := by
  show ((w.heap.push A).push Z |>.push Y)[w.heap.size + 1]? = _
  rw [Array.getElem?_push, if_neg (by simp only [Array.size_push]; omega), Array.getElem?_push, if_pos (by simp only [Array.size_push])]
theorem al3_2 (w : World) (A Z Y : Obj) : (((w.alloc A).alloc Z).alloc Y).heap[w.heap.size + 1 + 1]? = some Y := by
  show ((w.heap.push A).push Z |>.push Y)[w.heap.size + 1 + 1]? = _
  rw [Array.getElem?_push, if_pos (by simp only [Array.size_push])]

theorem nine {l : List Int} (h : l.length = 9) : ∃ x0 x1 x2 x3 x4 x5 x6 x7 x8, l = [x0, x1, x2, x3, x4, x5, x6, x7, x8] := by
  match l, h with
  | [x0, x1, x2, x3, x4, x5, x6, x7, x8], _ => exact ⟨x0, x1, x2, x3, x4, x5, x6, x7, x8, rfl⟩

set_option maxHeartbeats 1600000 in
theorem touchR_w (pvv ev : Value) (lx : Bool) (d : Nat → MvD) (n c : Nat) (ad0 : Option Addr) (w : World) (hv : Val d n) (hnc : n ≤ c) (hM0 : n ≠ 0 → ∃ b off, ad0 = some ⟨b, off, none⟩ ∧ ∀ i, i < n → IsMv w (cellsAt w b (off + 5 * i) 5) (d i)) :
    Calls prog 32 #[.agg #[pvv, ev, .bool lx, .slice ad0 n c]] w fun e w' => e = .returned (.agg (cntA (tchL d n))) ∧ Below w.heap.size w w' := by
  go_enter func32, ntmps32
  go_wp2
  go_loopw [4] (fun s wr => ∃ i : Nat, i ≤ n ∧ s = .int .i64 i ∧ wr.ownsRow w.heap.size 49 1 (.slice (some ⟨w.heap.size + 1 + 1, 0, none⟩) 9 9) 9 ((outT d i).map vi) ∧
      wr.heap[w.heap.size]? = some (.cells #[pvv, ev, Value.bool lx, Value.slice ad0 n c] 24 (0, 0)) ∧ wr.heap[w.heap.size + 1]? = some (.cells (cntA (List.replicate 9 0)) 49 (0, 0)) ∧ Below w.heap.size w wr) (fun s _ => n - (numOf' s).toNat)
  case atStart =>
    exact ⟨0, Nat.zero_le _, rfl, ⟨rfl, .inr ⟨_, 9, _, rfl, by omega, al3_2 _ _ _ _, Nat.le_refl _, by decide, rfl, rfl⟩⟩, al3_0 _ _ _ _, al3_1 _ _ _ _, ((Below.refl _ _).alloc (Nat.le_refl _) _ |>.alloc (by simp) _).alloc (by simp; omega) _⟩
  case round =>
    obtain ⟨i, hi, rfl, hown, hbox, hres, hbel⟩ := hrel
    have hc3 : wr.cell? ⟨w.heap.size, 3, none⟩ = some (.slice ad0 n c) := by simp [World.cell?, hbox]
    by_cases hin : i < n
    · obtain ⟨b, off, rfl, hM⟩ := hM0 (by omega)
      clear hM0
      obtain ⟨sv, bv, hcs, -, ad, m, c', rfl, hmc, hm, hj⟩ := hM i hin
      have hn4 := hv.n4
      have hbn := hv.bn i hin
      have ht := hv.t i hin
      have hcw : w.cell? ⟨b, off + i * 5 + 4, none⟩ = some (.slice ad m c') := by
        simp only [cellsAt, List.cons.injEq, and_true] at hcs
        rw [← hcs.2.2.2.2]; congr 2; omega
      have hup : ∀ k : Nat, Upto (innT (d i) (outT d i) k) (9 * i + k) := fun k => (Upto.out hv i (by omega)).inn (by omega) k
      clear hcs hM hv
      have hbb := cell_under hcw
      go_wp2
      go_loopw [5] (fun s wr => ∃ k : Nat, k ≤ m ∧ s = .int .i64 k ∧ wr.ownsRow w.heap.size 49 1 (.slice (some ⟨w.heap.size + 1 + 1, 0, none⟩) 9 9) 9 ((innT (d i) (outT d i) k).map vi) ∧
        wr.heap[w.heap.size]? = some (.cells #[pvv, ev, Value.bool lx, Value.slice (some { block := b, off := off }) n c] 24 (0, 0)) ∧ wr.heap[w.heap.size + 1]? = some (.cells (cntA (List.replicate 9 0)) 49 (0, 0)) ∧ Below w.heap.size w wr) (fun s _ => m - (numOf' s).toNat)
      case atStart => exact ⟨0, Nat.zero_le _, rfl, hown, hbox, hres, hbel⟩
      case round =>
        clear hown hbox hres hbel hc3
        obtain ⟨k, hk, rfl, hown, hbox, hres, hbel⟩ := hrel
        have hc3 : wr.cell? ⟨w.heap.size, 3, none⟩ = some (.slice (some { block := b, off := off }) n c) := by simp [World.cell?, hbox]
        have hc4 : wr.cell? ⟨b, off + i * 5 + 4, none⟩ = some (.slice ad m c') := (hbel.cell (by exact hbb)).trans hcw
        by_cases hkm : k < m
        · obtain ⟨b2, o2, rfl, hj'⟩ := hj (by omega)
          have hel : wr.cell? ⟨b2, o2 + k, none⟩ = some (vi ((d i).t ((d i).bo + k))) := (hbel.cell (cell_under (hj' k hkm))).trans (hj' k hkm)
          have htk := ht k (by omega)
          clear hj hj' ht
          unfold vi at hel
          obtain ⟨x, hx⟩ : ∃ x, (d i).t ((d i).bo + k) = x := ⟨_, rfl⟩
          rw [hx] at hel htk
          obtain ⟨q, rfl⟩ : ∃ q : Nat, x = (q : Int) + 1 := ⟨(x - 1).toNat, by omega⟩
          have hq : q < 9 := by omega
          have hfz : wr.frozen? ⟨w.heap.size + 1 + 1, q, none⟩ = false := hown.frozenAt q
          obtain ⟨y, hy⟩ : ∃ y, (innT (d i) (outT d i) k)[q]? = some y := ⟨_, List.getElem?_eq_getElem (by rw [length_innT, length_outT]; exact hq)⟩
          have hyb := hup k q y hy
          have hcl : wr.cell? ⟨w.heap.size + 1 + 1, q, none⟩ = some (.int .i64 y) := by
            rw [hown.cellAt q (by omega), List.getElem?_map, hy]; rfl
          have hst := hown.stored q (.int .i64 (y + 1))
          have hown' : (wr.setCell ⟨w.heap.size + 1 + 1, q, none⟩ (.int .i64 (y + 1))).ownsRow w.heap.size 49 1 (.slice (some ⟨w.heap.size + 1 + 1, 0, none⟩) 9 9) 9 ((innT (d i) (outT d i) (k + 1)).map vi) := by
            have e : innT (d i) (outT d i) (k + 1) = (innT (d i) (outT d i) k).set q (y + 1) := by
              rw [innT, hx, addT, show ((q : Int) + 1 - 1).toNat = q by omega, hy]; rfl
            rw [e, List.map_set]; exact hst.1
          have hbox' : (wr.setCell ⟨w.heap.size + 1 + 1, q, none⟩ (.int .i64 (y + 1))).heap[w.heap.size]? = some (.cells #[pvv, ev, Value.bool lx, Value.slice (some { block := b, off := off }) n c] 24 (0, 0)) := by
            rw [hst.2.block _ (lt_of_block hbox) (by simp; omega)]; exact hbox
          have hres' : (wr.setCell ⟨w.heap.size + 1 + 1, q, none⟩ (.int .i64 (y + 1))).heap[w.heap.size + 1]? = some (.cells (cntA (List.replicate 9 0)) 49 (0, 0)) := by
            rw [hst.2.block _ (lt_of_block hres) (by simp)]; exact hres
          have hbel' : Below w.heap.size w (wr.setCell ⟨w.heap.size + 1 + 1, q, none⟩ (.int .i64 (y + 1))) := hbel.grown hst.2 hbel.size (fun z hz => by cases hz; omega)
          clear hst hy hown hres
          go_wp2
          go_roundw
          case rel => exact ⟨k + 1, by omega, by go_num, hown', hbox', hres', hbel'⟩
          case measure => simp [numOf'] <;> omega
        · have hkm' : k = m := by omega
          subst hkm'
          have hown' : wr.ownsRow w.heap.size 49 1 (.slice (some ⟨w.heap.size + 1 + 1, 0, none⟩) 9 9) 9 ((outT d (i + 1)).map vi) := by
            have e : outT d (i + 1) = innT (d i) (outT d i) k := by rw [outT, ← hm]; rfl
            rw [e]; exact hown
          clear hown
          go_wp2
          go_roundw
          case rel => exact ⟨i + 1, by omega, by go_num, hown', hbox, hres, hbel⟩
          case measure => simp [numOf'] <;> omega
    · have hin' : i = n := by omega
      subst hin'
      obtain ⟨x0, x1, x2, x3, x4, x5, x6, x7, x8, hl⟩ := nine (length_outT d i)
      have hl' : tchL d i = [x0, x1, x2, x3, x4, x5, x6, x7, x8] := hl
      rw [hl] at hown
      have cc : ∀ j x, [x0, x1, x2, x3, x4, x5, x6, x7, x8][j]? = some x → wr.cell? ⟨w.heap.size + 1 + 1, j, none⟩ = some (.int .i64 x) := fun j x hj => by
        have hlt := (List.getElem?_eq_some_iff.1 hj).1
        simp at hlt
        rw [hown.cellAt j (by omega), List.getElem?_map, hj]; rfl
      have k0 := cc 0 x0 rfl
      have k1 := cc 1 x1 rfl
      have k2 := cc 2 x2 rfl
      have k3 := cc 3 x3 rfl
      have k4 := cc 4 x4 rfl
      have k5 := cc 5 x5 rfl
      have k6 := cc 6 x6 rfl
      have k7 := cc 7 x7 rfl
      have k8 := cc 8 x8 rfl
      have rr : ∀ j, j < 9 → wr.cell? ⟨w.heap.size + 1, j, none⟩ = some (.int .i64 0) ∧ wr.frozen? ⟨w.heap.size + 1, j, none⟩ = false := fun j hj => by
        constructor
        · simp only [World.cell?, hres]
          have : j = 0 ∨ j = 1 ∨ j = 2 ∨ j = 3 ∨ j = 4 ∨ j = 5 ∨ j = 6 ∨ j = 7 ∨ j = 8 := by omega
          rcases this with rfl | rfl | rfl | rfl | rfl | rfl | rfl | rfl | rfl <;> rfl
        · simp [World.frozen?, hres]
      obtain ⟨r0, f0⟩ := rr 0 (by omega)
      obtain ⟨r1, f1⟩ := rr 1 (by omega)
      obtain ⟨r2, f2⟩ := rr 2 (by omega)
      obtain ⟨r3, f3⟩ := rr 3 (by omega)
      obtain ⟨r4, f4⟩ := rr 4 (by omega)
      obtain ⟨r5, f5⟩ := rr 5 (by omega)
      obtain ⟨r6, f6⟩ := rr 6 (by omega)
      obtain ⟨r7, f7⟩ := rr 7 (by omega)
      obtain ⟨r8, f8⟩ := rr 8 (by omega)
      clear cc hown hM0 hv rr
      go_wp2
      refine bodyPost_ret (v := .agg (cntA [x0, x1, x2, x3, x4, x5, x6, x7, x8])) (by simp [results, results32, go_sem, cntA, vi, World.cell?_setCell_same, r0, r1, r2, r3, r4, r5, r6, r7, r8]) rfl ⟨by rw [hl'], (((((((((hbel.setCell (p := ⟨w.heap.size + 1, 0, none⟩) (by simp) _).setCell (p := ⟨w.heap.size + 1, 1, none⟩) (by simp) _).setCell (p := ⟨w.heap.size + 1, 2, none⟩) (by simp) _).setCell (p := ⟨w.heap.size + 1, 3, none⟩) (by simp) _).setCell (p := ⟨w.heap.size + 1, 4, none⟩) (by simp) _).setCell (p := ⟨w.heap.size + 1, 5, none⟩) (by simp) _).setCell (p := ⟨w.heap.size + 1, 6, none⟩) (by simp) _).setCell (p := ⟨w.heap.size + 1, 7, none⟩) (by simp) _).setCell (p := ⟨w.heap.size + 1, 8, none⟩) (by simp) _)⟩
end Go.Proofs.Tryz

namespace Go.Proofs.Tryz
open Go Go.Am Go.RowKit
set_option maxRecDepth 100000

theorem belowOf {w w' : World} (h : Kept w w') : Below w.heap.size w w' := ⟨h.os, h.tape, h.output, h.size, h.block⟩

theorem al2_0 (w : World) (A Z : Obj) : ((w.alloc A).alloc Z).heap[w.heap.size]? = some A := by
  show ((w.heap.push A).push Z)[w.heap.size]? = _
  rw [Array.getElem?_push, if_neg (by simp only [Array.size_push]; omega), Array.getElem?_push, if_pos rfl]
theorem al2_1 (w : World) (A Z : Obj) : ((w.alloc A).alloc Z).heap[w.heap.size + 1]? = some Z := by
  show ((w.heap.push A).push Z)[w.heap.size + 1]? = _
  rw [Array.getElem?_push, if_pos (by simp only [Array.size_push])]
theorem size2 (w : World) (A Z : Obj) : ((w.alloc A).alloc Z).heap.size = w.heap.size + 2 := by
  show ((w.heap.push A).push Z).size = _
  simp only [Array.size_push]
theorem old1 {w : World} {k : Nat} {o : Obj} (h : w.heap[k]? = some o) (Z : Obj) : (w.alloc Z).heap[k]? = some o := by
  have hk := (Array.getElem?_eq_some_iff.1 h).1
  show (w.heap.push Z)[k]? = _
  rw [Array.getElem?_push, if_neg (by omega)]; exact h

theorem owns_at {w w' : World} {base : Nat} {e : TypeId} {size g n cap : Nat} {xs : List Value} (h : w.ownsRow base e size (.slice (some ⟨g, 0, none⟩) n cap) n xs) (hb : w'.heap[g]? = w.heap[g]?) : w'.ownsRow base e size (.slice (some ⟨g, 0, none⟩) n cap) n xs := by
  refine ⟨h.1, ?_⟩
  rcases h.2 with q | ⟨g', cap', cur, hv, h1, h2, h3⟩
  · exact .inl q
  · refine .inr ⟨g', cap', cur, hv, h1, ?_, h3⟩
    simp only [Value.slice.injEq, Option.some.injEq, Addr.mk.injEq, and_true, true_and] at hv
    rw [← hv.1] at h2 ⊢; rw [hb]; exact h2

set_option maxHeartbeats 3200000 in
theorem touch_w (pvv ev : Value) (lx : Bool) (d : Nat → MvD) (n c : Nat) (ad0 : Option Addr) (w : World) (hv : Val d n) (hnc : n ≤ c) (hM0 : n ≠ 0 → ∃ b off, ad0 = some ⟨b, off, none⟩ ∧ ∀ i, i < n → IsMv w (cellsAt w b (off + 5 * i) 5) (d i))
    (hchk : ∀ W, Below w.heap.size w W → Calls prog 15 #[.agg #[pvv, ev, .bool lx, .slice ad0 n c]] W fun e w' => e = .returned (.int .i64 0) ∧ Kept W w') :
    Calls prog 27 #[.agg #[pvv, ev, .bool lx, .slice ad0 n c]] w fun e w' => e = .returned (.tuple #[.agg (cntA (tchL d n)), .int .i64 0]) ∧ Below w.heap.size w w' := by
  go_enter func27, ntmps27
  go_wp2_with (first
    | (go_at_call 15; refine (hchk _ ?_).mono ?_; rotate_left; rintro e w1 ⟨rfl, hk1⟩; have hx0 := (hk1.block w.heap.size (by rw [size2]; omega)).trans (al2_0 _ _ _); have hx1 := (hk1.block (w.heap.size + 1) (by rw [size2]; omega)).trans (al2_1 _ _ _); have hz := old1 hx0 (Obj.cells (cntA (List.replicate 9 0)) 49); have hc3 : (w1.alloc (Obj.cells #[Value.int IntKind.i64 0, Value.int IntKind.i64 0, Value.int IntKind.i64 0, Value.int IntKind.i64 0, Value.int IntKind.i64 0, Value.int IntKind.i64 0, Value.int IntKind.i64 0, Value.int IntKind.i64 0, Value.int IntKind.i64 0] 49)).cell? ⟨w.heap.size, 3, none⟩ = some (.slice ad0 n c) := by (have hz' := hz; simp only [cntA, List.replicate, List.map_cons, List.map_nil, vi] at hz'; simp [World.cell?, hz']))
    | go_in)
  rotate_right
  · exact ((Below.refl _ _).alloc (Nat.le_refl _) _).alloc (by simp) _
  have hsz : w.heap.size + 2 ≤ w1.heap.size := by have := hk1.size; rw [size2] at this; exact this
  have hbw : Below w.heap.size w w1 := ((((Below.refl _ _).alloc (Nat.le_refl _) _).alloc (by simp) _)).trans ((belowOf hk1).mono (by rw [size2]; omega))
  go_loopw [19] (fun s wr => ∃ i : Nat, i ≤ n ∧ s = .int .i64 i ∧ wr.ownsRow w.heap.size 49 1 (.slice (some ⟨w1.heap.size, 0, none⟩) 9 9) 9 ((outT d i).map vi) ∧
      wr.heap[w.heap.size]? = some (.cells #[pvv, ev, Value.bool lx, Value.slice ad0 n c] 24 (0, 0)) ∧ wr.heap[w.heap.size + 1]? = some (.cells (cntA (List.replicate 9 0)) 49 (0, 0)) ∧ Below w.heap.size w wr) (fun s _ => n - (numOf' s).toNat)
  case atStart =>
    exact ⟨0, Nat.zero_le _, rfl, ⟨rfl, .inr ⟨_, 9, _, rfl, by omega, heap_alloc_new _ _, Nat.le_refl _, by decide, rfl, rfl⟩⟩, old1 hx0 _, old1 hx1 _, hbw.alloc hbw.size _⟩
  case round =>
    obtain ⟨i, hi, rfl, hown, hbox, hres, hbel⟩ := hrel
    have hc3 : wr.cell? ⟨w.heap.size, 3, none⟩ = some (.slice ad0 n c) := by simp [World.cell?, hbox]
    by_cases hin : i < n
    · obtain ⟨b, off, rfl, hM⟩ := hM0 (by omega)
      clear hM0
      obtain ⟨sv, bv, hcs, ⟨sl, rfl, -, -⟩, ad, m, c', rfl, hmc, hm, hj⟩ := hM i hin
      have hn4 := hv.n4
      have hbn := hv.bn i hin
      have ht := hv.t i hin
      have e5 : off + 5 * i = off + i * 5 := by omega
      simp only [cellsAt, List.cons.injEq, and_true, e5] at hcs
      obtain ⟨q0, q1, q2, q3, hcw⟩ := hcs
      have hcw : w.cell? ⟨b, off + i * 5 + 4, none⟩ = some (.slice ad m c') := hcw
      have hup : ∀ k : Nat, Upto (innT (d i) (outT d i) k) (9 * i + k) := fun k => (Upto.out hv i (by omega)).inn (by omega) k
      clear hM hv
      have hbb := cell_under hcw
      have p0 : wr.cell? ⟨b, off + i * 5, none⟩ = some (.int .i64 (d i).fr) := (hbel.cell (by exact hbb)).trans q0
      have p1 : wr.cell? ⟨b, off + i * 5 + 1, none⟩ = some (.int .i64 (d i).to) := (hbel.cell (by exact hbb)).trans q1
      have p2 : wr.cell? ⟨b, off + i * 5 + 2, none⟩ = some (.bool (decide ((d i).x ≠ 0))) := (hbel.cell (by exact hbb)).trans q2
      have p3 : wr.cell? ⟨b, off + i * 5 + 3, none⟩ = some (.string ⟨sl.toArray⟩) := (hbel.cell (by exact hbb)).trans q3
      have p4 : wr.cell? ⟨b, off + i * 5 + 4, none⟩ = some (.slice ad m c') := (hbel.cell (by exact hbb)).trans hcw
      clear q0 q1 q2 q3
      obtain ⟨xb, hxb⟩ : ∃ xb : Bool, decide ((d i).x ≠ 0) = xb := ⟨_, rfl⟩
      rw [hxb] at p2
      obtain ⟨f1, hf1⟩ : ∃ f1, (d i).fr = f1 := ⟨_, rfl⟩
      obtain ⟨f2, hf2⟩ : ∃ f2, (d i).to = f2 := ⟨_, rfl⟩
      rw [hf1] at p0
      rw [hf2] at p1
      clear hxb hf1 hf2
      clear hc3
      go_wp2
      go_loopw [26] (fun s wr => ∃ k : Nat, k ≤ m ∧ s = .int .i64 k ∧ wr.ownsRow w.heap.size 49 1 (.slice (some ⟨w1.heap.size, 0, none⟩) 9 9) 9 ((innT (d i) (outT d i) k).map vi) ∧
        wr.heap[w.heap.size]? = some (.cells #[pvv, ev, Value.bool lx, Value.slice (some { block := b, off := off }) n c] 24 (0, 0)) ∧ wr.heap[w.heap.size + 1]? = some (.cells (cntA (List.replicate 9 0)) 49 (0, 0)) ∧ Below w.heap.size w wr) (fun s _ => m - (numOf' s).toNat)
      case atStart =>
        exact ⟨0, Nat.zero_le _, rfl, hown.alloc _, old1 hbox _, old1 hres _, hbel.alloc hbel.size _⟩
      case round =>
        clear hown hbox hres hbel p0 p1 p2 p3 p4
        obtain ⟨k, hk, rfl, hown, hbox, hres, hbel⟩ := hrel
        by_cases hkm : k < m
        · obtain ⟨b2, o2, rfl, hj'⟩ := hj (by omega)
          have hel : wr.cell? ⟨b2, o2 + k, none⟩ = some (vi ((d i).t ((d i).bo + k))) := (hbel.cell (cell_under (hj' k hkm))).trans (hj' k hkm)
          have htk := ht k (by omega)
          clear hj hj' ht
          unfold vi at hel
          obtain ⟨x, hx⟩ : ∃ x, (d i).t ((d i).bo + k) = x := ⟨_, rfl⟩
          rw [hx] at hel htk
          obtain ⟨q, rfl⟩ : ∃ q : Nat, x = (q : Int) + 1 := ⟨(x - 1).toNat, by omega⟩
          have hq : q < 9 := by omega
          have hfz : wr.frozen? ⟨w1.heap.size, q, none⟩ = false := hown.frozenAt q
          obtain ⟨y, hy⟩ : ∃ y, (innT (d i) (outT d i) k)[q]? = some y := ⟨_, List.getElem?_eq_getElem (by rw [length_innT, length_outT]; exact hq)⟩
          have hyb := hup k q y hy
          have hcl : wr.cell? ⟨w1.heap.size, q, none⟩ = some (.int .i64 y) := by
            rw [hown.cellAt q (by omega), List.getElem?_map, hy]; rfl
          have hst := hown.stored q (.int .i64 (y + 1))
          have hown' : (wr.setCell ⟨w1.heap.size, q, none⟩ (.int .i64 (y + 1))).ownsRow w.heap.size 49 1 (.slice (some ⟨w1.heap.size, 0, none⟩) 9 9) 9 ((innT (d i) (outT d i) (k + 1)).map vi) := by
            have e : innT (d i) (outT d i) (k + 1) = (innT (d i) (outT d i) k).set q (y + 1) := by
              rw [innT, hx, addT, show ((q : Int) + 1 - 1).toNat = q by omega, hy]; rfl
            rw [e, List.map_set]; exact hst.1
          have hbox' : (wr.setCell ⟨w1.heap.size, q, none⟩ (.int .i64 (y + 1))).heap[w.heap.size]? = some (.cells #[pvv, ev, Value.bool lx, Value.slice (some { block := b, off := off }) n c] 24 (0, 0)) := by
            rw [hst.2.block _ (lt_of_block hbox) (fun e => by have e2 := Option.some.inj e; omega)]; exact hbox
          have hres' : (wr.setCell ⟨w1.heap.size, q, none⟩ (.int .i64 (y + 1))).heap[w.heap.size + 1]? = some (.cells (cntA (List.replicate 9 0)) 49 (0, 0)) := by
            rw [hst.2.block _ (lt_of_block hres) (fun e => by have e2 := Option.some.inj e; omega)]; exact hres
          have hbel' : Below w.heap.size w (wr.setCell ⟨w1.heap.size, q, none⟩ (.int .i64 (y + 1))) := hbel.grown hst.2 hbel.size (fun z hz => by cases hz; omega)
          clear hst hy hown hres
          go_wp2
          go_roundw
          case rel => exact ⟨k + 1, by omega, by go_num, hown', hbox', hres', hbel'⟩
          case measure => simp [numOf'] <;> omega
        · have hkm' : k = m := by omega
          subst hkm'
          have hown' : wr.ownsRow w.heap.size 49 1 (.slice (some ⟨w1.heap.size, 0, none⟩) 9 9) 9 ((outT d (i + 1)).map vi) := by
            have e : outT d (i + 1) = innT (d i) (outT d i) k := by rw [outT, ← hm]; rfl
            rw [e]; exact hown
          clear hown
          go_wp2
          go_roundw
          case rel => exact ⟨i + 1, by omega, by go_num, hown', hbox, hres, hbel⟩
          case measure => simp [numOf'] <;> omega
    · have hin' : i = n := by omega
      subst hin'
      obtain ⟨x0, x1, x2, x3, x4, x5, x6, x7, x8, hl⟩ := nine (length_outT d i)
      have hl' : tchL d i = [x0, x1, x2, x3, x4, x5, x6, x7, x8] := hl
      rw [hl] at hown
      have cc : ∀ j x, [x0, x1, x2, x3, x4, x5, x6, x7, x8][j]? = some x → wr.cell? ⟨w1.heap.size, j, none⟩ = some (.int .i64 x) := fun j x hj => by
        have hlt := (List.getElem?_eq_some_iff.1 hj).1
        simp at hlt
        rw [hown.cellAt j (by omega), List.getElem?_map, hj]; rfl
      have k0 := cc 0 x0 rfl
      have k1 := cc 1 x1 rfl
      have k2 := cc 2 x2 rfl
      have k3 := cc 3 x3 rfl
      have k4 := cc 4 x4 rfl
      have k5 := cc 5 x5 rfl
      have k6 := cc 6 x6 rfl
      have k7 := cc 7 x7 rfl
      have k8 := cc 8 x8 rfl
      have rr : ∀ j, j < 9 → wr.cell? ⟨w.heap.size + 1, j, none⟩ = some (.int .i64 0) ∧ wr.frozen? ⟨w.heap.size + 1, j, none⟩ = false := fun j hj => by
        constructor
        · simp only [World.cell?, hres]
          have : j = 0 ∨ j = 1 ∨ j = 2 ∨ j = 3 ∨ j = 4 ∨ j = 5 ∨ j = 6 ∨ j = 7 ∨ j = 8 := by omega
          rcases this with rfl | rfl | rfl | rfl | rfl | rfl | rfl | rfl | rfl <;> rfl
        · simp [World.frozen?, hres]
      obtain ⟨r0, f0⟩ := rr 0 (by omega)
      obtain ⟨r1, f1⟩ := rr 1 (by omega)
      obtain ⟨r2, f2⟩ := rr 2 (by omega)
      obtain ⟨r3, f3⟩ := rr 3 (by omega)
      obtain ⟨r4, f4⟩ := rr 4 (by omega)
      obtain ⟨r5, f5⟩ := rr 5 (by omega)
      obtain ⟨r6, f6⟩ := rr 6 (by omega)
      obtain ⟨r7, f7⟩ := rr 7 (by omega)
      obtain ⟨r8, f8⟩ := rr 8 (by omega)
      clear cc hown hM0 hv rr
      go_wp2
      refine bodyPost_ret (v := .tuple #[.agg (cntA [x0, x1, x2, x3, x4, x5, x6, x7, x8]), .int .i64 0]) (by simp [results, results27, go_sem, cntA, vi, World.cell?_setCell_same, r0, r1, r2, r3, r4, r5, r6, r7, r8]) rfl ⟨by rw [hl'], (((((((((hbel.setCell (p := ⟨w.heap.size + 1, 0, none⟩) (by simp) _).setCell (p := ⟨w.heap.size + 1, 1, none⟩) (by simp) _).setCell (p := ⟨w.heap.size + 1, 2, none⟩) (by simp) _).setCell (p := ⟨w.heap.size + 1, 3, none⟩) (by simp) _).setCell (p := ⟨w.heap.size + 1, 4, none⟩) (by simp) _).setCell (p := ⟨w.heap.size + 1, 5, none⟩) (by simp) _).setCell (p := ⟨w.heap.size + 1, 6, none⟩) (by simp) _).setCell (p := ⟨w.heap.size + 1, 7, none⟩) (by simp) _).setCell (p := ⟨w.heap.size + 1, 8, none⟩) (by simp) _)⟩
end Go.Proofs.Tryz

namespace Go.Dr

def nextX (x : Int) : Int := (40692 * x).tmod 2147483399
def swp (l : List Int) (i k : Nat) : List Int := (l.set i (l[k]?.getD 0)).set k (l[i]?.getD 0)
def drw : Nat → Int → List Int → List Int
  | 0, _, l => l
  | i + 1, x, l => drw i (nextX x) (swp l (i + 1) ((nextX x).tmod ((i : Int) + 2)).toNat)
def upto (n : Nat) : List Int := (List.range n).map fun (i : Nat) => (i : Int)
def drawL (key : Int) (n : Nat) : List Int := drw (n - 1) key (upto n)

theorem nextX_range {x : Int} (h0 : 0 ≤ x) : 0 ≤ nextX x ∧ nextX x ≤ 2147483398 := by
  unfold nextX
  rw [Int.tmod_eq_emod_of_nonneg (by omega)]
  omega

theorem length_swp (l : List Int) (i k : Nat) : (swp l i k).length = l.length := by simp [swp]

theorem length_drw : ∀ (i : Nat) (x : Int) (l : List Int), (drw i x l).length = l.length
  | 0, _, _ => rfl
  | i + 1, x, l => by rw [drw, length_drw i, length_swp]

theorem length_upto (n : Nat) : (upto n).length = n := by simp [upto]
theorem length_drawL (key : Int) (n : Nat) : (drawL key n).length = n := by rw [drawL, length_drw, length_upto]

theorem upto_succ (n : Nat) : upto (n + 1) = upto n ++ [(n : Int)] := by simp [upto, List.range_succ]

/-- The place that is drawn lies in the list. -/
theorem place_range {x : Int} (h0 : 0 ≤ x) (i : Nat) : 0 ≤ x.tmod ((i : Int) + 2) ∧ x.tmod ((i : Int) + 2) < (i : Int) + 2 := by
  rw [Int.tmod_eq_emod_of_nonneg h0]
  exact ⟨Int.emod_nonneg _ (by omega), Int.emod_lt_of_pos _ (by omega)⟩

theorem nextX_eq {x : Int} (h0 : 0 ≤ x) : nextX x = (40692 * x) % 2147483399 := by
  unfold nextX; rw [Int.tmod_eq_emod_of_nonneg (by omega)]
theorem place_eq {x : Int} (h0 : 0 ≤ x) (i : Nat) : x.tmod ((i : Int) + 2) = x % ((i : Int) + 2) := Int.tmod_eq_emod_of_nonneg h0

theorem set_fill (n k : Nat) (hk : k < n) : (upto k ++ List.replicate (n - k) 0).set k (k : Int) = upto (k + 1) ++ List.replicate (n - (k + 1)) 0 := by
  have e : n - k = (n - (k + 1)) + 1 := by omega
  rw [e, List.replicate_succ, upto_succ]
  rw [List.set_append_right _ _ (by rw [length_upto]; omega), length_upto, Nat.sub_self]
  simp
end Go.Dr

namespace Go.Proofs.Tryz
open Go Go.Am Go.RowKit Go.Dr
set_option maxRecDepth 100000

theorem info3 : (prog.info? 3).map (fun i => (i.zero, i.size, i.bytes)) = some (some (.int .i64 0), 1, 8) := by kernel_rfl

def numOf : Value → Int
  | .int _ n => n
  | _ => 0
def vsOf (l : List Int) : List Value := l.map (Value.int .i64)

set_option maxHeartbeats 1600000 in
theorem draw_w (key : Int) (n : Nat) (w : World) (h1 : 1 ≤ key) (h2 : key ≤ 2147483398) (hn : n ≤ 256) :
    Calls prog 38 #[.int .i64 key, .int .i64 n] w fun e w' => ∃ v, e = .returned (.tuple #[v, .int .i64 0]) ∧ w'.ownsRow w.heap.size 3 1 v n (vsOf (drawL key n)) ∧ Below w.heap.size w w' := by
  obtain ⟨i0, hi, hz0, hz1, hz2⟩ := info_parts info3
  go_enter func38, ntmps38
  go_wp2_with (first | (at_make; refine wpList_make_full _ rfl _ _ 25 rfl w.heap.size 3 i0 (.int .i64 0) 1 underlying25 hi hz0 hz1 _ _ _ _ n rfl rfl rfl rfl ?b2 ?b3 ?b4 ?_) | go_in)
  refine wp_loop_rounds 3 ?_
  rw [rounds_succ]
  go_wp2
  rw [rounds_succ]
  go_wp2
  rw [rounds_succ]
  go_wp2_with (first | (at_make; refine wpList_make_full _ rfl _ _ 25 rfl w.heap.size 3 i0 (.int .i64 0) 1 underlying25 hi hz0 hz1 _ _ _ _ n rfl rfl rfl rfl ?b2 ?b3 ?b4 ?_) | go_in)
  case b2 => rw [hz2]; omega
  case b3 => unfold maxLen; omega
  case b4 => simp
  intro w1 hown1 hgrow1
  have hown0 : w1.ownsRow w.heap.size 3 1 (.slice (some ⟨w.heap.size + 1, 0, none⟩) n n) n (vsOf (upto 0 ++ List.replicate (n - 0) 0)) := by
    have e : (madeCells #[Value.int IntKind.i64 0] n).toList = vsOf (upto 0 ++ List.replicate (n - 0) 0) := by
      rw [toList_madeCells_one]; simp [vsOf, upto]
    rw [← e]; simpa using hown1
  have hbel0 : Below w.heap.size w w1 := ((Below.refl _ _).alloc (Nat.le_refl _) _).grown hgrow1 (by simp) (fun k h => by cases h)
  clear hown1 hgrow1
  go_wp2
  go_loopw [24] (fun c wr => ∃ k : Nat, k ≤ n ∧ c = .int .i64 k ∧ wr.ownsRow w.heap.size 3 1 (.slice (some ⟨w.heap.size + 1, 0, none⟩) n n) n (vsOf (upto k ++ List.replicate (n - k) 0)) ∧ Below w.heap.size w wr) (fun c _ => n - (numOf c).toNat)
  case atStart => exact ⟨0, Nat.zero_le _, rfl, hown0, hbel0⟩
  case round =>
    obtain ⟨k, hk, rfl, hown, hbel⟩ := hrel
    clear hown0 hbel0
    have hfr : wr.frozen? ⟨w.heap.size + 1, k, none⟩ = false := hown.frozenAt k
    have hll : (upto k ++ List.replicate (n - k) 0).length = n := by rw [List.length_append, length_upto, List.length_replicate]; omega
    have hcell : k < n → wr.cell? ⟨w.heap.size + 1, k, none⟩ = some (.int .i64 ((upto k ++ List.replicate (n - k) 0)[k]?.getD 0)) := fun h => by
      rw [hown.cellAt k (by omega)]
      simp only [vsOf, List.getElem?_map]
      rw [List.getElem?_eq_getElem (by omega)]; rfl
    go_wp2
    · have hlt : k < n := by assumption
      have hst := hown.stored k (.int .i64 k)
      go_roundw
      case rel =>
        refine ⟨k + 1, by omega, by go_num, ?_, hbel.grown hst.2 hbel.size (fun q hq => by cases hq; omega)⟩
        rw [← set_fill n k hlt]
        have := hst.1
        simpa [vsOf, List.map_set] using this
      case measure => simp [numOf] <;> omega
    · have hkn : k = n := by omega
      subst hkn
      have hown2 : wr.ownsRow w.heap.size 3 1 (.slice (some ⟨w.heap.size + 1, 0, none⟩) k k) k (vsOf (upto k)) := by simpa using hown
      clear hown hcell hfr hll hk
      go_loopw [9, 10] (fun vx vi wx => ∃ (c : Nat) (x : Int) (l : List Int), c ≤ k ∧ vx = .int .i64 x ∧ vi = .int .i64 ((c : Int) - 1) ∧ 0 ≤ x ∧ x ≤ 2147483398 ∧ l.length = k ∧ drw (c - 1) x l = drawL key k ∧
          wx.ownsRow w.heap.size 3 1 (.slice (some ⟨w.heap.size + 1, 0, none⟩) k k) k (vsOf l) ∧ Below w.heap.size w wx) (fun _ vi _ => (numOf vi).toNat)
      case atStart => exact ⟨k, key, upto k, Nat.le_refl _, rfl, rfl, by omega, h2, length_upto _, rfl, hown2, hbel⟩
      case round =>
        obtain ⟨c, x, l, hck, rfl, rfl, hx0, hx1, hll, hd, hown, hbl⟩ := hrel
        clear hown2 hbel
        by_cases hc : c ≤ 1
        · have hci : ¬ (0 : Int) < (c : Int) - 1 := by omega
          go_wp2
          go_ret2
          have e0 : c - 1 = 0 := by omega
          rw [e0] at hd
          exact ⟨_, rfl, by rw [← hd]; exact hown, hbl⟩
        · obtain ⟨m, rfl⟩ : ∃ m, c = m + 2 := ⟨c - 2, by omega⟩
          have e1 : ((m + 2 : Nat) : Int) - 1 = ((m + 1 : Nat) : Int) := by omega
          rw [e1]
          have hci : (0 : Int) < ((m + 1 : Nat) : Int) := by omega
          obtain ⟨y, hy⟩ : ∃ y, nextX x = y := ⟨_, rfl⟩
          obtain ⟨K, hK⟩ : ∃ K : Nat, y.tmod ((m : Int) + 2) = (K : Int) := ⟨(y.tmod ((m : Int) + 2)).toNat, by rw [Int.toNat_of_nonneg]; exact (place_range (by rw [← hy]; exact (nextX_range hx0).1) m).1⟩
          have hKr : K < m + 2 := by
            have := (place_range (x := y) (by rw [← hy]; exact (nextX_range hx0).1) m).2
            omega
          have hx' : (40692 * x).tmod 2147483399 = y := hy
          have hK' : y.tmod ((m : Int) + 1 + 1) = (K : Int) := by rw [← hK]; congr 1
          have hKk : K < k := by omega
          have hmk : m + 1 < k := by omega
          have hcell : ∀ j, j < k → wr.cell? ⟨w.heap.size + 1, j, none⟩ = some (.int .i64 (l[j]?.getD 0)) := fun j h => by
            rw [hown.cellAt j (by omega)]
            simp only [vsOf, List.getElem?_map]
            rw [List.getElem?_eq_getElem (by omega)]; rfl
          obtain ⟨a, ha⟩ : ∃ a, l[m + 1]?.getD 0 = a := ⟨_, rfl⟩
          obtain ⟨b, hb⟩ : ∃ b, l[K]?.getD 0 = b := ⟨_, rfl⟩
          have hc1 := hcell _ hKk
          have hc2 := hcell _ hmk
          rw [ha] at hc2
          rw [hb] at hc1
          have hs1 := hown.stored (m + 1) (.int .i64 b)
          have hs2 := hs1.1.stored K (.int .i64 a)
          have hc3 : (wr.setCell ⟨w.heap.size + 1, m + 1, none⟩ (.int .i64 b)).cell? ⟨w.heap.size + 1, K, none⟩ = some (.int .i64 b) := by
            rw [hs1.1.cellAt K (by omega)]
            simp only [vsOf, List.getElem?_set, List.getElem?_map, List.length_map]
            by_cases e : m + 1 = K
            · rw [if_pos e, if_pos (by omega)]
            · rw [if_neg e, ← hb, List.getElem?_eq_getElem (by omega)]; rfl
          have hf3 : (wr.setCell ⟨w.heap.size + 1, m + 1, none⟩ (.int .i64 b)).frozen? ⟨w.heap.size + 1, K, none⟩ = false := hs1.1.frozenAt K
          have hown' : ((wr.setCell ⟨w.heap.size + 1, m + 1, none⟩ (.int .i64 b)).setCell ⟨w.heap.size + 1, K, none⟩ (.int .i64 a)).ownsRow w.heap.size 3 1 (.slice (some ⟨w.heap.size + 1, 0, none⟩) k k) k (vsOf (swp l (m + 1) K)) := by
            have := hs2.1
            rw [← ha, ← hb] at this ⊢
            simpa [vsOf, swp, List.map_set] using this
          have hbl' : Below w.heap.size w ((wr.setCell ⟨w.heap.size + 1, m + 1, none⟩ (.int .i64 b)).setCell ⟨w.heap.size + 1, K, none⟩ (.int .i64 a)) :=
            (hbl.grown hs1.2 hbl.size (fun q hq => by cases hq; omega)).grown hs2.2 (by have := hbl.size; simp; omega) (fun q hq => by cases hq; omega)
          have hy2 := nextX_range hx0
          rw [hy] at hy2
          have hd' : drw ((m + 1) - 1) y (swp l (m + 1) K) = drawL key k := by
            rw [← hd]
            show drw m y (swp l (m + 1) K) = drw (m + 1) x l
            rw [drw, hy, hK]; rfl
          clear hs1 hs2
          have hf1 : wr.frozen? ⟨w.heap.size + 1, K, none⟩ = false := hown.frozenAt K
          have hf2 : wr.frozen? ⟨w.heap.size + 1, m + 1, none⟩ = false := hown.frozenAt (m + 1)
          clear hcell
          go_wp2
          go_region
          go_wp2
          go_roundw
          case rel => exact ⟨m + 1, y, swp l (m + 1) K, by omega, rfl, by go_num, hy2.1, hy2.2, by rw [length_swp, hll], hd', hown'.drew, hbl'.drew⟩
          case measure => simp [numOf] <;> omega
end Go.Proofs.Tryz
