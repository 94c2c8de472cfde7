/- A line of a game checked, on both sides: by the kit's walk. -/
import Derived.Test.YtbfonnoebbjenaaGreatDoorAxD
namespace Go.Proofs.Tryz
open Go Go.Am Go.RowKit Go.Op
set_option maxRecDepth 100000

def LnD.arr (x : LnD) : Array Value := #[.string (bA x.p), .string (bA x.t), .int .i64 (x.c 0), .int .i64 (x.c 1), .int .i64 (x.c 2), .int .i64 (x.c 3), .int .i64 (x.c 4), .int .i64 (x.c 5), .int .i64 (x.c 6), .int .i64 (x.c 7), .int .i64 (x.c 8), .int .i64 (x.c 9), .int .i64 (x.c 10), .int .i64 (x.c 11)]
theorem LnD.arr_cells (x : LnD) : x.arr.toList = x.cells := rfl
def LnD.val (x : LnD) : Value := .agg #[.string (bA x.p), .string (bA x.t), .int .i64 (x.c 0), .int .i64 (x.c 1), .int .i64 (x.c 2), .int .i64 (x.c 3), .int .i64 (x.c 4), .int .i64 (x.c 5), .int .i64 (x.c 6), .int .i64 (x.c 7), .int .i64 (x.c 8), .int .i64 (x.c 9), .int .i64 (x.c 10), .int .i64 (x.c 11)]
/-- The fourteen cells of a line's block. -/
theorem box14 {w : World} {b : Nat} {x : LnD} {e : TypeId} (h : At w b x.arr e) :
    (w.cell? ⟨b, 0, none⟩ = some (.string (bA x.p)) ∧ w.cell? ⟨b, 1, none⟩ = some (.string (bA x.t)) ∧ w.cell? ⟨b, 2, none⟩ = some (.int .i64 (x.c 0)) ∧ w.cell? ⟨b, 3, none⟩ = some (.int .i64 (x.c 1)) ∧ w.cell? ⟨b, 4, none⟩ = some (.int .i64 (x.c 2)) ∧ w.cell? ⟨b, 5, none⟩ = some (.int .i64 (x.c 3)) ∧ w.cell? ⟨b, 6, none⟩ = some (.int .i64 (x.c 4)) ∧ w.cell? ⟨b, 7, none⟩ = some (.int .i64 (x.c 5)) ∧ w.cell? ⟨b, 8, none⟩ = some (.int .i64 (x.c 6)) ∧ w.cell? ⟨b, 9, none⟩ = some (.int .i64 (x.c 7)) ∧ w.cell? ⟨b, 10, none⟩ = some (.int .i64 (x.c 8)) ∧ w.cell? ⟨b, 11, none⟩ = some (.int .i64 (x.c 9)) ∧ w.cell? ⟨b, 12, none⟩ = some (.int .i64 (x.c 10)) ∧ w.cell? ⟨b, 13, none⟩ = some (.int .i64 (x.c 11))) := by
  unfold At LnD.arr at h
  refine ⟨?_, ?_, ?_, ?_, ?_, ?_, ?_, ?_, ?_, ?_, ?_, ?_, ?_, ?_⟩ <;> simp only [World.cell?, h] <;> rfl
theorem cell14 {w : World} {b : Nat} {x : LnD} {e : TypeId} (h : At w b x.arr e) {i : Nat} (hi : i < 12) : w.cell? ⟨b, 2 + i, none⟩ = some (.int .i64 (x.c i)) := by
  unfold At at h
  simp only [World.cell?, h]
  have : x.arr[2 + i]? = some (.int .i64 (x.c i)) := by
    rw [← Array.getElem?_toList, LnD.arr_cells, Nat.add_comm]
    exact ints_get hi
  simpa using this
theorem cnt_step (c : Nat → Int) {i : Nat} (h : i < 12) : cntE c i (12 - i) = if inE (c i) 0 999 = 0 then cntE c (i + 1) (12 - (i + 1)) else inE (c i) 0 999 := by
  rw [show 12 - i = (12 - (i + 1)) + 1 by omega, cntE]

theorem belowN {B : Nat} {a w : World} (h : Below B a w) (n : Nat) : Below B a (w.drewN n) := ⟨h.os, h.tape, h.output, h.size, h.block⟩
/-- What a line answers. -/
def ansE (g : GmD) (i : Nat) : Int := if lineE g.t0 g.t1 (g.l i) = 0 then (if lateB g.l i = true then 11 else 0) else lineE g.t0 g.t1 (g.l i)
theorem ans_bad {g : GmD} {i : Nat} (h : isNm (g.l i).p = false) : ansE g i = 8 := by
  unfold ansE lineE; rw [h]; simp
theorem ans_team {g : GmD} {i : Nat} (h : isNm (g.l i).p = true) (h0 : (g.l i).t ≠ g.t0) (h1 : (g.l i).t ≠ g.t1) : ansE g i = 10 := by
  unfold ansE lineE; rw [h]; simp [h0, h1]
theorem ans_else {g : GmD} {i : Nat} (h : isNm (g.l i).p = true) (h0 : (g.l i).t = g.t0 ∨ (g.l i).t = g.t1) : ansE g i = if cntE (g.l i).c 0 12 = 0 then (if lateB g.l i = true then 11 else 0) else cntE (g.l i).c 0 12 := by
  have h2 : ¬ ((g.l i).t ≠ g.t0 ∧ (g.l i).t ≠ g.t1) := by
    rintro ⟨a, b⟩; rcases h0 with q | q
    · exact a q
    · exact b q
  unfold ansE lineE; rw [h, if_pos rfl, if_neg h2]
theorem inE_cases (n lo hi : Int) : inE n lo hi = 0 ∨ inE n lo hi = 3 := by
  unfold inE; split <;> simp
set_option maxHeartbeats 3200000 in
/-- The reference's. -/
theorem lineR_w {g : GmD} {ad : Option Addr} {kc : Nat} {w : World} (hl : IsLines w (.slice ad g.k kc) g.l g.k) {i : Nat} (hi : i < g.k) (hk : g.k ≤ 1000) :
    Calls prog 123 #[g.val (.slice ad g.k kc), .int .i64 (i : Int)] w fun e w' => e = .returned (.int .i64 (ansE g i)) ∧ Below w.heap.size w w' := by
  have hB : Below w.heap.size w (w.alloc (.cells (g.arr (.slice ad g.k kc)) 105)) := (Below.refl _ _).alloc (Nat.le_refl _) _
  have hB2 : Below w.heap.size w ((w.alloc (.cells (g.arr (.slice ad g.k kc)) 105)).alloc (.cells (g.l i).arr 151)) := hB.alloc hB.size _
  have hlB := hl.below hB
  have hlB2 := hl.below hB2
  obtain ⟨b, off, c, e, hkc, p0, p1, pc⟩ := hlB.at hi
  simp only [Value.slice.injEq, true_and] at e
  obtain ⟨rfl, rfl⟩ := e
  have hc0 := pc 0 (by omega)
  have hc1 := pc 1 (by omega)
  have hc2 := pc 2 (by omega)
  have hc3 := pc 3 (by omega)
  have hc4 := pc 4 (by omega)
  have hc5 := pc 5 (by omega)
  have hc6 := pc 6 (by omega)
  have hc7 := pc 7 (by omega)
  have hc8 := pc 8 (by omega)
  have hc9 := pc 9 (by omega)
  have hc10 := pc 10 (by omega)
  have hc11 := pc 11 (by omega)
  simp only [Nat.reduceAdd] at hc0 hc1 hc2 hc3 hc4 hc5 hc6 hc7 hc8 hc9 hc10 hc11
  have hx := at_new w (g.arr (.slice (some ⟨b, off, none⟩) g.k kc)) 105
  have hx2 := hx.alloc (.cells (g.l i).arr 151)
  have hy : At ((w.alloc (.cells (g.arr (.slice (some ⟨b, off, none⟩) g.k kc)) 105)).alloc (.cells (g.l i).arr 151)) (w.heap.size + 1) (g.l i).arr 151 := by
    have := at_new (w.alloc (.cells (g.arr (.slice (some ⟨b, off, none⟩) g.k kc)) 105)) (g.l i).arr 151
    simpa using this
  have hyc := fun j hj => cell14 (i := j) hy hj
  obtain ⟨y0, y1, -⟩ := box14 hy
  unfold GmD.arr at hx hx2
  obtain ⟨⟨-, -, -, -, -, -, -, x7⟩, -⟩ := box8 hx
  obtain ⟨⟨-, -, -, z3, z4, -, -, z7⟩, -⟩ := box8 hx2
  obtain ⟨W2, hW⟩ : ∃ W2, (w.alloc (.cells (g.arr (.slice (some ⟨b, off, none⟩) g.k kc)) 105)).alloc (.cells (g.l i).arr 151) = W2 := ⟨_, rfl⟩
  rw [hW] at hB2 hlB2 hyc y0 y1
  unfold GmD.arr at hW p0 p1 hc0 hc1 hc2 hc3 hc4 hc5 hc6 hc7 hc8 hc9 hc10 hc11
  rw [hW] at z3 z4 z7
  unfold LnD.arr at hW
  unfold GmD.val
  have hii : (i : Int) < (g.k : Int) := by omega
  clear pc hx hx2 hy hlB hB
  obtain ⟨R, hR⟩ : ∃ R, ansE g i = R := ⟨_, rfl⟩
  rw [hR]
  have HR : Hid (ansE g i = R) := Lib.hid hR
  clear hR
  go_enter func123, ntmps123
  go_wp2_with fail
  try rw [hW]
  refine (nameE_w _ _).mono ?_
  rintro e w' ⟨rfl, rfl⟩
  clear hW p0 p1 hc0 hc1 hc2 hc3 hc4 hc5 hc6 hc7 hc8 hc9 hc10 hc11 x7
  cases hnm : isNm (g.l i).p with
  | false =>
    rw [show nmE (g.l i).p = 8 by unfold nmE; rw [hnm]; rfl]
    have HR2 := Lib.hid ((ans_bad hnm).symm.trans HR.out)
    go_wp2_with fail
    go_ret
    exact ⟨by rw [← HR2.out]; try rfl, hB2⟩
  | true =>
    rw [show nmE (g.l i).p = 0 by unfold nmE; rw [hnm]; rfl]
    by_cases h0 : (g.l i).t = g.t0 ∨ (g.l i).t = g.t1
    · have HR2 := Lib.hid ((ans_else hnm h0).symm.trans HR.out)
      clear HR
      have l1 : (bA (g.l i).t).toList = (g.l i).t := bA_list _
      have l2 : (bA g.t0).toList = g.t0 := bA_list _
      have l3 : (bA g.t1).toList = g.t1 := bA_list _
      have hor : ((g.l i).t == g.t0) = true ∨ (((g.l i).t == g.t0) = false ∧ ((g.l i).t == g.t1) = true) := by
        by_cases h1 : (g.l i).t = g.t0
        · exact .inl (by simpa using h1)
        · exact .inr ⟨by simpa using h1, by rcases h0 with h | h; exact absurd h h1; simpa using h⟩
      clear h0 hnm
      rcases hor with q1 | ⟨q1, q2⟩ <;> (
      go_wp2_with fail
      clear y1 z3 z4 l1 l2 l3 q1
      have HE : Hid (cntE (g.l i).c 0 12 = cntE (g.l i).c 0 (12 - 0)) := Lib.hid rfl
      go_loopw [7, 8] (fun s7 s8 wr => ∃ j : Nat, j ≤ 12 ∧ s7 = .int .i64 j ∧ Hid (cntE (g.l i).c 0 12 = cntE (g.l i).c j (12 - j)) ∧ wr = w') (fun s7 _ _ => 12 - (numOf' s7).toNat)
      case atStart => exact ⟨0, Nat.zero_le _, rfl, HE, rfl⟩
      case round =>
        clear HE
        obtain ⟨j, hj, rfl, hE, rfl⟩ := hrel
        by_cases hj12 : j < 12
        · have cj := hyc j hj12
          have hs := cnt_step (g.l i).c hj12
          have hjj : (j : Int) < 12 := by omega
          have cW := rangeR_w ((g.l i).c j) 0 999
          rcases inE_cases ((g.l i).c j) 0 999 with h | h
          · rw [h] at cW hs
            have hE2 : Hid (cntE (g.l i).c 0 12 = cntE (g.l i).c (j + 1) (12 - (j + 1))) := Lib.hid (by rw [hE.out, hs, if_pos rfl])
            clear hE hs h
            go_wp2_with fail
            refine (cW _).mono ?_
            rintro e w' ⟨rfl, rfl⟩
            go_wp2_with fail
            go_roundw
            case rel => exact ⟨j + 1, by omega, by go_num, hE2, by first | trivial | rfl⟩
            case measure => simp [numOf'] <;> omega
          · rw [h] at cW hs
            have hE2 : Hid (R = 3) := Lib.hid (by
              have := hE.out; rw [hs, if_neg (by decide)] at this
              have h2 := HR2.out; rw [this, if_neg (by decide)] at h2; exact h2.symm)
            clear hE hs h
            go_wp2_with fail
            refine (cW _).mono ?_
            rintro e w' ⟨rfl, rfl⟩
            go_wp2_with fail
            go_ret
            exact ⟨by rw [hE2.out]; try rfl, hB2⟩
        · obtain rfl : j = 12 := by omega
          have hE2 : Hid ((if lateB g.l i = true then 11 else 0) = R) := Lib.hid (by
            have := hE.out; rw [Nat.sub_self, cntE] at this
            have h2 := HR2.out; rw [this, if_pos rfl] at h2; exact h2)
          clear hE hyc HR2
          go_wp2_with fail
          have hdr : Below w.heap.size w wr.drew := hB2.drew
          match i, hi with
          | 0, _ =>
            have hE3 : Hid (R = 0) := Lib.hid (by have := hE2.out; rw [show lateB g.l 0 = false from rfl, if_neg (by decide)] at this; exact this.symm)
            clear hE2
            go_quiet (fail)
            have hdn : Below w.heap.size w (wr.drewN nq) := belowN hB2 nq
            all_goals (go_wp2_with fail; go_ret; exact ⟨by rw [hE3.out]; try rfl, hdn⟩)
          | k + 1, hk1 =>
            obtain ⟨b', off', c', e', -, p0, -⟩ := hlB2.at (show k < g.k by omega)
            simp only [Value.slice.injEq, true_and, Option.some.injEq, Addr.mk.injEq, and_true] at e'
            obtain ⟨⟨rfl, rfl⟩, rfl⟩ := e'
            have i1 : (0:Int) < ((k + 1 : Nat) : Int) := by omega
            have i2 : ((k + 1 : Nat) : Int) - 1 = (k : Int) := by omega
            have i3 : (k : Int) < (g.k : Int) := by omega
            have i4 : IntKind.i64.wrap (k : Int) = (k : Int) := IntWalk.i64_in _ (by omega)
            have i5 : IntKind.i64.wrap ((k : Int) + 1 - 1) = (k : Int) := by rw [IntWalk.i64_in _ (by omega)]; omega
            have i6 : wrap64 (k : Int) = (k : Int) := by simp only [wrap64] at *; omega
            have l1 : (bA (g.l (k + 1)).p).toList = (g.l (k + 1)).p := bA_list _
            have l2 : (bA (g.l k).p).toList = (g.l k).p := bA_list _
            have hlt : lateB g.l (k + 1) = (bytesLess (g.l (k + 1)).p (g.l k).p || (g.l (k + 1)).p == (g.l k).p) := by
              unfold lateB; rw [decide_eq_true (by omega : 0 < k + 1), Bool.true_and]; rfl
            cases hlate : lateB g.l (k + 1) with
            | true =>
              rw [hlate] at hlt
              have hE3 : Hid (R = 11) := Lib.hid (by have := hE2.out; rw [hlate, if_pos rfl] at this; exact this.symm)
              have hlt2 := hlt.symm
              clear hE2 hlate hlt
              go_region_held3 (fun W => W.cell? ⟨w.heap.size, 7, none⟩ = some (.slice (some ⟨b, off, none⟩) g.k kc) ∧ W.cell? ⟨w.heap.size + 1, 0, none⟩ = some (.string (bA (g.l (k + 1)).p)) ∧ W.cell? ⟨b, off + k * 14, none⟩ = some (.string (bA (g.l k).p)) ∧ Below w.heap.size w W) (go_keep) (fail)
              all_goals (go_wp2_with fail; go_ret; exact ⟨by rw [hE3.out]; try rfl, hdr⟩)
            | false =>
              rw [hlate] at hlt
              have hE3 : Hid (R = 0) := Lib.hid (by have := hE2.out; rw [hlate, if_neg (by decide)] at this; exact this.symm)
              have hlt2 := hlt.symm
              clear hE2 hlate hlt
              go_region_held3 (fun W => W.cell? ⟨w.heap.size, 7, none⟩ = some (.slice (some ⟨b, off, none⟩) g.k kc) ∧ W.cell? ⟨w.heap.size + 1, 0, none⟩ = some (.string (bA (g.l (k + 1)).p)) ∧ W.cell? ⟨b, off + k * 14, none⟩ = some (.string (bA (g.l k).p)) ∧ Below w.heap.size w W) (go_keep) (fail)
              all_goals (go_wp2_with fail; go_ret; exact ⟨by rw [hE3.out]; try rfl, hdr⟩))
    · have h1 : (g.l i).t ≠ g.t0 := fun h => h0 (.inl h)
      have h2 : (g.l i).t ≠ g.t1 := fun h => h0 (.inr h)
      have HR2 := Lib.hid ((ans_team hnm h1 h2).symm.trans HR.out)
      have q1 : ((g.l i).t == g.t0) = false := by simpa using h1
      have q2 : ((g.l i).t == g.t1) = false := by simpa using h2
      have l1 : (bA (g.l i).t).toList = (g.l i).t := bA_list _
      have l2 : (bA g.t0).toList = g.t0 := bA_list _
      have l3 : (bA g.t1).toList = g.t1 := bA_list _
      clear HR h0
      go_wp2_with fail
      go_ret
      exact ⟨by rw [← HR2.out]; try rfl, hB2⟩
end Go.Proofs.Tryz
