/- A line of a game checked, on both sides: by the kit's walk. Lists of games that are built one by one. On the season seat: games that are handed, opened. Plain: totals as lists in order. Plain: leaders, as sorted lists of totals. -/
import Derived.Test.YtbfonnoebbjenaaGreatDoorAxD
namespace Go.Proofs.Tryz
open Go Go.Am Go.RowKit Go.Op
set_option maxRecDepth 100000

def LnD.arr (x : LnD) : Array Value := #[.string (bA x.p), .string (bA x.t), .int .i64 (x.c 0), .int .i64 (x.c 1), .int .i64 (x.c 2), .int .i64 (x.c 3), .int .i64 (x.c 4), .int .i64 (x.c 5), .int .i64 (x.c 6), .int .i64 (x.c 7), .int .i64 (x.c 8), .int .i64 (x.c 9), .int .i64 (x.c 10), .int .i64 (x.c 11)]
theorem LnD.arr_cells (x : LnD) : x.arr.toList = x.cells := rfl
def LnD.val (x : LnD) : Value := .agg #[.string (bA x.p), .string (bA x.t), .int .i64 (x.c 0), .int .i64 (x.c 1), .int .i64 (x.c 2), .int .i64 (x.c 3), .int .i64 (x.c 4), .int .i64 (x.c 5), .int .i64 (x.c 6), .int .i64 (x.c 7), .int .i64 (x.c 8), .int .i64 (x.c 9), .int .i64 (x.c 10), .int .i64 (x.c 11)]
/-- The fourteen cells of a line's block. -/
theorem box14 {w : World} {b : Nat} {x : LnD} {e : TypeId} (h : At w b x.arr e) :
    (w.cell? ⟨b, 0, none⟩ = some (.string (bA x.p)) ∧ w.cell? ⟨b, 1, none⟩ = some (.string (bA x.t)) ∧ w.cell? ⟨b, 2, none⟩ = some (.int .i64 (x.c 0)) ∧ w.cell? ⟨b, 3, none⟩ = some (.int .i64 (x.c 1)) ∧ w.cell? ⟨b, 4, none⟩ = some (.int .i64 (x.c 2)) ∧ w.cell? ⟨b, 5, none⟩ = some (.int .i64 (x.c 3)) ∧ w.cell? ⟨b, 6, none⟩ = some (.int .i64 (x.c 4)) ∧ w.cell? ⟨b, 7, none⟩ = some (.int .i64 (x.c 5)) ∧ w.cell? ⟨b, 8, none⟩ = some (.int .i64 (x.c 6)) ∧ w.cell? ⟨b, 9, none⟩ = some (.int .i64 (x.c 7)) ∧ w.cell? ⟨b, 10, none⟩ = some (.int .i64 (x.c 8)) ∧ w.cell? ⟨b, 11, none⟩ = some (.int .i64 (x.c 9)) ∧ w.cell? ⟨b, 12, none⟩ = some (.int .i64 (x.c 10)) ∧ w.cell? ⟨b, 13, none⟩ = some (.int .i64 (x.c 11))) := by
  unfold At LnD.arr at h
  refine ⟨?_, ?_, ?_, ?_, ?_, ?_, ?_, ?_, ?_, ?_, ?_, ?_, ?_, ?_⟩ <;> simp only [World.cell?, h] <;> rfl
theorem cell14 {w : World} {b : Nat} {x : LnD} {e : TypeId} (h : At w b x.arr e) {i : Nat} (hi : i < 12) : w.cell? ⟨b, 2 + i, none⟩ = some (.int .i64 (x.c i)) := by
  unfold At at h
  simp only [World.cell?, h]
  have : x.arr[2 + i]? = some (.int .i64 (x.c i)) := by
    rw [← Array.getElem?_toList, LnD.arr_cells, Nat.add_comm]
    exact ints_get hi
  simpa using this
theorem cnt_step (c : Nat → Int) {i : Nat} (h : i < 12) : cntE c i (12 - i) = if inE (c i) 0 999 = 0 then cntE c (i + 1) (12 - (i + 1)) else inE (c i) 0 999 := by
  rw [show 12 - i = (12 - (i + 1)) + 1 by omega, cntE]

theorem belowN {B : Nat} {a w : World} (h : Below B a w) (n : Nat) : Below B a (w.drewN n) := ⟨h.os, h.tape, h.output, h.size, h.block⟩
/-- What a line answers. -/
def ansE (g : GmD) (i : Nat) : Int := if lineE g.t0 g.t1 (g.l i) = 0 then (if lateB g.l i = true then 11 else 0) else lineE g.t0 g.t1 (g.l i)
theorem ans_bad {g : GmD} {i : Nat} (h : isNm (g.l i).p = false) : ansE g i = 8 := by
  unfold ansE lineE; rw [h]; simp
theorem ans_team {g : GmD} {i : Nat} (h : isNm (g.l i).p = true) (h0 : (g.l i).t ≠ g.t0) (h1 : (g.l i).t ≠ g.t1) : ansE g i = 10 := by
  unfold ansE lineE; rw [h]; simp [h0, h1]
theorem ans_else {g : GmD} {i : Nat} (h : isNm (g.l i).p = true) (h0 : (g.l i).t = g.t0 ∨ (g.l i).t = g.t1) : ansE g i = if cntE (g.l i).c 0 12 = 0 then (if lateB g.l i = true then 11 else 0) else cntE (g.l i).c 0 12 := by
  have h2 : ¬ ((g.l i).t ≠ g.t0 ∧ (g.l i).t ≠ g.t1) := by
    rintro ⟨a, b⟩; rcases h0 with q | q
    · exact a q
    · exact b q
  unfold ansE lineE; rw [h, if_pos rfl, if_neg h2]
theorem inE_cases (n lo hi : Int) : inE n lo hi = 0 ∨ inE n lo hi = 3 := by
  unfold inE; split <;> simp
set_option maxHeartbeats 3200000 in
/-- The reference's. -/
theorem lineR_w {g : GmD} {ad : Option Addr} {kc : Nat} {w : World} (hl : IsLines w (.slice ad g.k kc) g.l g.k) {i : Nat} (hi : i < g.k) (hk : g.k ≤ 1000) :
    Calls prog 123 #[g.val (.slice ad g.k kc), .int .i64 (i : Int)] w fun e w' => e = .returned (.int .i64 (ansE g i)) ∧ Below w.heap.size w w' := by
  have hB : Below w.heap.size w (w.alloc (.cells (g.arr (.slice ad g.k kc)) 105)) := (Below.refl _ _).alloc (Nat.le_refl _) _
  have hB2 : Below w.heap.size w ((w.alloc (.cells (g.arr (.slice ad g.k kc)) 105)).alloc (.cells (g.l i).arr 151)) := hB.alloc hB.size _
  have hlB := hl.below hB
  have hlB2 := hl.below hB2
  obtain ⟨b, off, c, e, hkc, p0, p1, pc⟩ := hlB.at hi
  simp only [Value.slice.injEq, true_and] at e
  obtain ⟨rfl, rfl⟩ := e
  have hc0 := pc 0 (by omega)
  have hc1 := pc 1 (by omega)
  have hc2 := pc 2 (by omega)
  have hc3 := pc 3 (by omega)
  have hc4 := pc 4 (by omega)
  have hc5 := pc 5 (by omega)
  have hc6 := pc 6 (by omega)
  have hc7 := pc 7 (by omega)
  have hc8 := pc 8 (by omega)
  have hc9 := pc 9 (by omega)
  have hc10 := pc 10 (by omega)
  have hc11 := pc 11 (by omega)
  simp only [Nat.reduceAdd] at hc0 hc1 hc2 hc3 hc4 hc5 hc6 hc7 hc8 hc9 hc10 hc11
  have hx := at_new w (g.arr (.slice (some ⟨b, off, none⟩) g.k kc)) 105
  have hx2 := hx.alloc (.cells (g.l i).arr 151)
  have hy : At ((w.alloc (.cells (g.arr (.slice (some ⟨b, off, none⟩) g.k kc)) 105)).alloc (.cells (g.l i).arr 151)) (w.heap.size + 1) (g.l i).arr 151 := by
    have := at_new (w.alloc (.cells (g.arr (.slice (some ⟨b, off, none⟩) g.k kc)) 105)) (g.l i).arr 151
    simpa using this
  have hyc := fun j hj => cell14 (i := j) hy hj
  obtain ⟨y0, y1, -⟩ := box14 hy
  unfold GmD.arr at hx hx2
  obtain ⟨⟨-, -, -, -, -, -, -, x7⟩, -⟩ := box8 hx
  obtain ⟨⟨-, -, -, z3, z4, -, -, z7⟩, -⟩ := box8 hx2
  obtain ⟨W2, hW⟩ : ∃ W2, (w.alloc (.cells (g.arr (.slice (some ⟨b, off, none⟩) g.k kc)) 105)).alloc (.cells (g.l i).arr 151) = W2 := ⟨_, rfl⟩
  rw [hW] at hB2 hlB2 hyc y0 y1
  unfold GmD.arr at hW p0 p1 hc0 hc1 hc2 hc3 hc4 hc5 hc6 hc7 hc8 hc9 hc10 hc11
  rw [hW] at z3 z4 z7
  unfold LnD.arr at hW
  unfold GmD.val
  have hii : (i : Int) < (g.k : Int) := by omega
  clear pc hx hx2 hy hlB hB
  obtain ⟨R, hR⟩ : ∃ R, ansE g i = R := ⟨_, rfl⟩
  rw [hR]
  have HR : Hid (ansE g i = R) := Lib.hid hR
  clear hR
  go_enter func123, ntmps123
  go_wp2_with fail
  try rw [hW]
  refine (nameE_w _ _).mono ?_
  rintro e w' ⟨rfl, rfl⟩
  clear hW p0 p1 hc0 hc1 hc2 hc3 hc4 hc5 hc6 hc7 hc8 hc9 hc10 hc11 x7
  cases hnm : isNm (g.l i).p with
  | false =>
    rw [show nmE (g.l i).p = 8 by unfold nmE; rw [hnm]; rfl]
    have HR2 := Lib.hid ((ans_bad hnm).symm.trans HR.out)
    go_wp2_with fail
    go_ret
    exact ⟨by rw [← HR2.out]; try rfl, hB2⟩
  | true =>
    rw [show nmE (g.l i).p = 0 by unfold nmE; rw [hnm]; rfl]
    by_cases h0 : (g.l i).t = g.t0 ∨ (g.l i).t = g.t1
    · have HR2 := Lib.hid ((ans_else hnm h0).symm.trans HR.out)
      clear HR
      have l1 : (bA (g.l i).t).toList = (g.l i).t := bA_list _
      have l2 : (bA g.t0).toList = g.t0 := bA_list _
      have l3 : (bA g.t1).toList = g.t1 := bA_list _
      have hor : ((g.l i).t == g.t0) = true ∨ (((g.l i).t == g.t0) = false ∧ ((g.l i).t == g.t1) = true) := by
        by_cases h1 : (g.l i).t = g.t0
        · exact .inl (by simpa using h1)
        · exact .inr ⟨by simpa using h1, by rcases h0 with h | h; exact absurd h h1; simpa using h⟩
      clear h0 hnm
      rcases hor with q1 | ⟨q1, q2⟩ <;> (
      go_wp2_with fail
      clear y1 z3 z4 l1 l2 l3 q1
      have HE : Hid (cntE (g.l i).c 0 12 = cntE (g.l i).c 0 (12 - 0)) := Lib.hid rfl
      go_loopw [7, 8] (fun s7 s8 wr => ∃ j : Nat, j ≤ 12 ∧ s7 = .int .i64 j ∧ Hid (cntE (g.l i).c 0 12 = cntE (g.l i).c j (12 - j)) ∧ wr = w') (fun s7 _ _ => 12 - (numOf' s7).toNat)
      case atStart => exact ⟨0, Nat.zero_le _, rfl, HE, rfl⟩
      case round =>
        clear HE
        obtain ⟨j, hj, rfl, hE, rfl⟩ := hrel
        by_cases hj12 : j < 12
        · have cj := hyc j hj12
          have hs := cnt_step (g.l i).c hj12
          have hjj : (j : Int) < 12 := by omega
          have cW := rangeR_w ((g.l i).c j) 0 999
          rcases inE_cases ((g.l i).c j) 0 999 with h | h
          · rw [h] at cW hs
            have hE2 : Hid (cntE (g.l i).c 0 12 = cntE (g.l i).c (j + 1) (12 - (j + 1))) := Lib.hid (by rw [hE.out, hs, if_pos rfl])
            clear hE hs h
            go_wp2_with fail
            refine (cW _).mono ?_
            rintro e w' ⟨rfl, rfl⟩
            go_wp2_with fail
            go_roundw
            case rel => exact ⟨j + 1, by omega, by go_num, hE2, by first | trivial | rfl⟩
            case measure => simp [numOf'] <;> omega
          · rw [h] at cW hs
            have hE2 : Hid (R = 3) := Lib.hid (by
              have := hE.out; rw [hs, if_neg (by decide)] at this
              have h2 := HR2.out; rw [this, if_neg (by decide)] at h2; exact h2.symm)
            clear hE hs h
            go_wp2_with fail
            refine (cW _).mono ?_
            rintro e w' ⟨rfl, rfl⟩
            go_wp2_with fail
            go_ret
            exact ⟨by rw [hE2.out]; try rfl, hB2⟩
        · obtain rfl : j = 12 := by omega
          have hE2 : Hid ((if lateB g.l i = true then 11 else 0) = R) := Lib.hid (by
            have := hE.out; rw [Nat.sub_self, cntE] at this
            have h2 := HR2.out; rw [this, if_pos rfl] at h2; exact h2)
          clear hE hyc HR2
          go_wp2_with fail
          have hdr : Below w.heap.size w wr.drew := hB2.drew
          match i, hi with
          | 0, _ =>
            have hE3 : Hid (R = 0) := Lib.hid (by have := hE2.out; rw [show lateB g.l 0 = false from rfl, if_neg (by decide)] at this; exact this.symm)
            clear hE2
            go_quiet (fail)
            have hdn : Below w.heap.size w (wr.drewN nq) := belowN hB2 nq
            all_goals (go_wp2_with fail; go_ret; exact ⟨by rw [hE3.out]; try rfl, hdn⟩)
          | k + 1, hk1 =>
            obtain ⟨b', off', c', e', -, p0, -⟩ := hlB2.at (show k < g.k by omega)
            simp only [Value.slice.injEq, true_and, Option.some.injEq, Addr.mk.injEq, and_true] at e'
            obtain ⟨⟨rfl, rfl⟩, rfl⟩ := e'
            have i1 : (0:Int) < ((k + 1 : Nat) : Int) := by omega
            have i2 : ((k + 1 : Nat) : Int) - 1 = (k : Int) := by omega
            have i3 : (k : Int) < (g.k : Int) := by omega
            have i4 : IntKind.i64.wrap (k : Int) = (k : Int) := IntWalk.i64_in _ (by omega)
            have i5 : IntKind.i64.wrap ((k : Int) + 1 - 1) = (k : Int) := by rw [IntWalk.i64_in _ (by omega)]; omega
            have i6 : wrap64 (k : Int) = (k : Int) := by simp only [wrap64] at *; omega
            have l1 : (bA (g.l (k + 1)).p).toList = (g.l (k + 1)).p := bA_list _
            have l2 : (bA (g.l k).p).toList = (g.l k).p := bA_list _
            have hlt : lateB g.l (k + 1) = (bytesLess (g.l (k + 1)).p (g.l k).p || (g.l (k + 1)).p == (g.l k).p) := by
              unfold lateB; rw [decide_eq_true (by omega : 0 < k + 1), Bool.true_and]; rfl
            cases hlate : lateB g.l (k + 1) with
            | true =>
              rw [hlate] at hlt
              have hE3 : Hid (R = 11) := Lib.hid (by have := hE2.out; rw [hlate, if_pos rfl] at this; exact this.symm)
              have hlt2 := hlt.symm
              clear hE2 hlate hlt
              go_region_held3 (fun W => W.cell? ⟨w.heap.size, 7, none⟩ = some (.slice (some ⟨b, off, none⟩) g.k kc) ∧ W.cell? ⟨w.heap.size + 1, 0, none⟩ = some (.string (bA (g.l (k + 1)).p)) ∧ W.cell? ⟨b, off + k * 14, none⟩ = some (.string (bA (g.l k).p)) ∧ Below w.heap.size w W) (go_keep) (fail)
              all_goals (go_wp2_with fail; go_ret; exact ⟨by rw [hE3.out]; try rfl, hdr⟩)
            | false =>
              rw [hlate] at hlt
              have hE3 : Hid (R = 0) := Lib.hid (by have := hE2.out; rw [hlate, if_neg (by decide)] at this; exact this.symm)
              have hlt2 := hlt.symm
              clear hE2 hlate hlt
              go_region_held3 (fun W => W.cell? ⟨w.heap.size, 7, none⟩ = some (.slice (some ⟨b, off, none⟩) g.k kc) ∧ W.cell? ⟨w.heap.size + 1, 0, none⟩ = some (.string (bA (g.l (k + 1)).p)) ∧ W.cell? ⟨b, off + k * 14, none⟩ = some (.string (bA (g.l k).p)) ∧ Below w.heap.size w W) (go_keep) (fail)
              all_goals (go_wp2_with fail; go_ret; exact ⟨by rw [hE3.out]; try rfl, hdr⟩))
    · have h1 : (g.l i).t ≠ g.t0 := fun h => h0 (.inl h)
      have h2 : (g.l i).t ≠ g.t1 := fun h => h0 (.inr h)
      have HR2 := Lib.hid ((ans_team hnm h1 h2).symm.trans HR.out)
      have q1 : ((g.l i).t == g.t0) = false := by simpa using h1
      have q2 : ((g.l i).t == g.t1) = false := by simpa using h2
      have l1 : (bA (g.l i).t).toList = (g.l i).t := bA_list _
      have l2 : (bA g.t0).toList = g.t0 := bA_list _
      have l3 : (bA g.t1).toList = g.t1 := bA_list _
      clear HR h0
      go_wp2_with fail
      go_ret
      exact ⟨by rw [← HR2.out]; try rfl, hB2⟩
end Go.Proofs.Tryz

namespace Go.Proofs.Tryz
open Go Go.Am Go.RowKit Go.Op
set_option maxRecDepth 100000

def linesL (l : Nat → LnD) (k : Nat) : List (List Value) := (List.range k).map fun i => (l i).cells
theorem linesL_len (l : Nat → LnD) (k : Nat) : (linesL l k).length = k := by simp [linesL]
theorem linesL_snoc (l : Nat → LnD) (k : Nat) : linesL l (k + 1) = linesL l k ++ [(l k).cells] := by unfold linesL; rw [List.range_succ, List.map_append]; rfl
def gamesL (g : Nat → GmD) (lv : Nat → Value) (n : Nat) : List (List Value) := (List.range n).map fun i => (g i).cells (lv i)
theorem gamesL_len (g : Nat → GmD) (lv : Nat → Value) (n : Nat) : (gamesL g lv n).length = n := by simp [gamesL]
theorem info_more {e : TypeId} {z : Value} {s b : Nat} (h : (prog.info? e).map (fun i => (i.zero, i.size, i.bytes)) = some (some z, s, b)) : ∃ i, prog.info? e = some i ∧ i.zero = some z ∧ i.size = s ∧ i.bytes = b := by
  cases hi : prog.info? e with
  | none => rw [hi] at h; cases h
  | some i => rw [hi] at h; simp only [Option.map_some, Option.some.injEq, Prod.mk.injEq] at h; exact ⟨i, rfl, h.1, h.2.1, h.2.2⟩
/-- Lines in a row of the call's own. -/
def OwnLines (w : World) (base eL : Nat) (v : Value) (l : Nat → LnD) (k : Nat) : Prop := OwnRow w base eL 14 v (linesL l k)
theorem OwnLines.start (w : World) (base eL : Nat) (l : Nat → LnD) : OwnLines w base eL (.slice none 0 0) l 0 := OwnRow.start _ _ _ _
theorem OwnLines.below {w W : World} {base eL : Nat} {v : Value} {l : Nat → LnD} {k : Nat} (h : OwnLines w base eL v l k) (hb : Below w.heap.size w W) : OwnLines W base eL v l k := OwnRow.below h hb
theorem OwnLines.mono {w : World} {base b2 eL : Nat} {v : Value} {l : Nat → LnD} {k : Nat} (h : OwnLines w base eL v l k) (hb : b2 ≤ base) : OwnLines w b2 eL v l k := OwnRow.mono h hb
theorem OwnLines.is {w : World} {base eL : Nat} {v : Value} {l : Nat → LnD} {k : Nat} (h : OwnLines w base eL v l k) : IsLines w v l k := by
  have h2 := OwnRow.row h
  rw [linesL_len] at h2
  exact h2.congr fun i hi => by simp [linesL, hi]
theorem OwnLines.more {w w' : World} {base eL : Nat} {v u : Value} {l : Nat → LnD} {k : Nat} (hA : AppR w w' base eL 14 (linesL l k) (l k).cells v u) : OwnLines w' base eL u l (k + 1) := by
  unfold OwnLines
  rw [linesL_snoc]
  exact hA.row
/-- Games in a row of the call's own, their lines too. -/
def OwnGames (w : World) (base e eL : Nat) (v : Value) (g : Nat → GmD) (n : Nat) : Prop := ∃ lv : Nat → Value, OwnRow w base e 8 v (gamesL g lv n) ∧ ∀ i, i < n → OwnLines w base eL (lv i) (g i).l (g i).k
theorem OwnGames.start (w : World) (base e eL : Nat) (g : Nat → GmD) : OwnGames w base e eL (.slice none 0 0) g 0 := ⟨fun _ => .bool false, OwnRow.start _ _ _ _, fun _ h => absurd h (Nat.not_lt_zero _)⟩
theorem OwnGames.is {w : World} {base e eL : Nat} {v : Value} {g : Nat → GmD} {n : Nat} (h : OwnGames w base e eL v g n) : IsGames w v g n := by
  obtain ⟨lv, h1, h2⟩ := h
  refine ⟨lv, ?_, fun i hi => (h2 i hi).is⟩
  have h3 := h1.row
  rw [gamesL_len] at h3
  exact h3.congr fun i hi => by simp [gamesL, hi]
theorem OwnGames.slice {w : World} {base e eL : Nat} {v : Value} {g : Nat → GmD} {n : Nat} (h : OwnGames w base e eL v g n) : ∃ a c, v = .slice a n c := by
  obtain ⟨lv, h1, -⟩ := h
  obtain ⟨a, c, e⟩ := h1.slice
  rw [gamesL_len] at e
  exact ⟨a, c, e⟩
theorem OwnGames.more {w w' : World} {base e eL : Nat} {v u lvn : Value} {g : Nat → GmD} {n : Nat} {lv : Nat → Value} (hne : eL ≠ e) (hl : ∀ i, i < n → OwnLines w base eL (lv i) (g i).l (g i).k) (hn : OwnLines w base eL lvn (g n).l (g n).k)
    (hA : AppR w w' base e 8 (gamesL g lv n) ((g n).cells lvn) v u) : OwnGames w' base e eL u g (n + 1) := by
  obtain ⟨k, xs, hu, hg⟩ := hA.grown
  refine ⟨fun i => if i = n then lvn else lv i, ?_, fun i hi => ?_⟩
  · have e1 : gamesL g (fun i => if i = n then lvn else lv i) (n + 1) = gamesL g lv n ++ [(g n).cells lvn] := by
      unfold gamesL
      rw [List.range_succ, List.map_append]
      congr 1
      · exact List.map_congr_left fun i hi => by have := List.mem_range.1 hi; simp only [if_neg (show ¬ i = n by omega)]
      · simp
    rw [e1]
    exact hA.row
  · by_cases h : i = n
    · subst h
      simp only [if_pos]
      exact OwnRow.grown hn hu hne hg
    · simp only [if_neg h]
      exact OwnRow.grown (hl i (by omega)) hu hne hg
theorem infoG : (prog.info? 110).map (fun i => (i.zero, i.size, i.bytes)) = some (some (.agg #[.string ⟨#[]⟩, .int .i64 0, .int .i64 0, .string ⟨#[]⟩, .string ⟨#[]⟩, .int .i64 0, .int .i64 0, .slice none 0 0]), 8, 104) := by kernel_rfl
theorem infoL : (prog.info? 132).map (fun i => (i.zero, i.size, i.bytes)) = some (some (.agg #[.string ⟨#[]⟩, .string ⟨#[]⟩, .int .i64 0, .int .i64 0, .int .i64 0, .int .i64 0, .int .i64 0, .int .i64 0, .int .i64 0, .int .i64 0, .int .i64 0, .int .i64 0, .int .i64 0, .int .i64 0]), 14, 128) := by kernel_rfl
theorem elG : ∃ i, ElT 29 110 8 i (.agg #[.string ⟨#[]⟩, .int .i64 0, .int .i64 0, .string ⟨#[]⟩, .string ⟨#[]⟩, .int .i64 0, .int .i64 0, .slice none 0 0]) 104 := by
  obtain ⟨i, hi, hz0, hz1, hz2⟩ := info_more infoG
  exact ⟨i, by kernel_rfl, hi, hz0, hz1, hz2, rfl, by decide, by decide⟩
theorem elL : ∃ i, ElT 108 132 14 i (.agg #[.string ⟨#[]⟩, .string ⟨#[]⟩, .int .i64 0, .int .i64 0, .int .i64 0, .int .i64 0, .int .i64 0, .int .i64 0, .int .i64 0, .int .i64 0, .int .i64 0, .int .i64 0, .int .i64 0, .int .i64 0]) 128 := by
  obtain ⟨i, hi, hz0, hz1, hz2⟩ := info_more infoL
  exact ⟨i, by kernel_rfl, hi, hz0, hz1, hz2, rfl, by decide, by decide⟩
end Go.Proofs.Tryz

namespace Go.Proofs.Tryz
open Go Go.Am Go.ChangeShapes Go.WideShapes Go.ChangeAt Go.RowKit
set_option maxRecDepth 100000

noncomputable def fs151 : Array Field := match prog.underlying 151 with | some (.struct fs) => fs | _ => #[]
noncomputable def fs105 : Array Field := match prog.underlying 105 with | some (.struct fs) => fs | _ => #[]
theorem x9 : prog.underlying 9 = some .string := by kernel_rfl
theorem x3 : prog.underlying 3 = some (.int .i64) := by kernel_rfl
theorem x54 : prog.underlying 54 = some (.array 12 3) := by kernel_rfl
theorem x82 : prog.underlying 82 = some (.array 2 9) := by kernel_rfl
theorem x102 : prog.underlying 102 = some (.array 2 3) := by kernel_rfl
theorem x103 : prog.underlying 103 = some (.slice 151) := by kernel_rfl
theorem x22 : prog.underlying 22 = some (.slice 105) := by kernel_rfl
theorem x151 : prog.underlying 151 = some (.struct fs151) := by kernel_rfl
theorem x105 : prog.underlying 105 = some (.struct fs105) := by kernel_rfl
theorem xn151 : fs151.size = 3 := by kernel_rfl
theorem xn105 : fs105.size = 6 := by kernel_rfl
theorem xt151 : (fs151.toList.map fun f => (f.type, f.offset)) = [(9, 0), (9, 1), (54, 2)] := by kernel_rfl
theorem xt105 : (fs105.toList.map fun f => (f.type, f.offset)) = [(9, 0), (3, 1), (3, 2), (82, 3), (102, 5), (103, 7)] := by kernel_rfl
theorem xc9 : prog.cellsOf 9 = 1 := by kernel_rfl
theorem xc3 : prog.cellsOf 3 = 1 := by kernel_rfl
theorem xc54 : prog.cellsOf 54 = 12 := by kernel_rfl
theorem xc82 : prog.cellsOf 82 = 2 := by kernel_rfl
theorem xc102 : prog.cellsOf 102 = 2 := by kernel_rfl
theorem xc103 : prog.cellsOf 103 = 1 := by kernel_rfl
theorem xc151 : prog.cellsOf 151 = 14 := by kernel_rfl
theorem xc105 : prog.cellsOf 105 = 8 := by kernel_rfl
theorem ints_eta2 (f : Nat → Int) : ints 2 f = [.int .i64 (f 0), .int .i64 (f 1)] := rfl
section
variable {H : Type} {enc : TypeId × Value → H} {w : World} {base : Nat} {spare : Nat → Bool} {held : Bool}
theorem line_open {fuel : Nat} {cs : List Value} {x : DataW H × List MemPlace} (h : DataW.trod enc prog w base spare held fuel 151 cs = some x) : ∃ d : LnD, cs = d.cells := by
  obtain ⟨ys, n, _, _, hl, hn, hf⟩ := DataW.trod_struct x151 h
  rw [xc151] at hl
  rw [xn151] at hn
  match cs, hl with
  | v0 :: v1 :: r, hl =>
    match ys, hn with
    | [z0, z1, z2], _ =>
      obtain ⟨f0, a0, b0, d0⟩ := field_at xt151 (i := 0) (t := 9) (o := 0) rfl
      obtain ⟨f1, a1, b1, d1⟩ := field_at xt151 (i := 1) (t := 9) (o := 1) rfl
      obtain ⟨f2, a2, b2, d2⟩ := field_at xt151 (i := 2) (t := 54) (o := 2) rfl
      have k0 := hf 0 f0 a0
      have k1 := hf 1 f1 a1
      have k2 := hf 2 f2 a2
      rw [b0, d0, xc9] at k0
      rw [b1, d1, xc9] at k1
      rw [b2, d2, xc54] at k2
      obtain ⟨p0, e0, _⟩ := DataW.trod_string x9 (show _ = some z0 from k0)
      obtain ⟨p1, e1, _⟩ := DataW.trod_string x9 (show _ = some z1 from k1)
      obtain ⟨c, e2⟩ := arr_int x54 x3 xc3 xc54 (show _ = some z2 from k2)
      simp only [List.length_cons] at hl
      have hr : List.take 12 r = r := List.take_of_length_le (by omega)
      simp only [List.drop_succ_cons, List.drop_zero, List.take_succ_cons, List.take_zero, List.cons.injEq, and_true] at e0 e1 e2
      rw [hr] at e2
      subst e0 e1 e2
      exact ⟨⟨p0.data.toList, p1.data.toList, c⟩, by simp only [LnD.cells, bA_data]⟩
theorem lines_open {fuel : Nat} {v : Value} {x : DataW H × List MemPlace} (h : DataW.trod enc prog w base spare held fuel 103 [v] = some x) : ∃ (k : Nat) (l : Nat → LnD), IsLines w v l k := by
  obtain ⟨k, d, f, h1, h2⟩ := row_open x103 xc151 (by decide) (⟨[], [], fun _ => 0⟩ : LnD) (fun d cs => cs = d.cells) (fun d cs e => by rw [e, LnD.len]) (fun h => line_open h) h
  exact ⟨k, d, h1.congr fun i hi => h2 i hi⟩
theorem game_open {fuel : Nat} {cs : List Value} {x : DataW H × List MemPlace} (h : DataW.trod enc prog w base spare held fuel 105 cs = some x) : ∃ (g : GmD) (lv : Value), cs = g.cells lv ∧ IsLines w lv g.l g.k := by
  obtain ⟨ys, n, _, _, hl, hn, hf⟩ := DataW.trod_struct x105 h
  rw [xc105] at hl
  rw [xn105] at hn
  match cs, hl with
  | [v0, v1, v2, v3, v4, v5, v6, v7], _ =>
    match ys, hn with
    | [z0, z1, z2, z3, z4, z5], _ =>
      obtain ⟨f0, a0, b0, d0⟩ := field_at xt105 (i := 0) (t := 9) (o := 0) rfl
      obtain ⟨f1, a1, b1, d1⟩ := field_at xt105 (i := 1) (t := 3) (o := 1) rfl
      obtain ⟨f2, a2, b2, d2⟩ := field_at xt105 (i := 2) (t := 3) (o := 2) rfl
      obtain ⟨f3, a3, b3, d3⟩ := field_at xt105 (i := 3) (t := 82) (o := 3) rfl
      obtain ⟨f4, a4, b4, d4⟩ := field_at xt105 (i := 4) (t := 102) (o := 5) rfl
      obtain ⟨f5, a5, b5, d5⟩ := field_at xt105 (i := 5) (t := 103) (o := 7) rfl
      have k0 := hf 0 f0 a0
      have k1 := hf 1 f1 a1
      have k2 := hf 2 f2 a2
      have k3 := hf 3 f3 a3
      have k4 := hf 4 f4 a4
      have k5 := hf 5 f5 a5
      rw [b0, d0, xc9] at k0
      rw [b1, d1, xc3] at k1
      rw [b2, d2, xc3] at k2
      rw [b3, d3, xc82] at k3
      rw [b4, d4, xc102] at k4
      rw [b5, d5, xc103] at k5
      obtain ⟨p0, e0, _⟩ := DataW.trod_string x9 (show _ = some z0 from k0)
      obtain ⟨p1, e1, _⟩ := DataW.trod_int x3 (show _ = some z1 from k1)
      obtain ⟨p2, e2, _⟩ := DataW.trod_int x3 (show _ = some z2 from k2)
      obtain ⟨t0, t1, e3⟩ := arr_str2 x82 x9 xc9 xc82 (show _ = some z3 from k3)
      obtain ⟨s, e4⟩ := arr_int x102 x3 xc3 xc102 (show _ = some z4 from k4)
      obtain ⟨k, l, hm⟩ := lines_open (show DataW.trod enc prog w base spare held n 103 [v7] = some z5 from k5)
      rw [ints_eta2] at e4
      simp only [List.drop_succ_cons, List.drop_zero, List.take_succ_cons, List.take_zero, List.cons.injEq, and_true] at e0 e1 e2 e3 e4
      obtain ⟨e3, e3'⟩ := e3
      obtain ⟨e4, e4'⟩ := e4
      subst e0 e1 e2 e3 e3' e4 e4'
      exact ⟨⟨p0.data.toList, p1, p2, t0, t1, s 0, s 1, l, k⟩, v7, by simp only [GmD.cells, bA_data], hm⟩
theorem games_open {fuel : Nat} {v : Value} {x : DataW H × List MemPlace} (h : DataW.trod enc prog w base spare held fuel 22 [v] = some x) : ∃ (n : Nat) (g : Nat → GmD), IsGames w v g n := by
  obtain ⟨n, d, f, h1, h2⟩ := row_open x22 xc105 (by decide) (⟨[], 0, 0, [], [], 0, 0, fun _ => ⟨[], [], fun _ => 0⟩, 0⟩ : GmD) (fun d cs => ∃ lv, cs = d.cells lv ∧ IsLines w lv d.l d.k) (fun d cs e => by obtain ⟨lv, e, -⟩ := e; rw [e, GmD.len]) (fun h => by obtain ⟨g, lv, e⟩ := game_open h; exact ⟨g, lv, e⟩) h
  refine ⟨n, d, fun i => if h : i < n then (h2 i h).choose else .bool false, h1.congr fun i hi => ?_, fun i hi => ?_⟩
  · simp only [dif_pos hi]; exact (h2 i hi).choose_spec.1
  · simp only [dif_pos hi]; exact (h2 i hi).choose_spec.2
variable {d : DataW H} {ps : List MemPlace}
theorem games_arg {r : Reach} {b0 : Nat} {v : Value} (hval : Value.okWide prog w r b0 22 v) (h : DataW.Trod enc prog w base spare held 22 v d ps) : ∃ (n : Nat) (g : Nat → GmD), IsGames w v g n := by
  simp only [Value.okWide, Cell.okWide, x22] at hval
  obtain ⟨fuel, hf⟩ := h
  cases v with
  | agg cs => simp_all [Cell.ok]
  | _ => exact games_open (show DataW.trod enc prog w base spare held fuel 22 [_] = some _ from hf)
end
end Go.Proofs.Tryz

namespace Go.Proofs.Tryz
open Go Go.Am Go.RowKit Go.Op
set_option maxRecDepth 100000

/-! ### bytes in order -/
theorem bl_irrefl : ∀ a : List UInt8, bytesLess a a = false
  | [] => rfl
  | x :: a => by simp [bytesLess, bl_irrefl a]
theorem bl_trans : ∀ {a b c : List UInt8}, bytesLess a b = true → bytesLess b c = true → bytesLess a c = true
  | _, [], _, h, _ => by simp [bytesLess] at h
  | _, _ :: _, [], _, h => by simp [bytesLess] at h
  | [], _ :: _, _ :: _, _, _ => rfl
  | x :: a, y :: b, z :: c, h1, h2 => by
    simp only [bytesLess, Bool.or_eq_true, decide_eq_true_eq, Bool.and_eq_true, beq_iff_eq] at *
    rcases h1 with h1 | ⟨rfl, h1⟩
    · rcases h2 with h2 | ⟨rfl, -⟩
      · exact .inl (UInt8.lt_trans h1 h2)
      · exact .inl h1
    · rcases h2 with h2 | ⟨rfl, h2⟩
      · exact .inl h2
      · exact .inr ⟨rfl, bl_trans h1 h2⟩
theorem bl_tri : ∀ {a b : List UInt8}, bytesLess a b = false → bytesLess b a = false → a = b
  | [], [], _, _ => rfl
  | [], _ :: _, h, _ => by simp [bytesLess] at h
  | _ :: _, [], _, h => by simp [bytesLess] at h
  | x :: a, y :: b, h1, h2 => by
    simp only [bytesLess, Bool.or_eq_false_iff, decide_eq_false_iff_not, Bool.and_eq_false_iff] at *
    have e : x = y := by
      apply UInt8.toNat_inj.1
      have := h1.1; have := h2.1
      simp only [UInt8.lt_iff_toNat_lt] at *
      omega
    subst e
    rw [bl_tri (a := a) (b := b) (by rcases h1.2 with h | h; simp at h; exact h) (by rcases h2.2 with h | h; simp at h; exact h)]
theorem bl_asymm {a b : List UInt8} (h : bytesLess a b = true) : bytesLess b a = false := by
  cases h2 : bytesLess b a with
  | false => rfl
  | true => have := bl_trans h h2; rw [bl_irrefl] at this; cases this
/-! ### totals -/
structure Tot where
  p : List UInt8
  gm : Int
  c : Nat → Int
/-- Counts alike from the place i on. -/
def allEq (c d : Nat → Int) : Nat → Nat → Bool
  | _, 0 => true
  | i, n + 1 => (c i == d i) && allEq c d (i + 1) n
/-- A total of nothing. -/
def nzT (t : Tot) : Bool := !((t.gm == 0) && allEq t.c (fun _ => 0) 0 12)
end Go.Proofs.Tryz

namespace Go.Proofs.Tryz
open Go Go.Am Go.RowKit Go.Op
set_option maxRecDepth 100000

/-- One rate is at most the other one. -/
def leR (i k : Nat) (a b : Tot) : Prop := a.c i * b.c k ≤ b.c i * a.c k
instance (i k : Nat) (a b : Tot) : Decidable (leR i k a b) := inferInstanceAs (Decidable (_ ≤ _))
/-! ### places -/
/-! ### what is handed back -/
end Go.Proofs.Tryz
