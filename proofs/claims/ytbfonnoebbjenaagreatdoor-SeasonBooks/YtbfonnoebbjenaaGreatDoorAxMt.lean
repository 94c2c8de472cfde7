/- Games of the season told as ones of the reference: by the kit's walk. Plain: totals as lists in order. Totals in rows; totals of the season as ones of the reference, and back: by the kit's walk. Totals compared: by the kit's walk. Counts added, by the reference: by the kit's walk. A row of the call's own written in place. A total added to totals in order, by the reference: by the kit's walk. The lines of games added to totals, by the reference: by the kit's walk. Totals without those of nothing, by the reference: by the kit's walk. -/
import Derived.Test.YtbfonnoebbjenaaGreatDoorAxL
import Derived.Deep.QuietTactic
import Derived.Test.YtbfonnoebbjenaaGreatDoorAxQ
namespace Go.Proofs.Tryz
open Go Go.Am Go.RowKit Go.Op
set_option maxRecDepth 100000

set_option maxHeartbeats 3200000 in
theorem told_w {g : Nat → GmD} {n : Nat} {v : Value} {w : World} (h : IsGames w v g n) (hn : n ≤ 1000) (hk : ∀ i, i < n → (g i).k ≤ 1000) :
    Calls prog 68 #[v] w fun e w' => (∃ u, e = .returned u ∧ OwnGames w' w.heap.size 105 151 u g n) ∧ Below w.heap.size w w' := by
  obtain ⟨iG, TG⟩ := elGR
  obtain ⟨iL, TL⟩ := elLR
  have HT := Lib.hid (And.intro TG TL)
  clear TG TL
  have h0 := h
  obtain ⟨lv0, hr, -⟩ := h0
  obtain ⟨ad, c, rfl, hnc⟩ := hr.slice
  have hs0 : OwnGames w w.heap.size 105 151 (.slice none 0 0) g 0 := OwnGames.start _ _ _ _ _
  clear hr
  go_enter func68, ntmps68
  go_wp2_with fail
  go_loopw [3, 11] (fun t s wr => ∃ i : Nat, i ≤ n ∧ s = .int .i64 i ∧ OwnGames wr w.heap.size 105 151 t g i ∧ Below w.heap.size w wr) (fun _ s _ => n - (numOf' s).toNat)
  case atStart => exact ⟨0, Nat.zero_le _, rfl, hs0, Below.refl _ _⟩
  case round =>
    clear hs0
    obtain ⟨i, hi, rfl, hl, hb⟩ := hrel
    obtain ⟨wq, rfl⟩ : ∃ W : World, W = wr := ⟨_, rfl⟩
    by_cases hin : i < n
    · obtain ⟨b, off, c1, a1, kc, e, -, hli, p0, p1, p2, p3, p4, p5, p6, p7⟩ := (h.below hb).at hin
      simp only [Value.slice.injEq, true_and] at e
      obtain ⟨rfl, rfl⟩ := e
      have hii : (i : Int) < (n : Int) := by omega
      have hki := hk i hin
      have hb1 : Below wq.heap.size wq (wq.alloc (.cells ((g i).arr (.slice a1 (g i).k kc)) 110)) := (Below.refl _ _).alloc (Nat.le_refl _) _
      have hb2 : Below wq.heap.size wq ((wq.alloc (.cells ((g i).arr (.slice a1 (g i).k kc)) 110)).alloc (.cells ((g i).arr (.slice none 0 0)) 105)) := hb1.alloc hb1.size _
      have hx1 := at_new wq ((g i).arr (.slice a1 (g i).k kc)) 110
      have hx2 := hx1.alloc (.cells ((g i).arr (.slice none 0 0)) 105)
      have hy : At ((wq.alloc (.cells ((g i).arr (.slice a1 (g i).k kc)) 110)).alloc (.cells ((g i).arr (.slice none 0 0)) 105)) (wq.heap.size + 1) ((g i).arr (.slice none 0 0)) 105 := by
        have := at_new (wq.alloc (.cells ((g i).arr (.slice a1 (g i).k kc)) 110)) ((g i).arr (.slice none 0 0)) 105
        simpa using this
      have hsz : wq.heap.size + 2 ≤ ((wq.alloc (.cells ((g i).arr (.slice a1 (g i).k kc)) 110)).alloc (.cells ((g i).arr (.slice none 0 0)) 105)).heap.size := by simp
      unfold GmD.arr at hx1 hx2
      obtain ⟨⟨x0, x1, x2, x3, x4, x5, x6, x7⟩, -⟩ := box8 hx1
      obtain ⟨⟨y0, y1, y2, y3, y4, y5, y6, y7⟩, -⟩ := box8 hx2
      obtain ⟨W2, hW⟩ : ∃ W2, (wq.alloc (.cells ((g i).arr (.slice a1 (g i).k kc)) 110)).alloc (.cells ((g i).arr (.slice none 0 0)) 105) = W2 := ⟨_, rfl⟩
      rw [hW] at hb2 hy hsz
      unfold GmD.arr at hW
      rw [hW] at y0 y1 y2 y3 y4 y5 y6 y7
      have hyu := hy
      unfold GmD.arr at hyu
      obtain ⟨⟨z0, z1, z2, z3, z4, z5, z6, z7⟩, f0, f1, f2, f3, f4, f5, f6, f7⟩ := box8 hyu
      have hL0 : OwnLines W2 (wq.heap.size + 2) 151 (.slice none 0 0) (g i).l 0 := OwnLines.start _ _ _ _
      have hszw := hb.size
      clear hb1 hx1 hx2 hyu
      go_wp2_with fail
      try rw [hW]
      clear hW p0 p1 p2 p3 p4 p5 p6 p7 x0 x1 x2 x3 x4 x5 x6 x7 y0 y1 y2 y3 y4 y5 y6 y7 z0 z1 z2 z3 z4 z5 z6 z7 f0 f1 f2 f3 f4 f5 f6 f7
      go_loopw [29] (fun s wx => ∃ (j : Nat) (va : Option Addr) (vk vc : Nat), j ≤ (g i).k ∧ s = .int .i64 j ∧ OwnLines wx (wq.heap.size + 2) 151 (.slice va vk vc) (g i).l j ∧ At wx (wq.heap.size + 1) ((g i).arr (.slice va vk vc)) 105 ∧ Below wq.heap.size wq wx ∧ wq.heap.size + 2 ≤ wx.heap.size) (fun s _ => (g i).k - (numOf' s).toNat)
      case atStart => exact ⟨0, none, 0, 0, Nat.zero_le _, rfl, OwnLines.start _ _ _ _, hy.set 7 _, hb2.setCell (p := ⟨wq.heap.size + 1, 7, none⟩) (by simp) _, by simpa using hsz⟩
      case round =>
        clear hL0 hy hb2 hsz
        obtain ⟨j, va, vk, vc, hj, rfl, hL, hy, hb2, hsz⟩ := hrel
        unfold GmD.arr at hy
        obtain ⟨⟨y0, y1, y2, y3, y4, y5, y6, y7⟩, f0, f1, f2, f3, f4, f5, f6, f7⟩ := box8 hy
        by_cases hjk : j < (g i).k
        · obtain ⟨b2, off2, c2, e2, hk2, q0, q1, qc⟩ := (hli.below hb2).at hjk
          simp only [Value.slice.injEq, true_and] at e2
          obtain ⟨rfl, rfl⟩ := e2
          have hc0 := qc 0 (by omega)
          have hc1 := qc 1 (by omega)
          have hc2 := qc 2 (by omega)
          have hc3 := qc 3 (by omega)
          have hc4 := qc 4 (by omega)
          have hc5 := qc 5 (by omega)
          have hc6 := qc 6 (by omega)
          have hc7 := qc 7 (by omega)
          have hc8 := qc 8 (by omega)
          have hc9 := qc 9 (by omega)
          have hc10 := qc 10 (by omega)
          have hc11 := qc 11 (by omega)
          simp only [Nat.reduceAdd] at hc0 hc1 hc2 hc3 hc4 hc5 hc6 hc7 hc8 hc9 hc10 hc11
          have hjj : (j : Int) < ((g i).k : Int) := by omega
          have hb5 : Below wr.heap.size wr (wr.alloc (.cells ((g i).l j).arr 132)) := (Below.refl _ _).alloc (Nat.le_refl _) _
          have hz5 := at_new wr ((g i).l j).arr 132
          obtain ⟨W5, hW5⟩ : ∃ W5, wr.alloc (.cells ((g i).l j).arr 132) = W5 := ⟨_, rfl⟩
          rw [hW5] at hb5 hz5
          have hy5 := hy.below hb5 hy.lt
          have hL5 := hL.below hb5
          have hb25 := hb2.trans (hb5.mono hb2.size)
          have hsz5 := Nat.le_trans hsz hb5.size
          obtain ⟨⟨u0, u1, u2, u3, u4, u5, u6, u7⟩, g0, g1, g2, g3, g4, g5, g6, g7⟩ := box8 hy5
          obtain ⟨z0, z1, z2, z3, z4, z5, z6, z7, z8, z9, z10, z11, z12, z13⟩ := box14 hz5
          unfold LnD.arr at hW5
          clear qc hy hL hb2 hsz hb5 hz5 f0 f1 f2 f3 f4 f5 f6 f7 y0 y1 y2 y3 y4 y5 y6
          go_wp2_with (first
            | (with_reducible refine haltR ?_)
            | fail)
          unfold Halt
          try rw [hW5]
          clear hW5 q0 q1 hc0 hc1 hc2 hc3 hc4 hc5 hc6 hc7 hc8 hc9 hc10 hc11 u0 u1 u2 u3 u4 u5 u6 u7 g0 g1 g2 g3 g4 g5 g6 g7 z0 z1 z2 z3 z4 z5 z6 z7 z8 z9 z10 z11 z12 z13 y7
          have hal := fun o => (Below.refl W5.heap.size W5).alloc (Nat.le_refl _) o
          refine wpList_sliceR (fun w => run_sliceLR w ((g i).l j)) _ rfl _ rfl rfl ?_
          refine wpList_appendR HT.out.2 _ rfl _ _ rfl (wq.heap.size + 2) _ (linesL (g i).l j) _ rfl 1 rfl (hL5.below (hal _)) (by rw [linesL_len]; omega) ((g i).l j).cells (LnD.len _) (LnD.one _) ?hat ?c2 ?_
          case hat => rw [LnD.arr_eq]; exact at_new _ _ _
          case c2 => exact Nat.le_trans hsz5 (hal _).size
          intro a9 k9 c9 w9 hA
          have hL9 := OwnLines.more hA
          have hy9 : At w9 (wq.heap.size + 1) #[.string (bA (g i).nm), .int .i64 (g i).ver, .int .i64 (g i).day, .string (bA (g i).t0), .string (bA (g i).t1), .int .i64 (g i).s0, .int .i64 (g i).s1, .slice va vk vc] 105 := by
            have := hy5.below (hal (.cells ((g i).l j).arr 151)) hy5.lt
            unfold At at this ⊢
            rw [hA.old _ (by omega) (lt_of_block this)]; exact this
          have hb9 := hA.below wq (hb25.trans ((hal _).mono hb25.size)) (by omega)
          have hsz9 := Nat.le_trans hsz5 (Nat.le_trans (hal (.cells ((g i).l j).arr 151)).size hA.size)
          have hL10 : ∀ u, OwnLines (w9.setCell ⟨wq.heap.size + 1, 7, none⟩ u) (wq.heap.size + 2) 151 (.slice a9 k9 c9) (g i).l (j + 1) := fun u => OwnRow.setCell hL9 hy9 (by decide) _ _
          have hy10 := hy9.set 7 (.slice a9 k9 c9)
          have hb10 := fun u => hb9.setCell (p := ⟨wq.heap.size + 1, 7, none⟩) (by simp) u
          have hsz10 : ∀ u, wq.heap.size + 2 ≤ (w9.setCell ⟨wq.heap.size + 1, 7, none⟩ u).heap.size := fun u => by simpa using hsz9
          obtain ⟨⟨y0, y1, y2, y3, y4, y5, y6, y7⟩, f0, f1, f2, f3, f4, f5, f6, f7⟩ := box8 hy9
          clear hA hL9 hy5 hL5 hb25 hsz5 hal hb9 hsz9 hy9
          go_wp2_with fail
          go_roundw
          case rel => exact ⟨j + 1, _, _, _, by omega, by go_num, hL10 _, hy10, hb10 _, hsz10 _⟩
          case measure => simp [numOf'] <;> omega
        · obtain rfl : j = (g i).k := by omega
          obtain ⟨lvs, hG1, hG2⟩ := hl
          have hal := fun o => (Below.refl wr.heap.size wr).alloc (Nat.le_refl _) o
          have hbx := hb.trans (hb2.mono hb.size)
          go_wp2_with (first
            | (with_reducible refine haltR ?_)
            | fail)
          unfold Halt
          refine wpList_sliceR (fun w => run_sliceGR w (g i) va vk vc) _ rfl _ rfl rfl ?_
          refine wpList_appendR HT.out.1 _ rfl _ _ rfl w.heap.size _ (gamesL g lvs i) _ rfl 1 rfl ((hG1.below hb2).below (hal _)) (by rw [gamesL_len]; omega) ((g i).cells (.slice va vk vc)) (GmD.len _ _) (GmD.one _ _ _ _) ?hat ?c2 ?_
          case hat => rw [GmD.arr_eq]; exact at_new _ _ _
          case c2 => exact Nat.le_trans hbx.size (hal _).size
          intro a9 k9 c9 w9 hA
          have hG9 := OwnGames.more (by decide) (fun q hq => ((hG2 q hq).below hb2).below (hal _)) ((hL.mono (by omega)).below (hal _)) hA
          have hb9 := hA.below w (hbx.trans ((hal _).mono hbx.size)) (Nat.le_refl _)
          clear hA hG1 hG2 hL hy hal hb2
          go_wp2_with fail
          go_roundw
          case rel => exact ⟨i + 1, by omega, by go_num, hG9, hb9⟩
          case measure => simp [numOf'] <;> omega
    · obtain rfl : i = n := by omega
      clear hk h
      go_wp2_with fail
      go_ret
      exact ⟨⟨_, rfl, hl⟩, hb⟩
end Go.Proofs.Tryz

namespace Go.Proofs.Tryz
open Go Go.Am Go.RowKit Go.Op
set_option maxRecDepth 100000

/-! ### bytes in order -/
theorem bl_irrefl : ∀ a : List UInt8, bytesLess a a = false
  | [] => rfl
  | x :: a => by simp [bytesLess, bl_irrefl a]
theorem bl_trans : ∀ {a b c : List UInt8}, bytesLess a b = true → bytesLess b c = true → bytesLess a c = true
  | _, [], _, h, _ => by simp [bytesLess] at h
  | _, _ :: _, [], _, h => by simp [bytesLess] at h
  | [], _ :: _, _ :: _, _, _ => rfl
  | x :: a, y :: b, z :: c, h1, h2 => by
    simp only [bytesLess, Bool.or_eq_true, decide_eq_true_eq, Bool.and_eq_true, beq_iff_eq] at *
    rcases h1 with h1 | ⟨rfl, h1⟩
    · rcases h2 with h2 | ⟨rfl, -⟩
      · exact .inl (UInt8.lt_trans h1 h2)
      · exact .inl h1
    · rcases h2 with h2 | ⟨rfl, h2⟩
      · exact .inl h2
      · exact .inr ⟨rfl, bl_trans h1 h2⟩
theorem bl_tri : ∀ {a b : List UInt8}, bytesLess a b = false → bytesLess b a = false → a = b
  | [], [], _, _ => rfl
  | [], _ :: _, h, _ => by simp [bytesLess] at h
  | _ :: _, [], _, h => by simp [bytesLess] at h
  | x :: a, y :: b, h1, h2 => by
    simp only [bytesLess, Bool.or_eq_false_iff, decide_eq_false_iff_not, Bool.and_eq_false_iff] at *
    have e : x = y := by
      apply UInt8.toNat_inj.1
      have := h1.1; have := h2.1
      simp only [UInt8.lt_iff_toNat_lt] at *
      omega
    subst e
    rw [bl_tri (a := a) (b := b) (by rcases h1.2 with h | h; simp at h; exact h) (by rcases h2.2 with h | h; simp at h; exact h)]
theorem bl_asymm {a b : List UInt8} (h : bytesLess a b = true) : bytesLess b a = false := by
  cases h2 : bytesLess b a with
  | false => rfl
  | true => have := bl_trans h h2; rw [bl_irrefl] at this; cases this
/-! ### totals -/
structure Tot where
  p : List UInt8
  gm : Int
  c : Nat → Int
/-- Counts alike from the place i on. -/
def allEq (c d : Nat → Int) : Nat → Nat → Bool
  | _, 0 => true
  | i, n + 1 => (c i == d i) && allEq c d (i + 1) n
/-- A total of nothing. -/
def nzT (t : Tot) : Bool := !((t.gm == 0) && allEq t.c (fun _ => 0) 0 12)
end Go.Proofs.Tryz

namespace Go.Proofs.Tryz
open Go Go.Am Go.RowKit Go.Op
set_option maxRecDepth 100000

def tot0 : Tot := ⟨[], 0, fun _ => 0⟩
theorem take_snoc {α : Type} {l : List α} {i : Nat} {t : α} (h : l[i]? = some t) : l.take (i + 1) = l.take i ++ [t] := by
  rw [List.take_add_one, h]; rfl
end Go.Proofs.Tryz

namespace Go.Proofs.Tryz
open Go Go.Am Go.RowKit Go.Op
set_option maxRecDepth 100000

theorem eqElems_ints (D : Nat) (c d : Nat → Int) : ∀ (n i : Nat) (W : World), i + n = 12 → (eqElems (D + 1) 3 (ints 12 c).toArray (ints 12 d).toArray 1 n i).run prog W = .ok (allEq c d i n) W
  | 0, _, _, _ => rfl
  | n + 1, i, W, h => by
    have hp : ∀ (x : Int) (xs : Array Value) (o : Nat) (w : World), xs[o]? = some (.int .i64 x) → (part 3 xs o).run prog w = .ok (.int .i64 x) w := by
      intro x xs o w h
      simp [part, h]
    have x3 : prog.underlying 3 = some (.int .i64) := by kernel_rfl
    have e1 := hp (c i) (ints 12 c).toArray (i * 1) W (by simpa using ints_get (n := 12) (by omega))
    have e2 := hp (d i) (ints 12 d).toArray (i * 1) W (by simpa using ints_get (n := 12) (by omega))
    simp only [eqElems, Sem.run_bind, e1, e2, Result.andThen_ok, run_equalIn_int _ _ _ _ _ _ _ x3]
    cases hq : (c i == d i) with
    | true => simp only [Bool.not_true, Bool.false_eq_true, if_false, allEq, hq, Bool.true_and]; exact eqElems_ints D c d n (i + 1) W (by omega)
    | false => simp [allEq, hq]
theorem eq_cntsD (D : Nat) (c d : Nat → Int) (W : World) : (Op.equalIn (D + 1 + 1) 54 (.agg (ints 12 c).toArray) (.agg (ints 12 d).toArray)).run prog W = .ok (allEq c d 0 12) W := by
  obtain ⟨i0, hi, hz0, hz1, hz2⟩ := info_more (show (prog.info? 3).map (fun i => (i.zero, i.size, i.bytes)) = some (some (.int .i64 0), 1, 8) by kernel_rfl)
  rw [run_equalIn_arr (D + 1) 54 3 12 i0 _ _ underlying54 hi W, hz1]
  exact eqElems_ints D c d 12 0 W rfl
theorem eq_cnts (c d : Nat → Int) (W : World) : (Op.equalIn 9999 54 (.agg (ints 12 c).toArray) (.agg (ints 12 d).toArray)).run prog W = .ok (allEq c d 0 12) W := eq_cntsD 9997 c d W
theorem allEq_refl (c : Nat → Int) : ∀ (n i : Nat), allEq c c i n = true
  | 0, _ => rfl
  | n + 1, i => by rw [allEq, allEq_refl c n (i + 1)]; simp
end Go.Proofs.Tryz

namespace Go.Proofs.Tryz
open Go Go.Am Go.RowKit Go.Op
set_option maxRecDepth 100000

end Go.Proofs.Tryz

namespace Go.Proofs.Tryz
open Go Go.Am Go.RowKit Go.Op
set_option maxRecDepth 100000

theorem flatR_set {m : Nat} : ∀ {l : List (List Value)} {i j : Nat} {x : List Value} {u : Value}, (∀ y ∈ l, y.length = m) → l[i]? = some x → j < m → flatR (l.set i (x.set j u)) = (flatR l).set (i * m + j) u
  | [], _, _, _, _, _, h, _ => by simp at h
  | y :: l, 0, j, x, u, hm, h, hj => by
    simp only [List.getElem?_cons_zero, Option.some.injEq] at h
    subst h
    have hy := hm y (by simp)
    rw [List.set_cons_zero, Nat.zero_mul, Nat.zero_add]
    show (y.set j u ++ l.flatten) = (y ++ l.flatten).set j u
    rw [List.set_append_left _ _ (by omega)]
  | y :: l, i + 1, j, x, u, hm, h, hj => by
    simp only [List.getElem?_cons_succ] at h
    have ih := flatR_set (u := u) (fun z hz => hm z (by simp [hz])) h hj
    have hy := hm y (by simp)
    rw [List.set_cons_succ]
    show y ++ (l.set i (x.set j u)).flatten = (y ++ l.flatten).set ((i + 1) * m + j) u
    have e : (i + 1) * m + j = y.length + (i * m + j) := by rw [hy, Nat.add_mul]; omega
    rw [e, List.set_append_right _ _ (by omega), Nat.add_sub_cancel_left]
    exact congrArg _ ih
theorem OwnRow.own {w : World} {base e m : Nat} {v : Value} {l : List (List Value)} (h : OwnRow w base e m v l) {i : Nat} (hi : i < l.length) : ∃ g cap, v = .slice (some ⟨g, 0, none⟩) l.length cap ∧ base ≤ g ∧ l.length ≤ cap := by
  rcases h.1.2 with ⟨rfl, h0⟩ | ⟨g, cap, cur, rfl, h1, h2, h3, h4⟩
  · omega
  · exact ⟨g, cap, rfl, h1, h3⟩
theorem OwnRow.cell {w : World} {base e m g n cap : Nat} {l : List (List Value)} (h : OwnRow w base e m (.slice (some ⟨g, 0, none⟩) n cap) l) {i j : Nat} {x : List Value} {u : Value} (hx : l[i]? = some x) (hu : x[j]? = some u) : w.cell? ⟨g, i * m + j, none⟩ = some u ∧ w.frozen? ⟨g, i * m + j, none⟩ = false := by
  rcases h.1.2 with ⟨e0, h0⟩ | ⟨g', cap', cur, e0, h1, h2, h3, h4, h5, h6⟩
  · cases e0
  · simp only [Value.slice.injEq, Option.some.injEq, Addr.mk.injEq, and_true] at e0
    obtain ⟨rfl, rfl, rfl⟩ := e0
    have hq := flatR_get h.2 hx hu
    have hlt := (List.getElem?_eq_some_iff.1 hq).1
    have hc := h.1.cellAt (i * m + j) (by rw [← h.1.1]; exact hlt)
    refine ⟨hc.trans hq, ?_⟩
    unfold World.frozen?
    rw [h2]
    simp
theorem OwnRow.write {w : World} {base e m g n cap : Nat} {l : List (List Value)} (h : OwnRow w base e m (.slice (some ⟨g, 0, none⟩) n cap) l) {i j : Nat} {x : List Value} (hx : l[i]? = some x) (hj : j < m) (u : Value) : OwnRow (w.setCell ⟨g, i * m + j, none⟩ u) base e m (.slice (some ⟨g, 0, none⟩) n cap) (l.set i (x.set j u)) := by
  have hm := h.2
  have hxm : x.length = m := hm x (List.mem_of_getElem? hx)
  rcases h.1.2 with ⟨e0, h0⟩ | ⟨g', cap', cur, e0, h1, h2, h3, h4, h5, h6⟩
  · cases e0
  · simp only [Value.slice.injEq, Option.some.injEq, Addr.mk.injEq, and_true] at e0
    obtain ⟨rfl, rfl, rfl⟩ := e0
    refine ⟨⟨?_, .inr ⟨g, cap, cur.setIfInBounds (i * m + j) u, by rw [List.length_set], h1, ?_, by rw [List.length_set]; exact h3, h4, by simpa using h5, ?_⟩⟩, fun y hy => ?_⟩
    · rw [flatR_set hm hx hj, List.length_set, List.length_set]; exact h.1.1
    · simp only [World.setCell, Array.getElem?_modify, h2]
      simp
    · rw [flatR_set hm hx hj, ← h6, Array.toList_setIfInBounds, List.length_set, List.take_set]
    · rcases List.mem_or_eq_of_mem_set hy with hy | rfl
      · exact hm y hy
      · rw [List.length_set]; exact hxm
/-- Cells written one behind the other. -/
def setN (w : World) (b : Nat) : Nat → List Value → World
  | _, [] => w
  | o, v :: r => setN (w.setCell ⟨b, o, none⟩ v) b (o + 1) r
def splice (x : List Value) : Nat → List Value → List Value
  | _, [] => x
  | j, v :: r => splice (x.set j v) (j + 1) r
theorem OwnRow.writes {base e m g n cap i : Nat} : ∀ {vs : List Value} {w : World} {l : List (List Value)} {x : List Value} {j : Nat}, OwnRow w base e m (.slice (some ⟨g, 0, none⟩) n cap) l → l[i]? = some x → j + vs.length ≤ m →
    OwnRow (setN w g (i * m + j) vs) base e m (.slice (some ⟨g, 0, none⟩) n cap) (l.set i (splice x j vs))
  | [], w, l, x, j, h, hx, _ => by
    have hi := (List.getElem?_eq_some_iff.1 hx).1
    have e : l.set i x = l := by
      apply List.ext_getElem?
      intro k
      by_cases hk : k = i
      · subst hk; rw [List.getElem?_set_self hi, hx]
      · rw [List.getElem?_set_ne (fun q => hk q.symm)]
    unfold splice setN
    rw [e]; exact h
  | v :: r, w, l, x, j, h, hx, hj => by
    simp only [List.length_cons] at hj
    have h2 := h.write hx (j := j) (by omega) v
    have hi := (List.getElem?_eq_some_iff.1 hx).1
    have h3 := OwnRow.writes (vs := r) (j := j + 1) h2 (x := x.set j v) (by rw [List.getElem?_set_self hi]) (by omega)
    unfold splice setN
    rw [List.set_set] at h3
    exact h3
theorem Below.setN {B : Nat} {w0 : World} {b : Nat} (hb : B ≤ b) : ∀ {vs : List Value} {w : World} {o : Nat}, Below B w0 w → Below B w0 (Go.Proofs.Tryz.setN w b o vs)
  | [], _, _, h => h
  | _ :: r, _, _, h => Below.setN hb (vs := r) (h.setCell hb _)
end Go.Proofs.Tryz

namespace Go.Proofs.Tryz
open Go Go.Am Go.RowKit Go.Op
set_option maxRecDepth 100000

/-- What lay below base stays. -/
def Keeps (base : Nat) (w w' : World) : Prop := ∀ w0 : World, Below w0.heap.size w0 w → w0.heap.size ≤ base → Below w0.heap.size w0 w'
theorem Keeps.refl (base : Nat) (w : World) : Keeps base w w := fun _ h _ => h
theorem Keeps.trans {base : Nat} {w w' w'' : World} (h : Keeps base w w') (k : Keeps base w' w'') : Keeps base w w'' := fun w0 h0 hb => k w0 (h w0 h0 hb) hb
theorem keeps_setN {base g : Nat} (hg : base ≤ g) {vs : List Value} {w : World} {o : Nat} : Keeps base w (setN w g o vs) := fun _ h0 hb => Below.setN (Nat.le_trans hb hg) h0

theorem castW {P : World → Prop} {w w' : World} (e : w = w') (h : P w') : P w := e ▸ h
theorem swap_sets {α : Type} (a b a' b' : α) (D : List α) : ∀ A : List α, ((A ++ a :: b :: D).set (A.length + 1) a').set A.length b' = A ++ b' :: a' :: D
  | [] => rfl
  | z :: A => by
    simp only [List.cons_append, List.length_cons, List.set_cons_succ]
    exact congrArg _ (swap_sets a b a' b' D A)
theorem swap_list {α : Type} {L : List α} {q : Nat} {x N : α} (hx : L[q]? = some x) : ((L.take (q + 1) ++ N :: L.drop (q + 1)).set (q + 1) x).set q N = L.take q ++ N :: L.drop q := by
  have hq := (List.getElem?_eq_some_iff.1 hx).1
  have e1 := take_snoc hx
  have e2 : L.drop q = x :: L.drop (q + 1) := by
    rw [List.drop_eq_getElem_cons hq, (List.getElem?_eq_some_iff.1 hx).2]
  have e3 : (L.take q).length = q := by rw [List.length_take]; omega
  have := swap_sets x N x N (L.drop (q + 1)) (L.take q)
  rw [e3] at this
  rw [e1, e2, List.append_assoc]
  exact this
theorem mid_get {α : Type} {L : List α} {q : Nat} {N : α} (hq : q ≤ L.length) : (L.take q ++ N :: L.drop q)[q]? = some N := by
  have e3 : (L.take q).length = q := by rw [List.length_take]; omega
  rw [List.getElem?_append_right (by omega), e3, Nat.sub_self]
  rfl
theorem mid_low {α : Type} {L : List α} {q : Nat} {N x : α} (hx : L[q]? = some x) : (L.take (q + 1) ++ N :: L.drop (q + 1))[q]? = some x := by
  have hq := (List.getElem?_eq_some_iff.1 hx).1
  have e3 : (L.take (q + 1)).length = q + 1 := by rw [List.length_take]; omega
  rw [List.getElem?_append_left (by omega), List.getElem?_take, if_pos (by omega), hx]
theorem app_step {o : Oper} {ops : Array Oper} {a : Act} {w w' : World} {v' : Value} {K : Act → World → Prop} {Q : Exit → Act → World → Prop} (hw : Region.wanted o (yielded ops a.tmps) = true) (hr : (execOp a.eval o).run prog w = .ok (.value v') w') (h : K (a.put o.dst v') w') :
    if Region.wanted o (yielded ops a.tmps) = true then o.wp prog a w K Q else K (a.put o.dst undef) w := by
  rw [if_pos hw]
  unfold Oper.wp
  rw [hr]
  exact h
theorem app_run {o : Oper} {a : Act} {s x : Operand} {t ty : TypeId} {v y v' : Value} {w w' : World} (ho : o.op = .call { callee := .builtin .append, args := #[s, x], argTypes := #[t, t] }) (hty : o.type = ty) (hs : a.eval s = v) (hx : a.eval x = y)
    (hr : (Builtin.append_ #[t, t] ty #[v, y]).run prog w = .ok v' w') : (execOp a.eval o).run prog w = .ok (.value v') w' := by
  unfold execOp
  simp only [ho, hty, resolve, invoke, builtin, Sem.run_bind, Sem.run_pure, Result.andThen_ok, List.map_toArray, List.map_cons, List.map_nil, hs, hx, hr]
end Go.Proofs.Tryz

namespace Go.Proofs.Tryz
open Go Go.Am Go.RowKit Go.Op
set_option maxRecDepth 100000

end Go.Proofs.Tryz

namespace Go.Proofs.Tryz
open Go Go.Am Go.RowKit Go.Op
set_option maxRecDepth 100000

end Go.Proofs.Tryz
