/- Plain: sums over standings, and standings of exchanged scores. Games of the reference as ones of the season, and told the other way round: by the kit's walk. Totals in rows; totals of the season as ones of the reference, and back: by the kit's walk. -/
import Derived.Test.YtbfonnoebbjenaaGreatDoorAxPa
import Derived.Test.YtbfonnoebbjenaaGreatDoorAxL
namespace Go.Proofs.Tryz
open Go Go.Am Go.RowKit Go.Op
set_option maxRecDepth 100000

def sumS (f : Std → Int) : List Std → Int
  | [] => 0
  | x :: r => f x + sumS f r
theorem sumS_snoc (f : Std → Int) (L : List Std) (x : Std) : sumS f (L ++ [x]) = sumS f L + f x := by
  induction L with
  | nil => simp [sumS]
  | cons y r ih => show f y + sumS f (r ++ [x]) = f y + sumS f r + f x; rw [ih]; omega
theorem sumS_perm (f : Std → Int) {L M : List Std} (h : L.Perm M) : sumS f L = sumS f M := by
  induction h with
  | nil => rfl
  | cons x _ ih => show f x + _ = f x + _; rw [ih]
  | swap x y l => show f y + (f x + sumS f l) = f x + (f y + sumS f l); omega
  | trans _ _ ih1 ih2 => exact ih1.trans ih2
theorem sumS_bump {f : Std → Int} {p : List UInt8} {o h c : Int} (hz : f (zeroS p) = 0) (ha : ∀ s, f (addS s o h) = f s + c) : ∀ L : List Std, sumS f (bump p o h L) = sumS f L + c
  | [] => by show f (addS (zeroS p) o h) + 0 = 0 + c; rw [ha, hz]; omega
  | x :: r => by
    unfold bump
    split
    · show f (addS x o h) + sumS f r = f x + sumS f r + c; rw [ha]; omega
    · show f x + sumS f (bump p o h r) = f x + sumS f r + c; rw [sumS_bump hz ha r]; omega
def gmsS (s : Std) : Int := s.w + s.l + s.d
def wnsS (s : Std) : Int := s.w - s.l
def rnsS (s : Std) : Int := s.f - s.a
def sgnS (o h : Int) : Int := if h < o then 1 else if o < h then -1 else 0
theorem gmsS_add (s : Std) (o h : Int) : gmsS (addS s o h) = gmsS s + 1 := by
  unfold gmsS addS
  simp only
  (repeat' split) <;> omega
theorem wnsS_add (s : Std) (o h : Int) : wnsS (addS s o h) = wnsS s + sgnS o h := by
  unfold wnsS addS sgnS
  simp only
  (repeat' split) <;> omega
theorem rnsS_add (s : Std) (o h : Int) : rnsS (addS s o h) = rnsS s + (o - h) := by
  unfold rnsS addS
  simp only
  omega
theorem sgnS_anti (o h : Int) : sgnS o h + sgnS h o = 0 := by
  unfold sgnS
  (repeat' split) <;> omega
theorem sum_games (g : Nat → GmD) : ∀ n, sumS gmsS (stdsK g n) = 2 * n
  | 0 => rfl
  | n + 1 => by
    show sumS gmsS (bump _ _ _ (bump _ _ _ (stdsK g n))) = _
    rw [sumS_bump (c := 1) rfl (fun s => gmsS_add s _ _), sumS_bump (c := 1) rfl (fun s => gmsS_add s _ _), sum_games g n]; omega
theorem sum_wins (g : Nat → GmD) : ∀ n, sumS wnsS (stdsK g n) = 0
  | 0 => rfl
  | n + 1 => by
    show sumS wnsS (bump _ _ _ (bump _ _ _ (stdsK g n))) = _
    rw [sumS_bump rfl (fun s => wnsS_add s _ _), sumS_bump rfl (fun s => wnsS_add s _ _), sum_wins g n]
    have := sgnS_anti (g n).s0 (g n).s1
    omega
theorem sum_runs (g : Nat → GmD) : ∀ n, sumS rnsS (stdsK g n) = 0
  | 0 => rfl
  | n + 1 => by
    show sumS rnsS (bump _ _ _ (bump _ _ _ (stdsK g n))) = _
    rw [sumS_bump rfl (fun s => rnsS_add s _ _), sumS_bump rfl (fun s => rnsS_add s _ _), sum_runs g n]
    omega
/-- A game with its scores exchanged. -/
def turnG (g : GmD) : GmD := ⟨g.nm, g.ver, g.day, g.t0, g.t1, g.s1, g.s0, g.l, g.k⟩
def swapS (s : Std) : Std := ⟨s.t, s.l, s.w, s.d, s.a, s.f⟩
theorem swap_add (s : Std) (o h : Int) : addS (swapS s) h o = swapS (addS s o h) := by
  unfold addS swapS
  simp only [Std.mk.injEq, true_and]
  refine ⟨?_, by trivial⟩
  (repeat' split) <;> omega
theorem swap_bump (p : List UInt8) (o h : Int) : ∀ L : List Std, bump p h o (L.map swapS) = (bump p o h L).map swapS
  | [] => by
    show [addS (zeroS p) h o] = [swapS (addS (zeroS p) o h)]
    rw [← swap_add]; rfl
  | x :: r => by
    show bump p h o (swapS x :: r.map swapS) = _
    unfold bump
    by_cases e : x.t = p
    · rw [if_pos e, if_pos (show (swapS x).t = p from e), swap_add]; rfl
    · rw [if_neg e, if_neg (show ¬ (swapS x).t = p from e), swap_bump p o h r]; rfl
theorem stds_turn (g : Nat → GmD) : ∀ n, stdsK (fun i => turnG (g i)) n = (stdsK g n).map swapS
  | 0 => rfl
  | n + 1 => by
    show bump (g n).t1 (g n).s0 (g n).s1 (bump (g n).t0 (g n).s1 (g n).s0 (stdsK (fun i => turnG (g i)) n)) = _
    rw [stds_turn g n, swap_bump, swap_bump]; rfl
theorem bump_le {p : List UInt8} {o h : Int} {s : Std} : ∀ {L : List Std}, s ∈ L → ∃ x ∈ bump p o h L, x.t = s.t
  | [], hs => absurd hs List.not_mem_nil
  | x :: r, hs => by
    unfold bump
    split
    · rcases List.mem_cons.1 hs with q | q
      · subst q; exact ⟨_, List.mem_cons_self, rfl⟩
      · exact ⟨s, List.mem_cons_of_mem _ q, rfl⟩
    · rcases List.mem_cons.1 hs with q | q
      · subst q; exact ⟨_, List.mem_cons_self, rfl⟩
      · obtain ⟨y, h1, h2⟩ := bump_le q
        exact ⟨y, List.mem_cons_of_mem _ h1, h2⟩
/-- The teams are those of the games. -/
theorem stds_team {g : Nat → GmD} {P : List UInt8 → Prop} : ∀ {n : Nat}, (∀ i, i < n → P (g i).t0 ∧ P (g i).t1) → ∀ s ∈ stdsK g n, P s.t
  | 0, _, _, hs => absurd hs List.not_mem_nil
  | n + 1, h, s, hs => by
    rcases bump_name hs with q | q
    · rw [q]; exact (h n (by omega)).2
    · rcases bump_name q with q | q
      · rw [q]; exact (h n (by omega)).1
      · exact stds_team (fun i hi => h i (by omega)) s q
end Go.Proofs.Tryz

namespace Go.Proofs.Tryz
open Go Go.Am Go.RowKit Go.Op
set_option maxRecDepth 100000

theorem LnD.arr_eq (x : LnD) : x.cells.toArray = x.arr := by rw [← LnD.arr_cells, Array.toArray_toList]
theorem GmD.arr_eq (g : GmD) (lv : Value) : (g.cells lv).toArray = g.arr lv := rfl
theorem LnD.one (x : LnD) : ∀ u ∈ x.cells, u.oneCell' = true := fun u hu => by
  simp only [LnD.cells, ints, List.mem_cons, List.mem_map] at hu
  rcases hu with rfl | rfl | ⟨_, _, rfl⟩ <;> rfl
theorem GmD.one (g : GmD) (a : Option Addr) (k c : Nat) : ∀ u ∈ g.cells (.slice a k c), u.oneCell' = true := fun u hu => by
  simp only [GmD.cells, List.mem_cons, List.not_mem_nil, or_false] at hu
  rcases hu with rfl | rfl | rfl | rfl | rfl | rfl | rfl | rfl <;> rfl
theorem OwnRow.setCell {w : World} {base e m : Nat} {v : Value} {l : List (List Value)} (h : OwnRow w base e m v l) {b e' : Nat} {cs : Array Value} (ha : At w b cs e') (hne : e ≠ e') (i : Nat) (u : Value) : OwnRow (w.setCell ⟨b, i, none⟩ u) base e m v l := by
  refine ⟨h.1.kept (row := some b) ⟨rfl, rfl, rfl, by simp, fun k _ hk => Below.heap_setCell _ _ _ _ (fun e => hk (by rw [e]))⟩ ?_, h.2⟩
  cases hb : v.ownBlock with
  | none => exact .inl rfl
  | some q =>
    refine .inr fun e3 => ?_
    obtain ⟨c, fz, hc⟩ := Lib.ownsRow_kind h.1 q hb
    simp only [Option.some.injEq] at e3
    subst e3
    unfold At at ha
    rw [ha] at hc
    simp only [Option.some.injEq, Obj.cells.injEq] at hc
    exact hne hc.2.1.symm
theorem run_sliceL (w : World) (x : LnD) : (Instr.buildSlice 108 1 #[(0, .agg x.arr)]).run prog w = .ok (.slice (some ⟨w.heap.size, 0, none⟩) 1 1) (w.alloc (.cells x.arr 132)) := by unfold LnD.arr; simp [go_sem]
theorem run_sliceG (w : World) (g : GmD) (a : Option Addr) (k c : Nat) : (Instr.buildSlice 29 1 #[(0, .agg (g.arr (.slice a k c)))]).run prog w = .ok (.slice (some ⟨w.heap.size, 0, none⟩) 1 1) (w.alloc (.cells (g.arr (.slice a k c)) 110)) := by unfold GmD.arr; simp [go_sem]
theorem run_sliceGR (w : World) (g : GmD) (a : Option Addr) (k c : Nat) : (Instr.buildSlice 22 1 #[(0, .agg (g.arr (.slice a k c)))]).run prog w = .ok (.slice (some ⟨w.heap.size, 0, none⟩) 1 1) (w.alloc (.cells (g.arr (.slice a k c)) 105)) := by unfold GmD.arr; simp [go_sem]

set_option maxHeartbeats 3200000 in
theorem own_w {g : Nat → GmD} {n : Nat} {v : Value} {w : World} (h : IsGames w v g n) (hn : n ≤ 1000) (hk : ∀ i, i < n → (g i).k ≤ 1000) :
    Calls prog 20 #[v] w fun e w' => (∃ u, e = .returned u ∧ OwnGames w' w.heap.size 110 132 u g n) ∧ Below w.heap.size w w' := by
  obtain ⟨iG, TG⟩ := elG
  obtain ⟨iL, TL⟩ := elL
  have HT := Lib.hid (And.intro TG TL)
  clear TG TL
  have h0 := h
  obtain ⟨lv0, hr, -⟩ := h0
  obtain ⟨ad, c, rfl, hnc⟩ := hr.slice
  have hs0 : OwnGames w w.heap.size 110 132 (.slice none 0 0) g 0 := OwnGames.start _ _ _ _ _
  clear hr
  go_enter func20, ntmps20
  go_wp2_with fail
  go_loopw [3, 11] (fun t s wr => ∃ i : Nat, i ≤ n ∧ s = .int .i64 i ∧ OwnGames wr w.heap.size 110 132 t g i ∧ Below w.heap.size w wr) (fun _ s _ => n - (numOf' s).toNat)
  case atStart => exact ⟨0, Nat.zero_le _, rfl, hs0, Below.refl _ _⟩
  case round =>
    clear hs0
    obtain ⟨i, hi, rfl, hl, hb⟩ := hrel
    obtain ⟨wq, rfl⟩ : ∃ W : World, W = wr := ⟨_, rfl⟩
    by_cases hin : i < n
    · obtain ⟨b, off, c1, a1, kc, e, -, hli, p0, p1, p2, p3, p4, p5, p6, p7⟩ := (h.below hb).at hin
      simp only [Value.slice.injEq, true_and] at e
      obtain ⟨rfl, rfl⟩ := e
      have hii : (i : Int) < (n : Int) := by omega
      have hki := hk i hin
      have hb1 : Below wq.heap.size wq (wq.alloc (.cells ((g i).arr (.slice a1 (g i).k kc)) 105)) := (Below.refl _ _).alloc (Nat.le_refl _) _
      have hb2 : Below wq.heap.size wq ((wq.alloc (.cells ((g i).arr (.slice a1 (g i).k kc)) 105)).alloc (.cells ((g i).arr (.slice none 0 0)) 110)) := hb1.alloc hb1.size _
      have hx1 := at_new wq ((g i).arr (.slice a1 (g i).k kc)) 105
      have hx2 := hx1.alloc (.cells ((g i).arr (.slice none 0 0)) 110)
      have hy : At ((wq.alloc (.cells ((g i).arr (.slice a1 (g i).k kc)) 105)).alloc (.cells ((g i).arr (.slice none 0 0)) 110)) (wq.heap.size + 1) ((g i).arr (.slice none 0 0)) 110 := by
        have := at_new (wq.alloc (.cells ((g i).arr (.slice a1 (g i).k kc)) 105)) ((g i).arr (.slice none 0 0)) 110
        simpa using this
      have hsz : wq.heap.size + 2 ≤ ((wq.alloc (.cells ((g i).arr (.slice a1 (g i).k kc)) 105)).alloc (.cells ((g i).arr (.slice none 0 0)) 110)).heap.size := by simp
      unfold GmD.arr at hx1 hx2
      obtain ⟨⟨x0, x1, x2, x3, x4, x5, x6, x7⟩, -⟩ := box8 hx1
      obtain ⟨⟨y0, y1, y2, y3, y4, y5, y6, y7⟩, -⟩ := box8 hx2
      obtain ⟨W2, hW⟩ : ∃ W2, (wq.alloc (.cells ((g i).arr (.slice a1 (g i).k kc)) 105)).alloc (.cells ((g i).arr (.slice none 0 0)) 110) = W2 := ⟨_, rfl⟩
      rw [hW] at hb2 hy hsz
      unfold GmD.arr at hW
      rw [hW] at y0 y1 y2 y3 y4 y5 y6 y7
      have hyu := hy
      unfold GmD.arr at hyu
      obtain ⟨⟨z0, z1, z2, z3, z4, z5, z6, z7⟩, f0, f1, f2, f3, f4, f5, f6, f7⟩ := box8 hyu
      have hL0 : OwnLines W2 (wq.heap.size + 2) 132 (.slice none 0 0) (g i).l 0 := OwnLines.start _ _ _ _
      have hszw := hb.size
      clear hb1 hx1 hx2 hyu
      go_wp2_with fail
      try rw [hW]
      clear hW p0 p1 p2 p3 p4 p5 p6 p7 x0 x1 x2 x3 x4 x5 x6 x7 y0 y1 y2 y3 y4 y5 y6 y7 z0 z1 z2 z3 z4 z5 z6 z7 f0 f1 f2 f3 f4 f5 f6 f7
      go_loopw [29] (fun s wx => ∃ (j : Nat) (va : Option Addr) (vk vc : Nat), j ≤ (g i).k ∧ s = .int .i64 j ∧ OwnLines wx (wq.heap.size + 2) 132 (.slice va vk vc) (g i).l j ∧ At wx (wq.heap.size + 1) ((g i).arr (.slice va vk vc)) 110 ∧ Below wq.heap.size wq wx ∧ wq.heap.size + 2 ≤ wx.heap.size) (fun s _ => (g i).k - (numOf' s).toNat)
      case atStart => exact ⟨0, none, 0, 0, Nat.zero_le _, rfl, OwnLines.start _ _ _ _, hy.set 7 _, hb2.setCell (p := ⟨wq.heap.size + 1, 7, none⟩) (by simp) _, by simpa using hsz⟩
      case round =>
        clear hL0 hy hb2 hsz
        obtain ⟨j, va, vk, vc, hj, rfl, hL, hy, hb2, hsz⟩ := hrel
        unfold GmD.arr at hy
        obtain ⟨⟨y0, y1, y2, y3, y4, y5, y6, y7⟩, f0, f1, f2, f3, f4, f5, f6, f7⟩ := box8 hy
        by_cases hjk : j < (g i).k
        · obtain ⟨b2, off2, c2, e2, hk2, q0, q1, qc⟩ := (hli.below hb2).at hjk
          simp only [Value.slice.injEq, true_and] at e2
          obtain ⟨rfl, rfl⟩ := e2
          have hc0 := qc 0 (by omega)
          have hc1 := qc 1 (by omega)
          have hc2 := qc 2 (by omega)
          have hc3 := qc 3 (by omega)
          have hc4 := qc 4 (by omega)
          have hc5 := qc 5 (by omega)
          have hc6 := qc 6 (by omega)
          have hc7 := qc 7 (by omega)
          have hc8 := qc 8 (by omega)
          have hc9 := qc 9 (by omega)
          have hc10 := qc 10 (by omega)
          have hc11 := qc 11 (by omega)
          simp only [Nat.reduceAdd] at hc0 hc1 hc2 hc3 hc4 hc5 hc6 hc7 hc8 hc9 hc10 hc11
          have hjj : (j : Int) < ((g i).k : Int) := by omega
          have hb5 : Below wr.heap.size wr (wr.alloc (.cells ((g i).l j).arr 151)) := (Below.refl _ _).alloc (Nat.le_refl _) _
          have hz5 := at_new wr ((g i).l j).arr 151
          obtain ⟨W5, hW5⟩ : ∃ W5, wr.alloc (.cells ((g i).l j).arr 151) = W5 := ⟨_, rfl⟩
          rw [hW5] at hb5 hz5
          have hy5 := hy.below hb5 hy.lt
          have hL5 := hL.below hb5
          have hb25 := hb2.trans (hb5.mono hb2.size)
          have hsz5 := Nat.le_trans hsz hb5.size
          obtain ⟨⟨u0, u1, u2, u3, u4, u5, u6, u7⟩, g0, g1, g2, g3, g4, g5, g6, g7⟩ := box8 hy5
          obtain ⟨z0, z1, z2, z3, z4, z5, z6, z7, z8, z9, z10, z11, z12, z13⟩ := box14 hz5
          unfold LnD.arr at hW5
          clear qc hy hL hb2 hsz hb5 hz5 f0 f1 f2 f3 f4 f5 f6 f7 y0 y1 y2 y3 y4 y5 y6
          go_wp2_with (first
            | (with_reducible refine haltR ?_)
            | fail)
          unfold Halt
          try rw [hW5]
          clear hW5 q0 q1 hc0 hc1 hc2 hc3 hc4 hc5 hc6 hc7 hc8 hc9 hc10 hc11 u0 u1 u2 u3 u4 u5 u6 u7 g0 g1 g2 g3 g4 g5 g6 g7 z0 z1 z2 z3 z4 z5 z6 z7 z8 z9 z10 z11 z12 z13 y7
          have hal := fun o => (Below.refl W5.heap.size W5).alloc (Nat.le_refl _) o
          refine wpList_sliceR (fun w => run_sliceL w ((g i).l j)) _ rfl _ rfl rfl ?_
          refine wpList_appendR HT.out.2 _ rfl _ _ rfl (wq.heap.size + 2) _ (linesL (g i).l j) _ rfl 1 rfl (hL5.below (hal _)) (by rw [linesL_len]; omega) ((g i).l j).cells (LnD.len _) (LnD.one _) ?hat ?c2 ?_
          case hat => rw [LnD.arr_eq]; exact at_new _ _ _
          case c2 => exact Nat.le_trans hsz5 (hal _).size
          intro a9 k9 c9 w9 hA
          have hL9 := OwnLines.more hA
          have hy9 : At w9 (wq.heap.size + 1) #[.string (bA (g i).nm), .int .i64 (g i).ver, .int .i64 (g i).day, .string (bA (g i).t0), .string (bA (g i).t1), .int .i64 (g i).s0, .int .i64 (g i).s1, .slice va vk vc] 110 := by
            have := hy5.below (hal (.cells ((g i).l j).arr 132)) hy5.lt
            unfold At at this ⊢
            rw [hA.old _ (by omega) (lt_of_block this)]; exact this
          have hb9 := hA.below wq (hb25.trans ((hal _).mono hb25.size)) (by omega)
          have hsz9 := Nat.le_trans hsz5 (Nat.le_trans (hal (.cells ((g i).l j).arr 132)).size hA.size)
          have hL10 : ∀ u, OwnLines (w9.setCell ⟨wq.heap.size + 1, 7, none⟩ u) (wq.heap.size + 2) 132 (.slice a9 k9 c9) (g i).l (j + 1) := fun u => OwnRow.setCell hL9 hy9 (by decide) _ _
          have hy10 := hy9.set 7 (.slice a9 k9 c9)
          have hb10 := fun u => hb9.setCell (p := ⟨wq.heap.size + 1, 7, none⟩) (by simp) u
          have hsz10 : ∀ u, wq.heap.size + 2 ≤ (w9.setCell ⟨wq.heap.size + 1, 7, none⟩ u).heap.size := fun u => by simpa using hsz9
          obtain ⟨⟨y0, y1, y2, y3, y4, y5, y6, y7⟩, f0, f1, f2, f3, f4, f5, f6, f7⟩ := box8 hy9
          clear hA hL9 hy5 hL5 hb25 hsz5 hal hb9 hsz9 hy9
          go_wp2_with fail
          go_roundw
          case rel => exact ⟨j + 1, _, _, _, by omega, by go_num, hL10 _, hy10, hb10 _, hsz10 _⟩
          case measure => simp [numOf'] <;> omega
        · obtain rfl : j = (g i).k := by omega
          obtain ⟨lvs, hG1, hG2⟩ := hl
          have hal := fun o => (Below.refl wr.heap.size wr).alloc (Nat.le_refl _) o
          have hbx := hb.trans (hb2.mono hb.size)
          go_wp2_with (first
            | (with_reducible refine haltR ?_)
            | fail)
          unfold Halt
          refine wpList_sliceR (fun w => run_sliceG w (g i) va vk vc) _ rfl _ rfl rfl ?_
          refine wpList_appendR HT.out.1 _ rfl _ _ rfl w.heap.size _ (gamesL g lvs i) _ rfl 1 rfl ((hG1.below hb2).below (hal _)) (by rw [gamesL_len]; omega) ((g i).cells (.slice va vk vc)) (GmD.len _ _) (GmD.one _ _ _ _) ?hat ?c2 ?_
          case hat => rw [GmD.arr_eq]; exact at_new _ _ _
          case c2 => exact Nat.le_trans hbx.size (hal _).size
          intro a9 k9 c9 w9 hA
          have hG9 := OwnGames.more (by decide) (fun q hq => ((hG2 q hq).below hb2).below (hal _)) ((hL.mono (by omega)).below (hal _)) hA
          have hb9 := hA.below w (hbx.trans ((hal _).mono hbx.size)) (Nat.le_refl _)
          clear hA hG1 hG2 hL hy hal hb2
          go_wp2_with fail
          go_roundw
          case rel => exact ⟨i + 1, by omega, by go_num, hG9, hb9⟩
          case measure => simp [numOf'] <;> omega
    · obtain rfl : i = n := by omega
      clear hk h
      go_wp2_with fail
      go_ret
      exact ⟨⟨_, rfl, hl⟩, hb⟩
end Go.Proofs.Tryz

namespace Go.Proofs.Tryz
open Go Go.Am Go.RowKit Go.Op
set_option maxRecDepth 100000

theorem take_snoc {α : Type} {l : List α} {i : Nat} {t : α} (h : l[i]? = some t) : l.take (i + 1) = l.take i ++ [t] := by
  rw [List.take_add_one, h]; rfl
end Go.Proofs.Tryz
