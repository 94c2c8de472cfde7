/- Plain: sums over standings, and standings of exchanged scores. Games of the reference as ones of the season, and told the other way round: by the kit's walk. Totals in rows; totals of the season as ones of the reference, and back: by the kit's walk. A region that draws its order: what is quiet in a class of worlds goes by one walk in the text's order, up to a place; what stands behind that place is walked on. -/
import Derived.Test.YtbfonnoebbjenaaGreatDoorAxPa
import Derived.Test.YtbfonnoebbjenaaGreatDoorAxG
import Derived.Deep.Quiet
import Derived.OrdersHeld
namespace Go.Proofs.Tryz
open Go Go.Am Go.RowKit Go.Op
set_option maxRecDepth 100000

theorem bump_le {p : List UInt8} {o h : Int} {s : Std} : ∀ {L : List Std}, s ∈ L → ∃ x ∈ bump p o h L, x.t = s.t
  | [], hs => absurd hs List.not_mem_nil
  | x :: r, hs => by
    unfold bump
    split
    · rcases List.mem_cons.1 hs with q | q
      · subst q; exact ⟨_, List.mem_cons_self, rfl⟩
      · exact ⟨s, List.mem_cons_of_mem _ q, rfl⟩
    · rcases List.mem_cons.1 hs with q | q
      · subst q; exact ⟨_, List.mem_cons_self, rfl⟩
      · obtain ⟨y, h1, h2⟩ := bump_le q
        exact ⟨y, List.mem_cons_of_mem _ h1, h2⟩
end Go.Proofs.Tryz

namespace Go.Proofs.Tryz
open Go Go.Am Go.RowKit Go.Op
set_option maxRecDepth 100000

theorem LnD.arr_eq (x : LnD) : x.cells.toArray = x.arr := by rw [← LnD.arr_cells, Array.toArray_toList]
theorem GmD.arr_eq (g : GmD) (lv : Value) : (g.cells lv).toArray = g.arr lv := rfl
theorem LnD.one (x : LnD) : ∀ u ∈ x.cells, u.oneCell' = true := fun u hu => by
  simp only [LnD.cells, ints, List.mem_cons, List.mem_map] at hu
  rcases hu with rfl | rfl | ⟨_, _, rfl⟩ <;> rfl
theorem GmD.one (g : GmD) (a : Option Addr) (k c : Nat) : ∀ u ∈ g.cells (.slice a k c), u.oneCell' = true := fun u hu => by
  simp only [GmD.cells, List.mem_cons, List.not_mem_nil, or_false] at hu
  rcases hu with rfl | rfl | rfl | rfl | rfl | rfl | rfl | rfl <;> rfl
theorem OwnRow.setCell {w : World} {base e m : Nat} {v : Value} {l : List (List Value)} (h : OwnRow w base e m v l) {b e' : Nat} {cs : Array Value} (ha : At w b cs e') (hne : e ≠ e') (i : Nat) (u : Value) : OwnRow (w.setCell ⟨b, i, none⟩ u) base e m v l := by
  refine ⟨h.1.kept (row := some b) ⟨rfl, rfl, rfl, by simp, fun k _ hk => Below.heap_setCell _ _ _ _ (fun e => hk (by rw [e]))⟩ ?_, h.2⟩
  cases hb : v.ownBlock with
  | none => exact .inl rfl
  | some q =>
    refine .inr fun e3 => ?_
    obtain ⟨c, fz, hc⟩ := Lib.ownsRow_kind h.1 q hb
    simp only [Option.some.injEq] at e3
    subst e3
    unfold At at ha
    rw [ha] at hc
    simp only [Option.some.injEq, Obj.cells.injEq] at hc
    exact hne hc.2.1.symm
theorem run_sliceL (w : World) (x : LnD) : (Instr.buildSlice 108 1 #[(0, .agg x.arr)]).run prog w = .ok (.slice (some ⟨w.heap.size, 0, none⟩) 1 1) (w.alloc (.cells x.arr 132)) := by unfold LnD.arr; simp [go_sem]
theorem run_sliceG (w : World) (g : GmD) (a : Option Addr) (k c : Nat) : (Instr.buildSlice 29 1 #[(0, .agg (g.arr (.slice a k c)))]).run prog w = .ok (.slice (some ⟨w.heap.size, 0, none⟩) 1 1) (w.alloc (.cells (g.arr (.slice a k c)) 110)) := by unfold GmD.arr; simp [go_sem]
set_option maxHeartbeats 3200000 in
theorem own_w {g : Nat → GmD} {n : Nat} {v : Value} {w : World} (h : IsGames w v g n) (hn : n ≤ 1000) (hk : ∀ i, i < n → (g i).k ≤ 1000) :
    Calls prog 20 #[v] w fun e w' => (∃ u, e = .returned u ∧ OwnGames w' w.heap.size 110 132 u g n) ∧ Below w.heap.size w w' := by
  obtain ⟨iG, TG⟩ := elG
  obtain ⟨iL, TL⟩ := elL
  have HT := Lib.hid (And.intro TG TL)
  clear TG TL
  have h0 := h
  obtain ⟨lv0, hr, -⟩ := h0
  obtain ⟨ad, c, rfl, hnc⟩ := hr.slice
  have hs0 : OwnGames w w.heap.size 110 132 (.slice none 0 0) g 0 := OwnGames.start _ _ _ _ _
  clear hr
  go_enter func20, ntmps20
  go_wp2_with fail
  go_loopw [3, 11] (fun t s wr => ∃ i : Nat, i ≤ n ∧ s = .int .i64 i ∧ OwnGames wr w.heap.size 110 132 t g i ∧ Below w.heap.size w wr) (fun _ s _ => n - (numOf' s).toNat)
  case atStart => exact ⟨0, Nat.zero_le _, rfl, hs0, Below.refl _ _⟩
  case round =>
    clear hs0
    obtain ⟨i, hi, rfl, hl, hb⟩ := hrel
    obtain ⟨wq, rfl⟩ : ∃ W : World, W = wr := ⟨_, rfl⟩
    by_cases hin : i < n
    · obtain ⟨b, off, c1, a1, kc, e, -, hli, p0, p1, p2, p3, p4, p5, p6, p7⟩ := (h.below hb).at hin
      simp only [Value.slice.injEq, true_and] at e
      obtain ⟨rfl, rfl⟩ := e
      have hii : (i : Int) < (n : Int) := by omega
      have hki := hk i hin
      have hb1 : Below wq.heap.size wq (wq.alloc (.cells ((g i).arr (.slice a1 (g i).k kc)) 105)) := (Below.refl _ _).alloc (Nat.le_refl _) _
      have hb2 : Below wq.heap.size wq ((wq.alloc (.cells ((g i).arr (.slice a1 (g i).k kc)) 105)).alloc (.cells ((g i).arr (.slice none 0 0)) 110)) := hb1.alloc hb1.size _
      have hx1 := at_new wq ((g i).arr (.slice a1 (g i).k kc)) 105
      have hx2 := hx1.alloc (.cells ((g i).arr (.slice none 0 0)) 110)
      have hy : At ((wq.alloc (.cells ((g i).arr (.slice a1 (g i).k kc)) 105)).alloc (.cells ((g i).arr (.slice none 0 0)) 110)) (wq.heap.size + 1) ((g i).arr (.slice none 0 0)) 110 := by
        have := at_new (wq.alloc (.cells ((g i).arr (.slice a1 (g i).k kc)) 105)) ((g i).arr (.slice none 0 0)) 110
        simpa using this
      have hsz : wq.heap.size + 2 ≤ ((wq.alloc (.cells ((g i).arr (.slice a1 (g i).k kc)) 105)).alloc (.cells ((g i).arr (.slice none 0 0)) 110)).heap.size := by simp
      unfold GmD.arr at hx1 hx2
      obtain ⟨⟨x0, x1, x2, x3, x4, x5, x6, x7⟩, -⟩ := box8 hx1
      obtain ⟨⟨y0, y1, y2, y3, y4, y5, y6, y7⟩, -⟩ := box8 hx2
      obtain ⟨W2, hW⟩ : ∃ W2, (wq.alloc (.cells ((g i).arr (.slice a1 (g i).k kc)) 105)).alloc (.cells ((g i).arr (.slice none 0 0)) 110) = W2 := ⟨_, rfl⟩
      rw [hW] at hb2 hy hsz
      unfold GmD.arr at hW
      rw [hW] at y0 y1 y2 y3 y4 y5 y6 y7
      have hyu := hy
      unfold GmD.arr at hyu
      obtain ⟨⟨z0, z1, z2, z3, z4, z5, z6, z7⟩, f0, f1, f2, f3, f4, f5, f6, f7⟩ := box8 hyu
      have hL0 : OwnLines W2 (wq.heap.size + 2) 132 (.slice none 0 0) (g i).l 0 := OwnLines.start _ _ _ _
      have hszw := hb.size
      clear hb1 hx1 hx2 hyu
      go_wp2_with fail
      try rw [hW]
      clear hW p0 p1 p2 p3 p4 p5 p6 p7 x0 x1 x2 x3 x4 x5 x6 x7 y0 y1 y2 y3 y4 y5 y6 y7 z0 z1 z2 z3 z4 z5 z6 z7 f0 f1 f2 f3 f4 f5 f6 f7
      go_loopw [29] (fun s wx => ∃ (j : Nat) (va : Option Addr) (vk vc : Nat), j ≤ (g i).k ∧ s = .int .i64 j ∧ OwnLines wx (wq.heap.size + 2) 132 (.slice va vk vc) (g i).l j ∧ At wx (wq.heap.size + 1) ((g i).arr (.slice va vk vc)) 110 ∧ Below wq.heap.size wq wx ∧ wq.heap.size + 2 ≤ wx.heap.size) (fun s _ => (g i).k - (numOf' s).toNat)
      case atStart => exact ⟨0, none, 0, 0, Nat.zero_le _, rfl, OwnLines.start _ _ _ _, hy.set 7 _, hb2.setCell (p := ⟨wq.heap.size + 1, 7, none⟩) (by simp) _, by simpa using hsz⟩
      case round =>
        clear hL0 hy hb2 hsz
        obtain ⟨j, va, vk, vc, hj, rfl, hL, hy, hb2, hsz⟩ := hrel
        unfold GmD.arr at hy
        obtain ⟨⟨y0, y1, y2, y3, y4, y5, y6, y7⟩, f0, f1, f2, f3, f4, f5, f6, f7⟩ := box8 hy
        by_cases hjk : j < (g i).k
        · obtain ⟨b2, off2, c2, e2, hk2, q0, q1, qc⟩ := (hli.below hb2).at hjk
          simp only [Value.slice.injEq, true_and] at e2
          obtain ⟨rfl, rfl⟩ := e2
          have hc0 := qc 0 (by omega)
          have hc1 := qc 1 (by omega)
          have hc2 := qc 2 (by omega)
          have hc3 := qc 3 (by omega)
          have hc4 := qc 4 (by omega)
          have hc5 := qc 5 (by omega)
          have hc6 := qc 6 (by omega)
          have hc7 := qc 7 (by omega)
          have hc8 := qc 8 (by omega)
          have hc9 := qc 9 (by omega)
          have hc10 := qc 10 (by omega)
          have hc11 := qc 11 (by omega)
          simp only [Nat.reduceAdd] at hc0 hc1 hc2 hc3 hc4 hc5 hc6 hc7 hc8 hc9 hc10 hc11
          have hjj : (j : Int) < ((g i).k : Int) := by omega
          have hb5 : Below wr.heap.size wr (wr.alloc (.cells ((g i).l j).arr 151)) := (Below.refl _ _).alloc (Nat.le_refl _) _
          have hz5 := at_new wr ((g i).l j).arr 151
          obtain ⟨W5, hW5⟩ : ∃ W5, wr.alloc (.cells ((g i).l j).arr 151) = W5 := ⟨_, rfl⟩
          rw [hW5] at hb5 hz5
          have hy5 := hy.below hb5 hy.lt
          have hL5 := hL.below hb5
          have hb25 := hb2.trans (hb5.mono hb2.size)
          have hsz5 := Nat.le_trans hsz hb5.size
          obtain ⟨⟨u0, u1, u2, u3, u4, u5, u6, u7⟩, g0, g1, g2, g3, g4, g5, g6, g7⟩ := box8 hy5
          obtain ⟨z0, z1, z2, z3, z4, z5, z6, z7, z8, z9, z10, z11, z12, z13⟩ := box14 hz5
          unfold LnD.arr at hW5
          clear qc hy hL hb2 hsz hb5 hz5 f0 f1 f2 f3 f4 f5 f6 f7 y0 y1 y2 y3 y4 y5 y6
          go_wp2_with (first
            | (with_reducible refine haltR ?_)
            | fail)
          unfold Halt
          try rw [hW5]
          clear hW5 q0 q1 hc0 hc1 hc2 hc3 hc4 hc5 hc6 hc7 hc8 hc9 hc10 hc11 u0 u1 u2 u3 u4 u5 u6 u7 g0 g1 g2 g3 g4 g5 g6 g7 z0 z1 z2 z3 z4 z5 z6 z7 z8 z9 z10 z11 z12 z13 y7
          have hal := fun o => (Below.refl W5.heap.size W5).alloc (Nat.le_refl _) o
          refine wpList_sliceR (fun w => run_sliceL w ((g i).l j)) _ rfl _ rfl rfl ?_
          refine wpList_appendR HT.out.2 _ rfl _ _ rfl (wq.heap.size + 2) _ (linesL (g i).l j) _ rfl 1 rfl (hL5.below (hal _)) (by rw [linesL_len]; omega) ((g i).l j).cells (LnD.len _) (LnD.one _) ?hat ?c2 ?_
          case hat => rw [LnD.arr_eq]; exact at_new _ _ _
          case c2 => exact Nat.le_trans hsz5 (hal _).size
          intro a9 k9 c9 w9 hA
          have hL9 := OwnLines.more hA
          have hy9 : At w9 (wq.heap.size + 1) #[.string (bA (g i).nm), .int .i64 (g i).ver, .int .i64 (g i).day, .string (bA (g i).t0), .string (bA (g i).t1), .int .i64 (g i).s0, .int .i64 (g i).s1, .slice va vk vc] 110 := by
            have := hy5.below (hal (.cells ((g i).l j).arr 132)) hy5.lt
            unfold At at this ⊢
            rw [hA.old _ (by omega) (lt_of_block this)]; exact this
          have hb9 := hA.below wq (hb25.trans ((hal _).mono hb25.size)) (by omega)
          have hsz9 := Nat.le_trans hsz5 (Nat.le_trans (hal (.cells ((g i).l j).arr 132)).size hA.size)
          have hL10 : ∀ u, OwnLines (w9.setCell ⟨wq.heap.size + 1, 7, none⟩ u) (wq.heap.size + 2) 132 (.slice a9 k9 c9) (g i).l (j + 1) := fun u => OwnRow.setCell hL9 hy9 (by decide) _ _
          have hy10 := hy9.set 7 (.slice a9 k9 c9)
          have hb10 := fun u => hb9.setCell (p := ⟨wq.heap.size + 1, 7, none⟩) (by simp) u
          have hsz10 : ∀ u, wq.heap.size + 2 ≤ (w9.setCell ⟨wq.heap.size + 1, 7, none⟩ u).heap.size := fun u => by simpa using hsz9
          obtain ⟨⟨y0, y1, y2, y3, y4, y5, y6, y7⟩, f0, f1, f2, f3, f4, f5, f6, f7⟩ := box8 hy9
          clear hA hL9 hy5 hL5 hb25 hsz5 hal hb9 hsz9 hy9
          go_wp2_with fail
          go_roundw
          case rel => exact ⟨j + 1, _, _, _, by omega, by go_num, hL10 _, hy10, hb10 _, hsz10 _⟩
          case measure => simp [numOf'] <;> omega
        · obtain rfl : j = (g i).k := by omega
          obtain ⟨lvs, hG1, hG2⟩ := hl
          have hal := fun o => (Below.refl wr.heap.size wr).alloc (Nat.le_refl _) o
          have hbx := hb.trans (hb2.mono hb.size)
          go_wp2_with (first
            | (with_reducible refine haltR ?_)
            | fail)
          unfold Halt
          refine wpList_sliceR (fun w => run_sliceG w (g i) va vk vc) _ rfl _ rfl rfl ?_
          refine wpList_appendR HT.out.1 _ rfl _ _ rfl w.heap.size _ (gamesL g lvs i) _ rfl 1 rfl ((hG1.below hb2).below (hal _)) (by rw [gamesL_len]; omega) ((g i).cells (.slice va vk vc)) (GmD.len _ _) (GmD.one _ _ _ _) ?hat ?c2 ?_
          case hat => rw [GmD.arr_eq]; exact at_new _ _ _
          case c2 => exact Nat.le_trans hbx.size (hal _).size
          intro a9 k9 c9 w9 hA
          have hG9 := OwnGames.more (by decide) (fun q hq => ((hG2 q hq).below hb2).below (hal _)) ((hL.mono (by omega)).below (hal _)) hA
          have hb9 := hA.below w (hbx.trans ((hal _).mono hbx.size)) (Nat.le_refl _)
          clear hA hG1 hG2 hL hy hal hb2
          go_wp2_with fail
          go_roundw
          case rel => exact ⟨i + 1, by omega, by go_num, hG9, hb9⟩
          case measure => simp [numOf'] <;> omega
    · obtain rfl : i = n := by omega
      clear hk h
      go_wp2_with fail
      go_ret
      exact ⟨⟨_, rfl, hl⟩, hb⟩
end Go.Proofs.Tryz

namespace Go.Proofs.Tryz
open Go Go.Am Go.RowKit Go.Op
set_option maxRecDepth 100000

def tot0 : Tot := ⟨[], 0, fun _ => 0⟩
theorem take_snoc {α : Type} {l : List α} {i : Nat} {t : α} (h : l[i]? = some t) : l.take (i + 1) = l.take i ++ [t] := by
  rw [List.take_add_one, h]; rfl
end Go.Proofs.Tryz

namespace Go.Proofs.Tryz
open Go

section
variable {P : Program} {ops : Array Oper} {md : Region.Mode} {C : World → Prop} {m : Nat}

/-- The operations below m come up in whatever order, till all have. -/
def wpTo (P : Program) (md : Region.Mode) (ops : Array Oper) (C : World → Prop) (m : Nat) (Q : Act → Prop) : Nat → Array Bool → Act → Prop
  | 0, listed, a => (∀ k, k < m → listed.getD k true = true) ∧ Q a
  | n + 1, listed, a => (∃ k, k ∈ Region.ready md ops listed ∧ k < m) ∧ ∀ i ∈ Region.ready md ops listed, i < m → qOp P ops C i (wpTo P md ops C m Q n (listed.setIfInBounds i true)) a

/-- What is listed has what it waits for listed; nothing from m on is listed. -/
def Closed (md : Region.Mode) (ops : Array Oper) (m : Nat) (listed : Array Bool) : Prop :=
  listed.size = ops.size ∧ (∀ j o, j < m → ops[j]? = some o → listed.getD j true = true → ∀ e ∈ o.after, Region.binds md e = true → listed.getD e.on false = true) ∧
  ∀ j, m ≤ j → j < ops.size → listed.getD j true = false

theorem gd_false {listed : Array Bool} {i : Nat} (h : listed.getD i true = false) (h2 : listed.getD i false = true) : False := by
  rcases Nat.lt_or_ge i listed.size with h' | h'
  · simp [h'] at h h2; rw [h] at h2; cases h2
  · simp [Array.getElem?_eq_none h'] at h2

theorem Closed.step {listed : Array Bool} {i : Nat} (h : Closed md ops m listed) (hi : i ∈ Region.ready md ops listed) (him : i < m) : Closed md ops m (listed.setIfInBounds i true) := by
  obtain ⟨h1, h2, h3⟩ := h
  refine ⟨by simp [h1], fun j o hjm ho hl e he hb => ?_, fun j hj hjs => ?_⟩
  · by_cases hij : i = j
    · subst hij
      obtain ⟨-, o', ho', hall⟩ := mem_ready.1 hi
      rw [ho] at ho'
      obtain rfl := Option.some.inj ho'
      exact getD_set_true (hall e he hb)
    · rw [getD_set_ne true hij] at hl
      exact getD_set_true (h2 j o hjm ho hl e he hb)
  · rw [getD_set_ne true (by omega)]; exact h3 j hj hjs

/-- Each operation below m is waited for by one behind it, m at the last; each behind m waits for one from m on. -/
def laidTo (md : Region.Mode) (ops : Array Oper) (m : Nat) : Bool :=
  ((List.range m).all fun i => (List.range (m + 1)).any fun k => decide (i < k) && match ops[k]? with
    | some o => o.after.any fun e => Region.binds md e && e.on == i
    | none => false) &&
  ((List.range ops.size).all fun j => decide (j ≤ m) || match ops[j]? with
    | some o => o.after.any fun e => Region.binds md e && decide (m ≤ e.on) && decide (e.on < ops.size)
    | none => false)

theorem not_yet {listed : Array Bool} (hl : laidTo md ops m = true) (hc : Closed md ops m listed) {i : Nat} (him : i < m) (hun : listed.getD i true = false) : ∀ j ∈ Region.ready md ops listed, j < m := by
  simp only [laidTo, Bool.and_eq_true, List.all_eq_true, List.mem_range, List.any_eq_true, Bool.or_eq_true, decide_eq_true_eq] at hl
  obtain ⟨hd, hu⟩ := hl
  have key : ∀ (n i : Nat), m - i ≤ n → i < m → listed.getD i true = false → ∃ o, ops[m]? = some o ∧ ∃ e ∈ o.after, Region.binds md e = true ∧ listed.getD e.on true = false := by
    intro n
    induction n with
    | zero => intro i h1 h2; omega
    | succ n ih =>
      intro i h1 h2 h3
      obtain ⟨k, hk1, hik, hk⟩ := hd i h2
      cases ho : ops[k]? with
      | none => rw [ho] at hk; cases hk
      | some o =>
        rw [ho] at hk
        obtain ⟨e, he, hb⟩ := Array.any_eq_true'.1 hk
        simp only [Bool.and_eq_true, beq_iff_eq] at hb
        by_cases hkm : k = m
        · subst hkm
          exact ⟨o, ho, e, he, hb.1, by rw [hb.2]; exact h3⟩
        · refine ih k (by omega) (by omega) ?_
          cases hx : listed.getD k true with
          | false => rfl
          | true =>
            have := hc.2.1 k o (by omega) ho hx e he hb.1
            rw [hb.2] at this
            exact (gd_false h3 this).elim
  intro j hj
  rcases Nat.lt_or_ge j m with h | h
  · exact h
  · exfalso
    obtain ⟨-, o, ho, hall⟩ := mem_ready.1 hj
    by_cases hjm : j = m
    · subst hjm
      obtain ⟨o', ho', e, he, hb, hx⟩ := key _ i (Nat.le_refl _) him hun
      rw [ho] at ho'
      obtain rfl := Option.some.inj ho'
      exact gd_false hx (hall e he hb)
    · have hjs : j < ops.size := (Array.getElem?_eq_some_iff.1 ho).1
      rcases hu j hjs with h1 | h1
      · omega
      · rw [ho] at h1
        obtain ⟨e, he, hb⟩ := Array.any_eq_true'.1 h1
        simp only [Bool.and_eq_true, decide_eq_true_eq] at hb
        exact gd_false (hc.2.2 e.on hb.1.2 hb.2) (hall e he hb.1.1)

theorem wpTo_first {Q : Act → Prop} {i : Nat} {oi : Oper} {v : Value} (hi : ops[i]? = some oi) (him : i < m) (hsel : ∀ (j : Nat) (o : Oper) cs b, ops[j]? = some o → o.op ≠ .select cs b) :
    ∀ (n : Nat) (listed : Array Bool) (a : Act),
      (∀ j oj, ops[j]? = some oj → j ≠ i → listed.getD j true = false → (∀ e ∈ oj.after, Region.binds md e = true → e.on ≠ i) → oi.apart ops oj = true) →
      i ∈ Region.ready md ops listed → YieldsIn P ops C oi v a →
      wpTo P md ops C m Q n (listed.setIfInBounds i true) (a.put oi.dst v) → wpTo P md ops C m Q (n + 1) listed a := by
  intro n
  induction n with
  | zero =>
    intro listed a _ hr hy H
    refine ⟨⟨i, hr, him⟩, fun j hj hjm => ?_⟩
    by_cases hji : j = i
    · subst hji; exact hy.qOp hi H
    · exfalso
      have := H.1 j hjm
      rw [getD_set_ne true (Ne.symm hji)] at this
      rw [(mem_ready.1 hj).1] at this
      cases this
  | succ n ih =>
    intro listed a hfree hr hy H
    refine ⟨⟨i, hr, him⟩, fun j hj hjm => ?_⟩
    by_cases hji : j = i
    · subst hji; exact hy.qOp hi H
    · have h1 := H.2 j (ready_mono hj hji) hjm
      obtain ⟨hjun, oj, hoj, hall⟩ := mem_ready.1 hj
      have hnot : ∀ e ∈ oj.after, Region.binds md e = true → e.on ≠ i := fun e he hb heq => by
        have h1 := hall e he hb
        rw [heq] at h1
        exact gd_false (mem_ready.1 hr).1 h1
      have h2 := qOp_put hoj (hfree j oj hoj hji hjun hnot) (fun cs b => hsel i oi cs b hi) (fun cs b => hsel j oj cs b hoj) hy h1
      have hfree' : ∀ k ok, ops[k]? = some ok → k ≠ i → (listed.setIfInBounds j true).getD k true = false →
          (∀ e ∈ ok.after, Region.binds md e = true → e.on ≠ i) → oi.apart ops ok = true := fun k ok hk hki hun hno => by
        refine hfree k ok hk hki ?_ hno
        by_cases hjk : j = k
        · subst hjk; exact hjun
        · rw [getD_set_ne true hjk] at hun; exact hun
      refine qOp_mono (fun a' h3 => ih (listed.setIfInBounds j true) a' hfree' (ready_mono hr (Ne.symm hji)) h3.1 ?_) h2
      rw [Array.setIfInBounds_comm _ _ hji]
      exact h3.2

def lexTo (md : Region.Mode) (ops : Array Oper) (m : Nat) : Nat → Nat → Array Bool → Bool
  | 0, _, listed => (List.range m).all fun k => listed.getD k true
  | n + 1, k, listed => (Region.ready md ops listed).contains k && Region.free md ops listed k && lexTo md ops m n (k + 1) (listed.setIfInBounds k true)

theorem wpTo_lex {Q : Act → Prop} (hs : Region.noSelect ops = true) : ∀ (l : List Oper) (k : Nat) (listed : Array Bool) (a : Act), (∀ j, j < l.length → l[j]? = ops[k + j]?) → k + l.length = m →
    lexTo md ops m l.length k listed = true → wpQuiet P ops C Q l a → wpTo P md ops C m Q l.length listed a
  | [], _, _, _, _, _, hB, h => ⟨by simpa only [List.length_nil, lexTo, List.all_eq_true, List.mem_range] using hB, h⟩
  | o :: l, k, listed, a, hl, hk, hB, h => by
    have h0 : ops[k]? = some o := by simpa using (hl 0 (by simp)).symm
    simp only [List.length_cons, lexTo, Bool.and_eq_true] at hB
    obtain ⟨⟨hr, hf⟩, hB'⟩ := hB
    have hst : qOp P ops C k (wpQuiet P ops C Q l) a := by unfold qOp; simp only [h0]; exact h
    obtain ⟨v, hy, hK⟩ := yieldsIn_of_qOp h0 hst
    have hkm : k < m := by simp only [List.length_cons] at hk; omega
    exact wpTo_first h0 hkm (Region.noSelect_spec hs) l.length listed a (Region.free_spec h0 hf) (by simpa using hr) hy
      (wpTo_lex hs l (k + 1) _ _ (fun j hj => by have := hl (j + 1) (by simp only [List.length_cons]; omega); simpa [Nat.add_assoc, Nat.add_comm 1 j] using this) (by simp only [List.length_cons] at hk; omega) hB' hK)

theorem wpAny_of_to {Qm : Act → Prop} {Q : Exit → Act → World → Prop} {f : Nat} {target : Array Bool} (hl : laidTo md ops m = true) (ht1 : target.size = ops.size) (ht2 : ∀ k, k < m → target.getD k true = true)
    (ht3 : ∀ j, m ≤ j → j < ops.size → target.getD j true = false) (hQ : ∀ a w, C w → Qm a → wpAny P md ops Q f target a w) : ∀ (n : Nat) (listed : Array Bool) (a : Act) (w : World), Closed md ops m listed → C w →
    wpTo P md ops C m Qm n listed a → wpAny P md ops Q (n + f) listed a w
  | 0, listed, a, w, hc, hw, h => by
    have e : listed = target := by
      refine Array.ext (by rw [hc.1, ht1]) fun i h1 h2 => ?_
      rcases Nat.lt_or_ge i m with h3 | h3
      · have x := h.1 i h3
        have y := ht2 i h3
        simp [h1] at x
        simp [h2] at y
        rw [x, y]
      · have x := hc.2.2 i h3 (by rw [← hc.1]; exact h1)
        have y := ht3 i h3 (by rw [← hc.1]; exact h1)
        simp [h1] at x
        simp [h2] at y
        rw [x, y]
    rw [Nat.zero_add, e]
    exact hQ a w hw h.2
  | n + 1, listed, a, w, hc, hw, h => by
    rw [Nat.add_right_comm]
    obtain ⟨⟨k, hk, hkm⟩, hstep⟩ := h
    refine ⟨fun h0 => (by rw [h0] at hk; cases hk), fun i hi => ?_⟩
    have him := not_yet hl hc hkm (mem_ready.1 hk).1 i hi
    exact wpOp_of_qOp hw (fun a' w' hw' h' => wpAny_of_to hl ht1 ht2 ht3 hQ n _ a' w' (hc.step hi him) hw' h') (hstep i hi him)

def checkTo (md : Region.Mode) (ops : Array Oper) (m n : Nat) (target : Array Bool) : Bool :=
  Region.noSelect ops && laidTo md ops m && lexTo md ops m m 0 (Array.replicate ops.size false) && decide (m + n = ops.size) && decide (target.size = ops.size) &&
  ((List.range m).all fun k => target.getD k true) && (List.range ops.size).all fun j => decide (j < m) || !target.getD j true

/-- One walk of the text's order up to the operation number m; the rest in the world at hand. -/
theorem wp_region_quiet_to {id : Nat} {Q : Exit → Act → World → Prop} {a : Act} {w : World} {l : List Oper} (m n : Nat) (target : Array Bool) (hm : P.follows .mixedOrders = true) (hB : checkTo .any l.toArray m n target = true) (hC : C w.drew)
    (h : wpQuiet P l.toArray C (fun a' => ∀ w', C w' → wpAny P .any l.toArray Q n target a' w') (l.take m) a) : (Code.region id l.toArray true).wp P Q a w := by
  simp only [checkTo, Bool.and_eq_true, decide_eq_true_eq, List.all_eq_true, List.mem_range, Bool.or_eq_true] at hB
  obtain ⟨⟨⟨⟨⟨⟨h1, h2⟩, h3⟩, h4⟩, h5⟩, h6⟩, h7⟩ := hB
  have h4' : m + n = l.length := by simpa using h4
  have hlen : (l.take m).length = m := by simp; omega
  refine wp_region_any hm ?_
  suffices hs : ∀ k, k = m + n → wpAny P .any l.toArray Q k (Array.replicate l.toArray.size false) a w.drew from hs _ h4.symm
  rintro k rfl
  have hto := wpTo_lex (C := C) (md := .any) (m := m) h1 (l.take m) 0 (Array.replicate l.toArray.size false) a (fun j hj => by rw [hlen] at hj; simp [hj]) (by rw [hlen]; omega) (by rw [hlen]; exact h3) h
  rw [hlen] at hto
  refine wpAny_of_to (Qm := fun a' => ∀ w', C w' → wpAny P .any l.toArray Q n target a' w') h2 h5 h6 (fun j hj hjs => by rcases h7 j hjs with q | q; omega; simpa using q) (fun a' w' hw' hq => hq w' hw') m _ a _ ⟨by simp, ?_, ?_⟩ hC hto
  · intro j o hjm ho hl
    have : j < l.length := by have := (Array.getElem?_eq_some_iff.1 ho).1; simpa using this
    simp [this] at hl
  · intro j hj hjs
    simp at hjs
    simp [hjs]

/-! ### the steps -/
theorem quiet_take {Q : Act → Prop} {a : Act} {o : Oper} {rest : List Oper} {v : Value} (hw : Region.wanted o (yielded ops a.tmps) = true) (hy : ∀ w, C w → (execOp a.eval o).run P w = .ok (.value v) w)
    (h : wpQuiet P ops C Q rest (a.put o.dst v)) : wpQuiet P ops C Q (o :: rest) a := by
  unfold wpQuiet
  rw [if_pos hw]
  exact ⟨v, fun w hC => by unfold Oper.quietAt; rw [hy w hC]; exact ⟨rfl, rfl⟩, h⟩
theorem quiet_skip {Q : Act → Prop} {a : Act} {o : Oper} {rest : List Oper} (hw : Region.wanted o (yielded ops a.tmps) = false) (h : wpQuiet P ops C Q rest (a.put o.dst undef)) : wpQuiet P ops C Q (o :: rest) a := by
  unfold wpQuiet
  rw [if_neg (by rw [hw]; decide)]
  exact h
theorem quiet_call {Q : Act → Prop} {a : Act} {o : Oper} {rest : List Oper} {v : Value} {f : FuncId} {args : Array Value} (hw : Region.wanted o (yielded ops a.tmps) = true) (he : ∀ w, C w → (execOp a.eval o).run P w = .ok (.enter f args) w)
    (hc : ∀ w, C w → Calls P f args w fun e w'' => e = .returned v ∧ C w'') (h : wpQuiet P ops C Q rest (a.put o.dst v)) : wpQuiet P ops C Q (o :: rest) a := by
  unfold wpQuiet
  rw [if_pos hw]
  exact ⟨v, fun w hC => by unfold Oper.quietAt; rw [he w hC]; exact ⟨rfl, hc w hC⟩, h⟩
end
end Go.Proofs.Tryz
