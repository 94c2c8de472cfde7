/- Plain: totals as lists in order. Games of the reference as ones of the season, and told the other way round: by the kit's walk. -/
import Derived.Test.YtbfonnoebbjenaaGreatDoorAxG
namespace Go.Proofs.Tryz
open Go Go.Am Go.RowKit Go.Op
set_option maxRecDepth 100000

/-! ### bytes in order -/
theorem bl_irrefl : ∀ a : List UInt8, bytesLess a a = false
  | [] => rfl
  | x :: a => by simp [bytesLess, bl_irrefl a]
theorem bl_trans : ∀ {a b c : List UInt8}, bytesLess a b = true → bytesLess b c = true → bytesLess a c = true
  | _, [], _, h, _ => by simp [bytesLess] at h
  | _, _ :: _, [], _, h => by simp [bytesLess] at h
  | [], _ :: _, _ :: _, _, _ => rfl
  | x :: a, y :: b, z :: c, h1, h2 => by
    simp only [bytesLess, Bool.or_eq_true, decide_eq_true_eq, Bool.and_eq_true, beq_iff_eq] at *
    rcases h1 with h1 | ⟨rfl, h1⟩
    · rcases h2 with h2 | ⟨rfl, -⟩
      · exact .inl (UInt8.lt_trans h1 h2)
      · exact .inl h1
    · rcases h2 with h2 | ⟨rfl, h2⟩
      · exact .inl h2
      · exact .inr ⟨rfl, bl_trans h1 h2⟩
theorem bl_tri : ∀ {a b : List UInt8}, bytesLess a b = false → bytesLess b a = false → a = b
  | [], [], _, _ => rfl
  | [], _ :: _, h, _ => by simp [bytesLess] at h
  | _ :: _, [], _, h => by simp [bytesLess] at h
  | x :: a, y :: b, h1, h2 => by
    simp only [bytesLess, Bool.or_eq_false_iff, decide_eq_false_iff_not, Bool.and_eq_false_iff] at *
    have e : x = y := by
      apply UInt8.toNat_inj.1
      have := h1.1; have := h2.1
      simp only [UInt8.lt_iff_toNat_lt] at *
      omega
    subst e
    rw [bl_tri (a := a) (b := b) (by rcases h1.2 with h | h; simp at h; exact h) (by rcases h2.2 with h | h; simp at h; exact h)]
theorem bl_asymm {a b : List UInt8} (h : bytesLess a b = true) : bytesLess b a = false := by
  cases h2 : bytesLess b a with
  | false => rfl
  | true => have := bl_trans h h2; rw [bl_irrefl] at this; cases this
theorem bl_ne {a b : List UInt8} (h : bytesLess a b = true) : a ≠ b := fun e => by subst e; rw [bl_irrefl] at h; cases h

/-! ### totals -/
structure Tot where
  p : List UInt8
  gm : Int
  c : Nat → Int
def addT (t : Tot) (s : Int) (d : Tot) : Tot := ⟨t.p, t.gm + s * d.gm, fun i => t.c i + s * d.c i⟩
def zeroT (p : List UInt8) : Tot := ⟨p, 0, fun _ => 0⟩
/-- The list with one more, in order. -/
def insT (s : Int) (d : Tot) : List Tot → List Tot
  | [] => [addT (zeroT d.p) s d]
  | t :: r => if d.p = t.p then addT t s d :: r else if bytesLess d.p t.p = true then addT (zeroT d.p) s d :: t :: r else t :: insT s d r
def SortT (l : List Tot) : Prop := l.Pairwise fun a b => bytesLess a.p b.p = true
/-- The total of a player. -/
def getT (p : List UInt8) (l : List Tot) : Option Tot := l.find? fun t => t.p == p
theorem insT_mem {s : Int} {d t : Tot} : ∀ {l : List Tot}, t ∈ insT s d l → t ∈ l ∨ t.p = d.p
  | [], h => by simp only [insT, List.mem_singleton] at h; subst h; exact .inr rfl
  | x :: r, h => by
    unfold insT at h
    split at h
    · rename_i e
      rcases List.mem_cons.1 h with rfl | h
      · exact .inr e.symm
      · exact .inl (by simp [h])
    · split at h
      · rcases List.mem_cons.1 h with rfl | h
        · exact .inr rfl
        · exact .inl h
      · rcases List.mem_cons.1 h with rfl | h
        · exact .inl (by simp)
        · rcases insT_mem h with h | h
          · exact .inl (by simp [h])
          · exact .inr h
theorem insT_sort {s : Int} {d : Tot} : ∀ {l : List Tot}, SortT l → SortT (insT s d l)
  | [], _ => by simp [insT, SortT]
  | x :: r, h => by
    obtain ⟨h1, h2⟩ := List.pairwise_cons.1 h
    unfold insT
    split
    · exact List.pairwise_cons.2 ⟨fun b hb => by have := h1 b hb; simpa [addT] using this, h2⟩
    · rename_i hne
      split
      · rename_i hlt
        refine List.pairwise_cons.2 ⟨fun b hb => ?_, h⟩
        rcases List.mem_cons.1 hb with rfl | hb
        · exact hlt
        · exact bl_trans hlt (h1 b hb)
      · rename_i hlt
        refine List.pairwise_cons.2 ⟨fun b hb => ?_, insT_sort h2⟩
        rcases insT_mem hb with hb | hb
        · exact h1 b hb
        · rw [hb]
          cases hx : bytesLess x.p d.p with
          | true => rfl
          | false => exact absurd (bl_tri (Bool.not_eq_true _ ▸ hlt) hx) hne
theorem getT_ins_same {s : Int} {d : Tot} : ∀ {l : List Tot}, SortT l → getT d.p (insT s d l) = some (addT ((getT d.p l).getD (zeroT d.p)) s d)
  | [], _ => by simp [insT, getT, addT, zeroT]
  | x :: r, h => by
    obtain ⟨h1, h2⟩ := List.pairwise_cons.1 h
    unfold insT
    split
    · rename_i e
      simp [getT, addT, ← e]
    · rename_i hne
      have hb : (x.p == d.p) = false := by simpa using fun e => hne e.symm
      split
      · rename_i hlt
        have hn : getT d.p r = none := by
          unfold getT
          rw [List.find?_eq_none]
          intro t ht
          have := bl_trans hlt (h1 t ht)
          simpa using fun e : t.p = d.p => bl_ne this e.symm
        have h3 : getT d.p (x :: r) = none := by
          unfold getT at *
          rw [List.find?_cons, hb]; exact hn
        rw [h3]
        simp [getT, addT, zeroT]
      · have e1 : getT d.p (x :: insT s d r) = getT d.p (insT s d r) := by unfold getT; rw [List.find?_cons, hb]
        have e2 : getT d.p (x :: r) = getT d.p r := by unfold getT; rw [List.find?_cons, hb]
        rw [e1, e2]
        exact getT_ins_same h2
theorem getT_ins_other {s : Int} {d : Tot} {p : List UInt8} (hp : p ≠ d.p) : ∀ {l : List Tot}, getT p (insT s d l) = getT p l
  | [] => by
    have : (d.p == p) = false := by simpa using fun e => hp e.symm
    simp [insT, getT, addT, zeroT, this]
  | x :: r => by
    have hd : (d.p == p) = false := by simpa using fun e => hp e.symm
    unfold insT
    split
    · rename_i e
      have hx : (x.p == p) = false := by rw [← e]; exact hd
      simp [getT, addT, hx]
    · split
      · simp [getT, addT, zeroT, hd]
      · have ih := getT_ins_other (s := s) (d := d) hp (l := r)
        unfold getT at *
        rw [List.find?_cons, List.find?_cons, ih]
/-- Counts alike from the place i on. -/
def allEq (c d : Nat → Int) : Nat → Nat → Bool
  | _, 0 => true
  | i, n + 1 => (c i == d i) && allEq c d (i + 1) n
/-- A total of nothing. -/
def nzT (t : Tot) : Bool := !((t.gm == 0) && allEq t.c (fun _ => 0) 0 12)
def cleanT (l : List Tot) : List Tot := l.filter nzT
theorem getT_some {p : List UInt8} {l : List Tot} {t : Tot} (h : getT p l = some t) : t ∈ l ∧ t.p = p := by
  refine ⟨List.mem_of_find?_eq_some h, ?_⟩
  have := List.find?_some h
  simpa using this
theorem SortT.get {l : List Tot} (h : SortT l) {t : Tot} (ht : t ∈ l) : getT t.p l = some t := by
  induction l with
  | nil => cases ht
  | cons x r ih =>
    obtain ⟨h1, h2⟩ := List.pairwise_cons.1 h
    unfold getT
    rw [List.find?_cons]
    rcases List.mem_cons.1 ht with rfl | ht
    · simp
    · have := bl_ne (h1 t ht)
      rw [show (x.p == t.p) = false by simpa using this]
      exact ih h2 ht
/-- Lists in order with the same members are one. -/
theorem sort_unique : ∀ {l m : List Tot}, SortT l → SortT m → (∀ t, t ∈ l ↔ t ∈ m) → l = m
  | [], [], _, _, _ => rfl
  | [], y :: m, _, _, h => absurd ((h y).2 (by simp)) (by simp)
  | x :: l, [], _, _, h => absurd ((h x).1 (by simp)) (by simp)
  | x :: l, y :: m, h1, h2, h => by
    obtain ⟨a1, a2⟩ := List.pairwise_cons.1 h1
    obtain ⟨b1, b2⟩ := List.pairwise_cons.1 h2
    have e : x = y := by
      rcases List.mem_cons.1 ((h x).1 (by simp)) with e | hx
      · exact e
      · rcases List.mem_cons.1 ((h y).2 (by simp)) with e | hy
        · exact e.symm
        · have := bl_trans (a1 y hy) (b1 x hx)
          rw [bl_irrefl] at this; cases this
    subst e
    congr 1
    refine sort_unique a2 b2 fun t => ⟨fun ht => ?_, fun ht => ?_⟩
    · rcases List.mem_cons.1 ((h t).1 (by simp [ht])) with rfl | h'
      · have := a1 t ht; rw [bl_irrefl] at this; cases this
      · exact h'
    · rcases List.mem_cons.1 ((h t).2 (by simp [ht])) with rfl | h'
      · have := b1 t ht; rw [bl_irrefl] at this; cases this
      · exact h'
theorem cleanT_sort {l : List Tot} (h : SortT l) : SortT (cleanT l) := h.filter _
/-- The place at which a new one comes in. -/
theorem insT_at {s : Int} {d : Tot} : ∀ {l : List Tot} {i : Nat}, i ≤ l.length → (∀ j t, j < i → l[j]? = some t → bytesLess t.p d.p = true) → (∀ j t, i ≤ j → l[j]? = some t → bytesLess d.p t.p = true) →
    insT s d l = l.take i ++ addT (zeroT d.p) s d :: l.drop i
  | [], i, h, _, _ => by simp only [List.length_nil, Nat.le_zero] at h; subst h; rfl
  | x :: r, 0, _, _, h2 => by
    have h3 := h2 0 x (Nat.le_refl _) rfl
    unfold insT
    rw [if_neg (bl_ne h3), if_pos h3]
    rfl
  | x :: r, i + 1, h, h1, h2 => by
    have h3 := h1 0 x (by omega) rfl
    unfold insT
    rw [if_neg (fun e => bl_ne h3 e.symm), if_neg (by rw [bl_asymm h3]; decide)]
    simp only [List.length_cons] at h
    rw [insT_at (i := i) (by omega) (fun j t hj ht => h1 (j + 1) t (by omega) (by simpa using ht)) (fun j t hj ht => h2 (j + 1) t (by omega) (by simpa using ht))]
    rfl
/-- The place at which one that is there grows. -/
theorem insT_there {s : Int} {d : Tot} : ∀ {l : List Tot} {i : Nat} {t : Tot}, SortT l → l[i]? = some t → t.p = d.p → insT s d l = l.set i (addT t s d)
  | [], _, _, _, h, _ => by simp at h
  | x :: r, 0, t, _, h, e => by
    simp only [List.getElem?_cons_zero, Option.some.injEq] at h
    subst h
    unfold insT
    rw [if_pos e.symm]
    rfl
  | x :: r, i + 1, t, hs, h, e => by
    obtain ⟨h1, h2⟩ := List.pairwise_cons.1 hs
    simp only [List.getElem?_cons_succ] at h
    have h3 := h1 t (List.mem_of_getElem? h)
    rw [e] at h3
    unfold insT
    rw [if_neg (fun q => bl_ne h3 q.symm), if_neg (by rw [bl_asymm h3]; decide), insT_there h2 h e]
    rfl
end Go.Proofs.Tryz

namespace Go.Proofs.Tryz
open Go Go.Am Go.RowKit Go.Op
set_option maxRecDepth 100000

theorem LnD.arr_eq (x : LnD) : x.cells.toArray = x.arr := by rw [← LnD.arr_cells, Array.toArray_toList]
theorem GmD.arr_eq (g : GmD) (lv : Value) : (g.cells lv).toArray = g.arr lv := rfl
theorem LnD.one (x : LnD) : ∀ u ∈ x.cells, u.oneCell' = true := fun u hu => by
  simp only [LnD.cells, ints, List.mem_cons, List.mem_map] at hu
  rcases hu with rfl | rfl | ⟨_, _, rfl⟩ <;> rfl
theorem GmD.one (g : GmD) (a : Option Addr) (k c : Nat) : ∀ u ∈ g.cells (.slice a k c), u.oneCell' = true := fun u hu => by
  simp only [GmD.cells, List.mem_cons, List.not_mem_nil, or_false] at hu
  rcases hu with rfl | rfl | rfl | rfl | rfl | rfl | rfl | rfl <;> rfl
theorem OwnRow.setCell {w : World} {base e m : Nat} {v : Value} {l : List (List Value)} (h : OwnRow w base e m v l) {b e' : Nat} {cs : Array Value} (ha : At w b cs e') (hne : e ≠ e') (i : Nat) (u : Value) : OwnRow (w.setCell ⟨b, i, none⟩ u) base e m v l := by
  refine ⟨h.1.kept (row := some b) ⟨rfl, rfl, rfl, by simp, fun k _ hk => Below.heap_setCell _ _ _ _ (fun e => hk (by rw [e]))⟩ ?_, h.2⟩
  cases hb : v.ownBlock with
  | none => exact .inl rfl
  | some q =>
    refine .inr fun e3 => ?_
    obtain ⟨c, fz, hc⟩ := Lib.ownsRow_kind h.1 q hb
    simp only [Option.some.injEq] at e3
    subst e3
    unfold At at ha
    rw [ha] at hc
    simp only [Option.some.injEq, Obj.cells.injEq] at hc
    exact hne hc.2.1.symm
theorem run_sliceL (w : World) (x : LnD) : (Instr.buildSlice 108 1 #[(0, .agg x.arr)]).run prog w = .ok (.slice (some ⟨w.heap.size, 0, none⟩) 1 1) (w.alloc (.cells x.arr 132)) := by unfold LnD.arr; simp [go_sem]
theorem run_sliceLR (w : World) (x : LnD) : (Instr.buildSlice 103 1 #[(0, .agg x.arr)]).run prog w = .ok (.slice (some ⟨w.heap.size, 0, none⟩) 1 1) (w.alloc (.cells x.arr 151)) := by unfold LnD.arr; simp [go_sem]
theorem run_sliceG (w : World) (g : GmD) (a : Option Addr) (k c : Nat) : (Instr.buildSlice 29 1 #[(0, .agg (g.arr (.slice a k c)))]).run prog w = .ok (.slice (some ⟨w.heap.size, 0, none⟩) 1 1) (w.alloc (.cells (g.arr (.slice a k c)) 110)) := by unfold GmD.arr; simp [go_sem]
theorem run_sliceGR (w : World) (g : GmD) (a : Option Addr) (k c : Nat) : (Instr.buildSlice 22 1 #[(0, .agg (g.arr (.slice a k c)))]).run prog w = .ok (.slice (some ⟨w.heap.size, 0, none⟩) 1 1) (w.alloc (.cells (g.arr (.slice a k c)) 105)) := by unfold GmD.arr; simp [go_sem]

set_option maxHeartbeats 3200000 in
theorem own_w {g : Nat → GmD} {n : Nat} {v : Value} {w : World} (h : IsGames w v g n) (hn : n ≤ 1000) (hk : ∀ i, i < n → (g i).k ≤ 1000) :
    Calls prog 20 #[v] w fun e w' => (∃ u, e = .returned u ∧ OwnGames w' w.heap.size 110 132 u g n) ∧ Below w.heap.size w w' := by
  obtain ⟨iG, TG⟩ := elG
  obtain ⟨iL, TL⟩ := elL
  have HT := Lib.hid (And.intro TG TL)
  clear TG TL
  have h0 := h
  obtain ⟨lv0, hr, -⟩ := h0
  obtain ⟨ad, c, rfl, hnc⟩ := hr.slice
  have hs0 : OwnGames w w.heap.size 110 132 (.slice none 0 0) g 0 := OwnGames.start _ _ _ _ _
  clear hr
  go_enter func20, ntmps20
  go_wp2_with fail
  go_loopw [3, 11] (fun t s wr => ∃ i : Nat, i ≤ n ∧ s = .int .i64 i ∧ OwnGames wr w.heap.size 110 132 t g i ∧ Below w.heap.size w wr) (fun _ s _ => n - (numOf' s).toNat)
  case atStart => exact ⟨0, Nat.zero_le _, rfl, hs0, Below.refl _ _⟩
  case round =>
    clear hs0
    obtain ⟨i, hi, rfl, hl, hb⟩ := hrel
    obtain ⟨wq, rfl⟩ : ∃ W : World, W = wr := ⟨_, rfl⟩
    by_cases hin : i < n
    · obtain ⟨b, off, c1, a1, kc, e, -, hli, p0, p1, p2, p3, p4, p5, p6, p7⟩ := (h.below hb).at hin
      simp only [Value.slice.injEq, true_and] at e
      obtain ⟨rfl, rfl⟩ := e
      have hii : (i : Int) < (n : Int) := by omega
      have hki := hk i hin
      have hb1 : Below wq.heap.size wq (wq.alloc (.cells ((g i).arr (.slice a1 (g i).k kc)) 105)) := (Below.refl _ _).alloc (Nat.le_refl _) _
      have hb2 : Below wq.heap.size wq ((wq.alloc (.cells ((g i).arr (.slice a1 (g i).k kc)) 105)).alloc (.cells ((g i).arr (.slice none 0 0)) 110)) := hb1.alloc hb1.size _
      have hx1 := at_new wq ((g i).arr (.slice a1 (g i).k kc)) 105
      have hx2 := hx1.alloc (.cells ((g i).arr (.slice none 0 0)) 110)
      have hy : At ((wq.alloc (.cells ((g i).arr (.slice a1 (g i).k kc)) 105)).alloc (.cells ((g i).arr (.slice none 0 0)) 110)) (wq.heap.size + 1) ((g i).arr (.slice none 0 0)) 110 := by
        have := at_new (wq.alloc (.cells ((g i).arr (.slice a1 (g i).k kc)) 105)) ((g i).arr (.slice none 0 0)) 110
        simpa using this
      have hsz : wq.heap.size + 2 ≤ ((wq.alloc (.cells ((g i).arr (.slice a1 (g i).k kc)) 105)).alloc (.cells ((g i).arr (.slice none 0 0)) 110)).heap.size := by simp
      unfold GmD.arr at hx1 hx2
      obtain ⟨⟨x0, x1, x2, x3, x4, x5, x6, x7⟩, -⟩ := box8 hx1
      obtain ⟨⟨y0, y1, y2, y3, y4, y5, y6, y7⟩, -⟩ := box8 hx2
      obtain ⟨W2, hW⟩ : ∃ W2, (wq.alloc (.cells ((g i).arr (.slice a1 (g i).k kc)) 105)).alloc (.cells ((g i).arr (.slice none 0 0)) 110) = W2 := ⟨_, rfl⟩
      rw [hW] at hb2 hy hsz
      unfold GmD.arr at hW
      rw [hW] at y0 y1 y2 y3 y4 y5 y6 y7
      have hyu := hy
      unfold GmD.arr at hyu
      obtain ⟨⟨z0, z1, z2, z3, z4, z5, z6, z7⟩, f0, f1, f2, f3, f4, f5, f6, f7⟩ := box8 hyu
      have hL0 : OwnLines W2 (wq.heap.size + 2) 132 (.slice none 0 0) (g i).l 0 := OwnLines.start _ _ _ _
      have hszw := hb.size
      clear hb1 hx1 hx2 hyu
      go_wp2_with fail
      try rw [hW]
      clear hW p0 p1 p2 p3 p4 p5 p6 p7 x0 x1 x2 x3 x4 x5 x6 x7 y0 y1 y2 y3 y4 y5 y6 y7 z0 z1 z2 z3 z4 z5 z6 z7 f0 f1 f2 f3 f4 f5 f6 f7
      go_loopw [29] (fun s wx => ∃ (j : Nat) (va : Option Addr) (vk vc : Nat), j ≤ (g i).k ∧ s = .int .i64 j ∧ OwnLines wx (wq.heap.size + 2) 132 (.slice va vk vc) (g i).l j ∧ At wx (wq.heap.size + 1) ((g i).arr (.slice va vk vc)) 110 ∧ Below wq.heap.size wq wx ∧ wq.heap.size + 2 ≤ wx.heap.size) (fun s _ => (g i).k - (numOf' s).toNat)
      case atStart => exact ⟨0, none, 0, 0, Nat.zero_le _, rfl, OwnLines.start _ _ _ _, hy.set 7 _, hb2.setCell (p := ⟨wq.heap.size + 1, 7, none⟩) (by simp) _, by simpa using hsz⟩
      case round =>
        clear hL0 hy hb2 hsz
        obtain ⟨j, va, vk, vc, hj, rfl, hL, hy, hb2, hsz⟩ := hrel
        unfold GmD.arr at hy
        obtain ⟨⟨y0, y1, y2, y3, y4, y5, y6, y7⟩, f0, f1, f2, f3, f4, f5, f6, f7⟩ := box8 hy
        by_cases hjk : j < (g i).k
        · obtain ⟨b2, off2, c2, e2, hk2, q0, q1, qc⟩ := (hli.below hb2).at hjk
          simp only [Value.slice.injEq, true_and] at e2
          obtain ⟨rfl, rfl⟩ := e2
          have hc0 := qc 0 (by omega)
          have hc1 := qc 1 (by omega)
          have hc2 := qc 2 (by omega)
          have hc3 := qc 3 (by omega)
          have hc4 := qc 4 (by omega)
          have hc5 := qc 5 (by omega)
          have hc6 := qc 6 (by omega)
          have hc7 := qc 7 (by omega)
          have hc8 := qc 8 (by omega)
          have hc9 := qc 9 (by omega)
          have hc10 := qc 10 (by omega)
          have hc11 := qc 11 (by omega)
          simp only [Nat.reduceAdd] at hc0 hc1 hc2 hc3 hc4 hc5 hc6 hc7 hc8 hc9 hc10 hc11
          have hjj : (j : Int) < ((g i).k : Int) := by omega
          have hb5 : Below wr.heap.size wr (wr.alloc (.cells ((g i).l j).arr 151)) := (Below.refl _ _).alloc (Nat.le_refl _) _
          have hz5 := at_new wr ((g i).l j).arr 151
          obtain ⟨W5, hW5⟩ : ∃ W5, wr.alloc (.cells ((g i).l j).arr 151) = W5 := ⟨_, rfl⟩
          rw [hW5] at hb5 hz5
          have hy5 := hy.below hb5 hy.lt
          have hL5 := hL.below hb5
          have hb25 := hb2.trans (hb5.mono hb2.size)
          have hsz5 := Nat.le_trans hsz hb5.size
          obtain ⟨⟨u0, u1, u2, u3, u4, u5, u6, u7⟩, g0, g1, g2, g3, g4, g5, g6, g7⟩ := box8 hy5
          obtain ⟨z0, z1, z2, z3, z4, z5, z6, z7, z8, z9, z10, z11, z12, z13⟩ := box14 hz5
          unfold LnD.arr at hW5
          clear qc hy hL hb2 hsz hb5 hz5 f0 f1 f2 f3 f4 f5 f6 f7 y0 y1 y2 y3 y4 y5 y6
          go_wp2_with (first
            | (with_reducible refine haltR ?_)
            | fail)
          unfold Halt
          try rw [hW5]
          clear hW5 q0 q1 hc0 hc1 hc2 hc3 hc4 hc5 hc6 hc7 hc8 hc9 hc10 hc11 u0 u1 u2 u3 u4 u5 u6 u7 g0 g1 g2 g3 g4 g5 g6 g7 z0 z1 z2 z3 z4 z5 z6 z7 z8 z9 z10 z11 z12 z13 y7
          have hal := fun o => (Below.refl W5.heap.size W5).alloc (Nat.le_refl _) o
          refine wpList_sliceR (fun w => run_sliceL w ((g i).l j)) _ rfl _ rfl rfl ?_
          refine wpList_appendR HT.out.2 _ rfl _ _ rfl (wq.heap.size + 2) _ (linesL (g i).l j) _ rfl 1 rfl (hL5.below (hal _)) (by rw [linesL_len]; omega) ((g i).l j).cells (LnD.len _) (LnD.one _) ?hat ?c2 ?_
          case hat => rw [LnD.arr_eq]; exact at_new _ _ _
          case c2 => exact Nat.le_trans hsz5 (hal _).size
          intro a9 k9 c9 w9 hA
          have hL9 := OwnLines.more hA
          have hy9 : At w9 (wq.heap.size + 1) #[.string (bA (g i).nm), .int .i64 (g i).ver, .int .i64 (g i).day, .string (bA (g i).t0), .string (bA (g i).t1), .int .i64 (g i).s0, .int .i64 (g i).s1, .slice va vk vc] 110 := by
            have := hy5.below (hal (.cells ((g i).l j).arr 132)) hy5.lt
            unfold At at this ⊢
            rw [hA.old _ (by omega) (lt_of_block this)]; exact this
          have hb9 := hA.below wq (hb25.trans ((hal _).mono hb25.size)) (by omega)
          have hsz9 := Nat.le_trans hsz5 (Nat.le_trans (hal (.cells ((g i).l j).arr 132)).size hA.size)
          have hL10 : ∀ u, OwnLines (w9.setCell ⟨wq.heap.size + 1, 7, none⟩ u) (wq.heap.size + 2) 132 (.slice a9 k9 c9) (g i).l (j + 1) := fun u => OwnRow.setCell hL9 hy9 (by decide) _ _
          have hy10 := hy9.set 7 (.slice a9 k9 c9)
          have hb10 := fun u => hb9.setCell (p := ⟨wq.heap.size + 1, 7, none⟩) (by simp) u
          have hsz10 : ∀ u, wq.heap.size + 2 ≤ (w9.setCell ⟨wq.heap.size + 1, 7, none⟩ u).heap.size := fun u => by simpa using hsz9
          obtain ⟨⟨y0, y1, y2, y3, y4, y5, y6, y7⟩, f0, f1, f2, f3, f4, f5, f6, f7⟩ := box8 hy9
          clear hA hL9 hy5 hL5 hb25 hsz5 hal hb9 hsz9 hy9
          go_wp2_with fail
          go_roundw
          case rel => exact ⟨j + 1, _, _, _, by omega, by go_num, hL10 _, hy10, hb10 _, hsz10 _⟩
          case measure => simp [numOf'] <;> omega
        · obtain rfl : j = (g i).k := by omega
          obtain ⟨lvs, hG1, hG2⟩ := hl
          have hal := fun o => (Below.refl wr.heap.size wr).alloc (Nat.le_refl _) o
          have hbx := hb.trans (hb2.mono hb.size)
          go_wp2_with (first
            | (with_reducible refine haltR ?_)
            | fail)
          unfold Halt
          refine wpList_sliceR (fun w => run_sliceG w (g i) va vk vc) _ rfl _ rfl rfl ?_
          refine wpList_appendR HT.out.1 _ rfl _ _ rfl w.heap.size _ (gamesL g lvs i) _ rfl 1 rfl ((hG1.below hb2).below (hal _)) (by rw [gamesL_len]; omega) ((g i).cells (.slice va vk vc)) (GmD.len _ _) (GmD.one _ _ _ _) ?hat ?c2 ?_
          case hat => rw [GmD.arr_eq]; exact at_new _ _ _
          case c2 => exact Nat.le_trans hbx.size (hal _).size
          intro a9 k9 c9 w9 hA
          have hG9 := OwnGames.more (by decide) (fun q hq => ((hG2 q hq).below hb2).below (hal _)) ((hL.mono (by omega)).below (hal _)) hA
          have hb9 := hA.below w (hbx.trans ((hal _).mono hbx.size)) (Nat.le_refl _)
          clear hA hG1 hG2 hL hy hal hb2
          go_wp2_with fail
          go_roundw
          case rel => exact ⟨i + 1, by omega, by go_num, hG9, hb9⟩
          case measure => simp [numOf'] <;> omega
    · obtain rfl : i = n := by omega
      clear hk h
      go_wp2_with fail
      go_ret
      exact ⟨⟨_, rfl, hl⟩, hb⟩
end Go.Proofs.Tryz
