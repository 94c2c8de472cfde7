/- Plain: rows of moves as lists; insertion by From, falling. The sort of moves by From, falling: by the kit's walk. SortStableFunc at moves, Compact of touches, by the kit's walk. -/
import Derived.Test.YthlmjjdlmidnlaaGreatDoorArVc
import Derived.Deep.RegionHeld3
import Derived.BigRegion
import Derived.Deep.QuietTactic
import Derived.BigQuiet
namespace Go.Proofs.Tryz
open Go Go.Am Go.RowKit Go.Dr
set_option maxRecDepth 100000

/-- A move's five cells. -/
structure M5 where
  f1 : Int
  f2 : Int
  xb : Bool
  s : ByteArray
  a : Option Addr
  k : Nat
  c : Nat
def M5.vals (m : M5) : List Value := [.int .i64 m.f1, .int .i64 m.f2, .bool m.xb, .string m.s, .slice m.a m.k m.c]
def flat (l : List M5) : List Value := l.flatMap M5.vals
theorem flat_nil : flat [] = [] := rfl
theorem flat_cons (m : M5) (l : List M5) : flat (m :: l) = .int .i64 m.f1 :: .int .i64 m.f2 :: .bool m.xb :: .string m.s :: .slice m.a m.k m.c :: flat l := rfl
theorem flat_append (x y : List M5) : flat (x ++ y) = flat x ++ flat y := by simp [flat]
theorem length_flat : ∀ l : List M5, (flat l).length = 5 * l.length
  | [] => rfl
  | m :: l => by simp only [flat_cons, List.length_cons, length_flat l]; omega
theorem flat_get : ∀ {l : List M5} {i : Nat} {m : M5}, l[i]? = some m → (flat l)[5 * i]? = some (.int .i64 m.f1) ∧ (flat l)[5 * i + 1]? = some (.int .i64 m.f2) ∧ (flat l)[5 * i + 2]? = some (.bool m.xb) ∧ (flat l)[5 * i + 3]? = some (.string m.s) ∧ (flat l)[5 * i + 4]? = some (.slice m.a m.k m.c)
  | [], i, m, h => by simp at h
  | x :: l, 0, m, h => by
    simp only [List.getElem?_cons_zero, Option.some.injEq] at h; subst h
    exact ⟨rfl, rfl, rfl, rfl, rfl⟩
  | x :: l, i + 1, m, h => by
    simp only [List.getElem?_cons_succ] at h
    obtain ⟨h0, h1, h2, h3, h4⟩ := flat_get h
    rw [flat_cons]
    refine ⟨?_, ?_, ?_, ?_, ?_⟩
    · rw [show 5 * (i + 1) = 5 * i + 5 by omega]; simpa using h0
    · rw [show 5 * (i + 1) + 1 = 5 * i + 1 + 5 by omega]; simpa using h1
    · rw [show 5 * (i + 1) + 2 = 5 * i + 2 + 5 by omega]; simpa using h2
    · rw [show 5 * (i + 1) + 3 = 5 * i + 3 + 5 by omega]; simpa using h3
    · rw [show 5 * (i + 1) + 4 = 5 * i + 4 + 5 by omega]; simpa using h4
theorem flat_set : ∀ (l : List M5) (i : Nat) (m : M5), i < l.length → ((((((flat l).set (5 * i) (.int .i64 m.f1)).set (5 * i + 1) (.int .i64 m.f2)).set (5 * i + 2) (.bool m.xb)).set (5 * i + 3) (.string m.s)).set (5 * i + 4) (.slice m.a m.k m.c)) = flat (l.set i m)
  | [], i, m, h => absurd h (Nat.not_lt_zero _)
  | x :: l, 0, m, _ => by simp [flat_cons]
  | x :: l, i + 1, m, h => by
    have ih := flat_set l i m (by simpa using h)
    rw [List.set_cons_succ, flat_cons, flat_cons, ← ih]
    rw [show 5 * (i + 1) = 5 * i + 5 by omega, show 5 * i + 5 + 1 = 5 * i + 1 + 5 by omega, show 5 * i + 5 + 2 = 5 * i + 2 + 5 by omega, show 5 * i + 5 + 3 = 5 * i + 3 + 5 by omega, show 5 * i + 5 + 4 = 5 * i + 4 + 5 by omega]
    simp only [List.set_cons_succ]
theorem flat_last (l : List M5) (i : Nat) (m : M5) {a : Option Addr} {k c : Nat} (hm : l[i]? = some m) : (flat l).set (5 * i + 4) (.slice a k c) = flat (l.set i { m with a := a, k := k, c := c }) := by
  induction l generalizing i with
  | nil => simp at hm
  | cons x l ih =>
    cases i with
    | zero =>
      simp only [List.getElem?_cons_zero, Option.some.injEq] at hm; subst hm
      simp [flat_cons]
    | succ i =>
      rw [List.set_cons_succ, flat_cons, flat_cons, ← ih i (by simpa using hm), show 5 * (i + 1) + 4 = 5 * i + 4 + 5 by omega]
      simp only [List.set_cons_succ]

/-! ### insertion -/
def key (l : List M5) (p : Nat) : Int := ((l[p]?).map M5.f1).getD 0
/-- The first k are in falling order. -/
def Desc (l : List M5) (k : Nat) : Prop := ∀ p q, p < q → q < k → key l q ≤ key l p
/-- The element at j is on its way down; the others up to i are in falling order, and those behind it are less. -/
def Ins (l : List M5) (j i : Nat) : Prop := (∀ p q, p < q → q ≤ i → p ≠ j → q ≠ j → key l q ≤ key l p) ∧ ∀ q, j < q → q ≤ i → key l q < key l j
theorem desc_ins {l : List M5} {i : Nat} (h : Desc l i) : Ins l i i := ⟨fun p q h1 h2 h3 h4 => h p q h1 (by omega), fun q h1 h2 => by omega⟩
theorem ins_desc {l : List M5} {j i : Nat} (h : Ins l j i) (hs : j = 0 ∨ ¬ key l (j - 1) < key l j) : Desc l (i + 1) := by
  intro p q hpq hq
  by_cases e1 : p = j
  · subst e1; have := h.2 q hpq (by omega); omega
  · by_cases e2 : q = j
    · subst e2
      rcases hs with hs | hs
      · omega
      · by_cases e3 : p = q - 1
        · subst e3; omega
        · have := h.1 p (q - 1) (by omega) (by omega) e1 (by omega); omega
    · exact h.1 p q hpq (by omega) e1 e2
def swapM (l : List M5) (j : Nat) (a b : M5) : List M5 := (l.set j a).set (j - 1) b
theorem length_swapM (l : List M5) (j : Nat) (a b : M5) : (swapM l j a b).length = l.length := by simp [swapM]
theorem key_swapM {l : List M5} {j : Nat} {a b : M5} (ha : l[j - 1]? = some a) (hb : l[j]? = some b) (p : Nat) : key (swapM l j a b) p = if p = j - 1 then key l j else if p = j then key l (j - 1) else key l p := by
  have l1 := (List.getElem?_eq_some_iff.1 ha).1
  have l2 := (List.getElem?_eq_some_iff.1 hb).1
  unfold key swapM
  by_cases e1 : p = j - 1
  · rw [if_pos e1, e1, hb, List.getElem?_set, if_pos rfl, if_pos (by simp; omega)]
  · rw [if_neg e1, List.getElem?_set, if_neg (by omega)]
    by_cases e2 : p = j
    · rw [if_pos e2, e2, ha, List.getElem?_set, if_pos rfl, if_pos l2]
    · rw [if_neg e2, List.getElem?_set, if_neg (by omega)]
theorem ins_swap {l : List M5} {j i : Nat} {a b : M5} (hj : 0 < j) (hji : j ≤ i) (ha : l[j - 1]? = some a) (hb : l[j]? = some b) (h : Ins l j i) (hlt : key l (j - 1) < key l j) : Ins (swapM l j a b) (j - 1) i := by
  have hk := key_swapM ha hb
  refine ⟨fun p q h1 h2 h3 h4 => ?_, fun q h1 h2 => ?_⟩
  · rw [hk p, hk q, if_neg h3, if_neg h4]
    by_cases e1 : p = j
    · rw [if_pos e1, if_neg (by omega)]
      exact h.1 (j - 1) q (by omega) h2 (by omega) (by omega)
    · rw [if_neg e1]
      by_cases e2 : q = j
      · rw [if_pos e2]; exact h.1 p (j - 1) (by omega) (by omega) e1 (by omega)
      · rw [if_neg e2]; exact h.1 p q h1 h2 e1 e2
  · rw [hk q, hk (j - 1), if_pos rfl, if_neg (by omega)]
    by_cases e2 : q = j
    · rw [if_pos e2]; exact hlt
    · rw [if_neg e2]; exact h.2 q (by omega) h2
theorem perm_swapM : ∀ {l : List M5} {j : Nat} {a b : M5}, 0 < j → l[j - 1]? = some a → l[j]? = some b → (swapM l j a b).Perm l
  | [], j, a, b, _, ha, _ => by simp at ha
  | x :: l, 1, a, b, _, ha, hb => by
    simp only [Nat.sub_self, List.getElem?_cons_zero, Option.some.injEq] at ha
    subst ha
    match l, hb with
    | y :: l, hb =>
      simp only [List.getElem?_cons_succ, List.getElem?_cons_zero, Option.some.injEq] at hb
      subst hb
      exact List.Perm.swap _ _ _
  | x :: l, j + 2, a, b, _, ha, hb => by
    have := perm_swapM (l := l) (j := j + 1) (a := a) (b := b) (by omega) (by simpa using ha) (by simpa using hb)
    exact this.cons x
end Go.Proofs.Tryz

namespace Go.Proofs.Tryz
open Go Go.Am Go.RowKit Go.Dr
set_option maxRecDepth 100000

def cmpI (x y : Int) : Int := if x < y then -1 else if y < x then 1 else 0
theorem cmp116 (x y : Int) (w : World) : Calls prog 116 #[.int .i64 x, .int .i64 y] w fun e w' => e = .returned (.int .i64 (cmpI x y)) ∧ w' = w := by
  go_enter func116, ntmps116
  by_cases h1 : x < y
  · have e1 : cmpI x y = -1 := if_pos h1
    go_wp2
    go_ret
    exact ⟨by first | rfl | (rw [e1]; rfl), rfl⟩
  · by_cases h2 : y < x
    · have e1 : cmpI x y = 1 := by unfold cmpI; rw [if_neg h1, if_pos h2]
      go_wp2
      go_ret
      exact ⟨by first | rfl | (rw [e1]; rfl), rfl⟩
    · have e1 : cmpI x y = 0 := by unfold cmpI; rw [if_neg h1, if_neg h2]
      go_wp2
      go_ret
      exact ⟨by first | rfl | (rw [e1]; rfl), rfl⟩
theorem cmp140 (m m' : M5) (w : World) : Calls prog 140 #[.agg #[.int .i64 m.f1, .int .i64 m.f2, .bool m.xb, .string m.s, .slice m.a m.k m.c], .agg #[.int .i64 m'.f1, .int .i64 m'.f2, .bool m'.xb, .string m'.s, .slice m'.a m'.k m'.c]] w fun e w' => e = .returned (.int .i64 (cmpI m'.f1 m.f1)) ∧ Below w.heap.size w w' := by
  have hB : Below w.heap.size w ((w.alloc (.cells #[.int .i64 m.f1, .int .i64 m.f2, .bool m.xb, .string m.s, .slice m.a m.k m.c] 27)).alloc (.cells #[.int .i64 m'.f1, .int .i64 m'.f2, .bool m'.xb, .string m'.s, .slice m'.a m'.k m'.c] 27)) := ((Below.refl _ _).alloc (Nat.le_refl _) _).alloc (by simp) _
  go_enter func140, ntmps140
  go_wp2_with (first
    | (go_at_call 116; refine (cmp116 _ _ _).mono ?_; rintro e w2 ⟨rfl, rfl⟩)
    | go_in)
  go_ret
  exact ⟨rfl, hB⟩
theorem cmp_neg {x y : Int} : cmpI x y < 0 ↔ x < y := by 
  unfold cmpI
  split
  · omega
  · split <;> omega

/-- A row of moves of the call's own. -/
def RowM (w : World) (base g n c : Nat) (l : List M5) : Prop := w.ownsRow base 27 5 (.slice (some ⟨g, 0, none⟩) n c) n (flat l)
theorem RowM.len {w : World} {base g n c : Nat} {l : List M5} (h : RowM w base g n c l) : l.length = n := by
  have := h.1
  rw [length_flat] at this; omega
theorem RowM.cells {w : World} {base g n c : Nat} {l : List M5} (h : RowM w base g n c l) {i : Nat} {m : M5} (hm : l[i]? = some m) :
    (w.cell? ⟨g, i * 5, none⟩ = some (.int .i64 m.f1) ∧ w.cell? ⟨g, i * 5 + 1, none⟩ = some (.int .i64 m.f2) ∧ w.cell? ⟨g, i * 5 + 2, none⟩ = some (.bool m.xb) ∧ w.cell? ⟨g, i * 5 + 3, none⟩ = some (.string m.s) ∧ w.cell? ⟨g, i * 5 + 4, none⟩ = some (.slice m.a m.k m.c)) ∧ ∀ j, w.frozen? ⟨g, j, none⟩ = false := by
  have hl := (List.getElem?_eq_some_iff.1 hm).1
  have hn := h.len
  obtain ⟨h0, h1, h2, h3, h4⟩ := flat_get hm
  have e : 5 * i = i * 5 := by omega
  rw [e] at h0 h1 h2 h3 h4
  have c : ∀ k, k < 5 → w.cell? ⟨g, i * 5 + k, none⟩ = (flat l)[i * 5 + k]? := fun k hk => World.ownsRow.cellAt h _ (by omega)
  exact ⟨⟨(c 0 (by omega)).trans h0, (c 1 (by omega)).trans h1, (c 2 (by omega)).trans h2, (c 3 (by omega)).trans h3, (c 4 (by omega)).trans h4⟩, fun j => World.ownsRow.frozenAt h j⟩
theorem RowM.below {w W : World} {base g n c : Nat} {l : List M5} (h : RowM w base g n c l) (hb : Below w.heap.size w W) : RowM W base g n c l := owns_below h hb
theorem RowM.lt {w : World} {base g n c : Nat} {l : List M5} (h : RowM w base g n c l) : base ≤ g ∧ g < w.heap.size := World.ownsRow.lt h g rfl
theorem RowM.set {w : World} {base g n c : Nat} {l : List M5} (h : RowM w base g n c l) {i : Nat} (hi : i < n) (m : M5) :
    RowM (((((w.setCell ⟨g, i * 5, none⟩ (.int .i64 m.f1)).setCell ⟨g, i * 5 + 1, none⟩ (.int .i64 m.f2)).setCell ⟨g, i * 5 + 2, none⟩ (.bool m.xb)).setCell ⟨g, i * 5 + 3, none⟩ (.string m.s)).setCell ⟨g, i * 5 + 4, none⟩ (.slice m.a m.k m.c)) base g n c (l.set i m) := by
  have hn := h.len
  have h1 := World.ownsRow.stored h (i * 5) (.int .i64 m.f1)
  have h2 := h1.1.stored (i * 5 + 1) (.int .i64 m.f2)
  have h3 := h2.1.stored (i * 5 + 2) (.bool m.xb)
  have h4 := h3.1.stored (i * 5 + 3) (.string m.s)
  have h5 := h4.1.stored (i * 5 + 4) (.slice m.a m.k m.c)
  have e := flat_set l i m (by omega)
  rw [show 5 * i = i * 5 by omega] at e
  unfold RowM
  rw [← e]
  exact h5.1

theorem below_any5 {B : Nat} {a w : World} (h : Below B a w) {g : Nat} (hg : B ≤ g) (o0 o1 o2 o3 o4 : Nat) (v0 v1 v2 v3 v4 : Value) :
    Below B a (((((w.setCell ⟨g, o0, none⟩ v0).setCell ⟨g, o1, none⟩ v1).setCell ⟨g, o2, none⟩ v2).setCell ⟨g, o3, none⟩ v3).setCell ⟨g, o4, none⟩ v4) :=
  ((((h.setCell (p := ⟨g, o0, none⟩) hg v0).setCell (p := ⟨g, o1, none⟩) hg v1).setCell (p := ⟨g, o2, none⟩) hg v2).setCell (p := ⟨g, o3, none⟩) hg v3).setCell (p := ⟨g, o4, none⟩) hg v4
theorem RowM.drew {w : World} {base g n c : Nat} {l : List M5} (h : RowM w base g n c l) : RowM w.drew base g n c l := World.ownsRow.drew h
theorem owns_drewN {w : World} {base g n c : Nat} {l : List M5} (h : RowM w base g n c l) (k : Nat) : RowM (w.drewN k) base g n c l := h
theorem below_drewN {B : Nat} {a w : World} (h : Below B a w) (k : Nat) : Below B a (w.drewN k) := ⟨h.os, h.tape, h.output, h.size, h.block⟩

set_option maxHeartbeats 3200000 in
theorem ins_w (l : List M5) (base g n c : Nat) (w : World) (hrow : RowM w base g n c l) (hn : n ≤ 1000) (hb : base ≤ w.heap.size) :
    Calls prog 187 #[.slice (some ⟨g, 0, none⟩) n c, .int .i64 0, .int .i64 n, .func (.func 140) #[] #[]] w fun e w' => e = .returned (.tuple #[]) ∧ (∃ l', l'.Perm l ∧ Desc l' n ∧ RowM w' base g n c l') ∧ Below base w w' := by
  go_enter func187, ntmps187
  go_wp2
  go_loopw [8] (fun z wr => ∃ (i : Nat) (l' : List M5), z = .int .i64 i ∧ 1 ≤ i ∧ (i ≤ n ∨ i = 1) ∧ l'.Perm l ∧ Desc l' i ∧ RowM wr base g n c l' ∧ Below base w wr) (fun z _ => n - (numOf' z).toNat)
  case atStart => exact ⟨1, l, rfl, Nat.le_refl _, .inr rfl, List.Perm.refl _, fun p q h1 h2 => by omega, hrow, Below.refl _ _⟩
  case round =>
    clear hrow
    obtain ⟨i, l', rfl, hi1, hin, hperm, hdesc, hrow, hbel⟩ := hrel
    have hnc := hrow.len
    by_cases hlt : i < n
    · go_wp2
      go_loopw [9] (fun z wr => ∃ (j : Nat) (l2 : List M5), z = .int .i64 j ∧ j ≤ i ∧ l2.Perm l ∧ Ins l2 j i ∧ RowM wr base g n c l2 ∧ Below base w wr) (fun z _ => (numOf' z).toNat)
      case atStart => exact ⟨i, l', rfl, Nat.le_refl _, hperm, desc_ins hdesc, hrow, hbel⟩
      case round =>
        clear hrow hbel hperm hdesc hnc
        obtain ⟨j, l2, rfl, hji, hperm, hins, hrow, hbel⟩ := hrel
        have hlen := hrow.len
        cases j with
        | zero =>
          have hd : decide ((0 : Int) < ((0 : Nat) : Int)) = false := rfl
          have hdesc := ins_desc hins (.inl rfl)
          go_wp2_with fail
          go_quiet (fail)
          go_wp2
          go_roundw
          case rel => exact ⟨i + 1, l2, by go_num, by omega, .inl (by omega), hperm, hdesc, owns_drewN hrow _, below_drewN hbel _⟩
          case measure => simp [numOf'] <;> omega
        | succ j =>
          obtain ⟨a, ha⟩ : ∃ a, l2[j]? = some a := ⟨_, List.getElem?_eq_getElem (by omega)⟩
          obtain ⟨b, hb2⟩ : ∃ b, l2[j + 1]? = some b := ⟨_, List.getElem?_eq_getElem (by omega)⟩
          obtain ⟨⟨p0, p1, p2, p3, p4⟩, -⟩ := hrow.cells ha
          obtain ⟨⟨q0, q1, q2, q3, q4⟩, -⟩ := hrow.cells hb2
          have hdr : Below wr.heap.size wr wr.drew := (Below.refl _ _).drew
          have hj1 : j + 1 < n := by omega
          have hd : decide ((0 : Int) < ((j + 1 : Nat) : Int)) = true := by simp
          have i0 : (0 : Int) ≤ (j : Int) := by omega
          have i1 : (j : Int) < (n : Int) := by omega
          have i2 : (0 : Int) ≤ (j : Int) + 1 := by omega
          have i3 : (j : Int) + 1 < (n : Int) := by omega
          have i4 : IntKind.i64.wrap ((j : Int) + 1 - 1) = (j : Int) := by rw [IntWalk.i64_in _ (by omega)]; omega
          have i8 : IntKind.i64.wrap (j : Int) = (j : Int) := IntWalk.i64_in _ (by omega)
          have i5 : ((j : Int) + 1).toNat = j + 1 := by omega
          have i6 : (0 : Int) ≤ ((j + 1 : Nat) : Int) := by omega
          have i7 : ((j + 1 : Nat) : Int) < (n : Int) := by omega
          have hka : key l2 j = a.f1 := by unfold key; rw [ha]; rfl
          have hkb : key l2 (j + 1) = b.f1 := by unfold key; rw [hb2]; rfl
          by_cases hab : a.f1 < b.f1
          · have cC : ∀ W, Calls prog 140 #[.agg #[.int .i64 b.f1, .int .i64 b.f2, .bool b.xb, .string b.s, .slice b.a b.k b.c], .agg #[.int .i64 a.f1, .int .i64 a.f2, .bool a.xb, .string a.s, .slice a.a a.k a.c]] W fun e w' => e = .returned (.int .i64 (-1)) ∧ Below W.heap.size W w' := fun W => by
              have := cmp140 b a W
              rw [show cmpI a.f1 b.f1 = -1 from if_pos hab] at this; exact this
            have HI : Hid (Ins (swapM l2 (j + 1) a b) j i) := Lib.hid (by have := ins_swap (j := j + 1) (by omega) hji (by simpa using ha) hb2 hins (by simpa [hka, hkb] using hab); simpa using this)
            have HP : Hid ((swapM l2 (j + 1) a b).Perm l) := Lib.hid ((perm_swapM (j := j + 1) (by omega) (by simpa using ha) hb2).trans hperm)
            clear hka hkb hins hperm hab
            go_wp2_with fail
            go_region_held3 (fun W => W.cell? ⟨g, j * 5, none⟩ = some (.int .i64 a.f1) ∧ W.cell? ⟨g, j * 5 + 1, none⟩ = some (.int .i64 a.f2) ∧ W.cell? ⟨g, j * 5 + 2, none⟩ = some (.bool a.xb) ∧ W.cell? ⟨g, j * 5 + 3, none⟩ = some (.string a.s) ∧ W.cell? ⟨g, j * 5 + 4, none⟩ = some (.slice a.a a.k a.c) ∧ W.cell? ⟨g, (j + 1) * 5, none⟩ = some (.int .i64 b.f1) ∧ W.cell? ⟨g, (j + 1) * 5 + 1, none⟩ = some (.int .i64 b.f2) ∧ W.cell? ⟨g, (j + 1) * 5 + 2, none⟩ = some (.bool b.xb) ∧ W.cell? ⟨g, (j + 1) * 5 + 3, none⟩ = some (.string b.s) ∧ W.cell? ⟨g, (j + 1) * 5 + 4, none⟩ = some (.slice b.a b.k b.c) ∧ Below wr.heap.size wr W)
              (go_keep)
              (first
                | (go_at_call 140; refine Calls.mono (cC _) ?_; rintro e W ⟨rfl, hkk⟩; have hbk := Below.trans (B := wr.heap.size) (a := wr) (by assumption) (Below.mono hkk (Below.size (B := wr.heap.size) (w := wr) (by assumption))); obtain ⟨⟨p0, p1, p2, p3, p4⟩, -⟩ := (hrow.below hbk).cells ha; obtain ⟨⟨q0, q1, q2, q3, q4⟩, -⟩ := (hrow.below hbk).cells hb2))
            have hrow2 := hrow.below hbk
            have hbel2 := hbel.trans (hbk.mono (Nat.le_trans hb hbel.size))
            clear hrow hbel p0 p1 p2 p3 p4 q0 q1 q2 q3 q4
            obtain ⟨⟨p0, p1, p2, p3, p4⟩, fz⟩ := hrow2.cells ha
            obtain ⟨⟨q0, q1, q2, q3, q4⟩, -⟩ := hrow2.cells hb2
            have hs1 := hrow2.set (i := j + 1) hj1 a
            have ha1 : (l2.set (j + 1) a)[j]? = some a := by rw [List.getElem?_set, if_neg (by omega)]; exact ha
            have hs2 := hs1.set (i := j) (by omega) b
            have hsw : RowM _ base g n c (swapM l2 (j + 1) a b) := hs2
            obtain ⟨⟨p0', p1', p2', p3', p4'⟩, fz'⟩ := hs1.cells ha1
            have f0 := fz ((j + 1) * 5)
            have f1 := fz ((j + 1) * 5 + 1)
            have f2 := fz ((j + 1) * 5 + 2)
            have f3 := fz ((j + 1) * 5 + 3)
            have f4 := fz ((j + 1) * 5 + 4)
            have g0 := fz' (j * 5)
            have g1 := fz' (j * 5 + 1)
            have g2 := fz' (j * 5 + 2)
            have g3 := fz' (j * 5 + 3)
            have g4 := fz' (j * 5 + 4)
            have hbs := (below_any5 (below_any5 hbel2 hrow2.lt.1 ((j + 1) * 5) ((j + 1) * 5 + 1) ((j + 1) * 5 + 2) ((j + 1) * 5 + 3) ((j + 1) * 5 + 4) (.int .i64 a.f1) (.int .i64 a.f2) (.bool a.xb) (.string a.s) (.slice a.a a.k a.c)) hrow2.lt.1 (j * 5) (j * 5 + 1) (j * 5 + 2) (j * 5 + 3) (j * 5 + 4) (.int .i64 b.f1) (.int .i64 b.f2) (.bool b.xb) (.string b.s) (.slice b.a b.k b.c)).drew
            clear fz fz' hs1 hs2 hlen hd
            go_wp2_with fail
            go_region
            go_wp2
            go_roundw
            case rel =>
              exact ⟨j, swapM l2 (j + 1) a b, by go_num, by omega, HP.out, HI.out, hsw.drew, hbs⟩
            case measure => simp [numOf'] <;> omega
          · obtain ⟨v, hv, hv0⟩ : ∃ v, cmpI a.f1 b.f1 = v ∧ 0 ≤ v := ⟨_, rfl, by have := @cmp_neg a.f1 b.f1; omega⟩
            have cC : ∀ W, Calls prog 140 #[.agg #[.int .i64 b.f1, .int .i64 b.f2, .bool b.xb, .string b.s, .slice b.a b.k b.c], .agg #[.int .i64 a.f1, .int .i64 a.f2, .bool a.xb, .string a.s, .slice a.a a.k a.c]] W fun e w' => e = .returned (.int .i64 v) ∧ Below W.heap.size W w' := fun W => by
              have := cmp140 b a W
              rw [hv] at this; exact this
            have hdesc := ins_desc hins (.inr (by simpa [hka, hkb] using hab))
            clear hka hkb hins hab hv
            go_wp2_with fail
            go_region_held3 (fun W => W.cell? ⟨g, j * 5, none⟩ = some (.int .i64 a.f1) ∧ W.cell? ⟨g, j * 5 + 1, none⟩ = some (.int .i64 a.f2) ∧ W.cell? ⟨g, j * 5 + 2, none⟩ = some (.bool a.xb) ∧ W.cell? ⟨g, j * 5 + 3, none⟩ = some (.string a.s) ∧ W.cell? ⟨g, j * 5 + 4, none⟩ = some (.slice a.a a.k a.c) ∧ W.cell? ⟨g, (j + 1) * 5, none⟩ = some (.int .i64 b.f1) ∧ W.cell? ⟨g, (j + 1) * 5 + 1, none⟩ = some (.int .i64 b.f2) ∧ W.cell? ⟨g, (j + 1) * 5 + 2, none⟩ = some (.bool b.xb) ∧ W.cell? ⟨g, (j + 1) * 5 + 3, none⟩ = some (.string b.s) ∧ W.cell? ⟨g, (j + 1) * 5 + 4, none⟩ = some (.slice b.a b.k b.c) ∧ Below wr.heap.size wr W)
              (go_keep)
              (first
                | (go_at_call 140; refine Calls.mono (cC _) ?_; rintro e W ⟨rfl, hkk⟩; have hbk := Below.trans (B := wr.heap.size) (a := wr) (by assumption) (Below.mono hkk (Below.size (B := wr.heap.size) (w := wr) (by assumption))); obtain ⟨⟨p0, p1, p2, p3, p4⟩, -⟩ := (hrow.below hbk).cells ha; obtain ⟨⟨q0, q1, q2, q3, q4⟩, -⟩ := (hrow.below hbk).cells hb2))
            have hrow2 := hrow.below hbk
            have hbel2 := hbel.trans (hbk.mono (Nat.le_trans hb hbel.size))
            go_wp2
            go_roundw
            case rel => exact ⟨i + 1, l2, by go_num, by omega, .inl (by omega), hperm, hdesc, hrow2, hbel2⟩
            case measure => simp [numOf'] <;> omega
    · go_wp2
      have hni : n ≤ i := by omega
      go_end0
      exact ⟨rfl, ⟨l', hperm, fun p q h1 h2 => hdesc p q h1 (by omega), hrow⟩, hbel⟩
end Go.Proofs.Tryz

namespace Go.Proofs.Tryz
open Go Go.Am Go.RowKit Go.Dr
set_option maxRecDepth 100000

theorem stable_w (l : List M5) (base g n c : Nat) (w : World) (hrow : RowM w base g n c l) (hn : n ≤ 19) (hb : base ≤ w.heap.size) :
    Calls prog 164 #[.slice (some ⟨g, 0, none⟩) n c, .int .i64 n, .func (.func 140) #[] #[]] w fun e w' => e = .returned (.tuple #[]) ∧ (∃ l', l'.Perm l ∧ Desc l' n ∧ RowM w' base g n c l') ∧ Below base w w' := by
  have cI := ins_w l base g n c w hrow (by omega) hb
  have h1 : ¬ (20 : Int) ≤ (n : Int) := by omega
  have h2 : ¬ (20 : Int) < (n : Int) := by omega
  go_enter func164, ntmps164
  go_wp2
  refine wp_loop_rounds 1 ?_
  rw [rounds_succ]
  go_wp2_with fail
  go_at_call 187
  refine cI.mono ?_
  rintro e w2 ⟨rfl, hl, hbel⟩
  go_wp2
  refine wp_loop_rounds 1 ?_
  rw [rounds_succ]
  go_wp2
  go_end0
  exact ⟨rfl, hl, hbel⟩
theorem sort_w (l : List M5) (base g n c : Nat) (w : World) (hrow : RowM w base g n c l) (hn : n ≤ 19) (hb : base ≤ w.heap.size) :
    Calls prog 139 #[.slice (some ⟨g, 0, none⟩) n c, .func (.func 140) #[] #[]] w fun e w' => e = .returned (.tuple #[]) ∧ (∃ l', l'.Perm l ∧ Desc l' n ∧ RowM w' base g n c l') ∧ Below base w w' := by
  have cI := stable_w l base g n c w hrow hn hb
  go_enter func139, ntmps139
  go_wp2_with fail
  go_at_call 164
  refine cI.mono ?_
  rintro e w2 ⟨rfl, hl, hbel⟩
  go_wp2
  go_end0
  exact ⟨rfl, hl, hbel⟩
theorem sort_0 (a : Option Addr) (c : Nat) (w : World) : Calls prog 139 #[.slice a 0 c, .func (.func 140) #[] #[]] w fun e w' => e = .returned (.tuple #[]) ∧ Below w.heap.size w w' := by
  have c187 : ∀ W, Calls prog 187 #[.slice a 0 c, .int .i64 0, .int .i64 0, .func (.func 140) #[] #[]] W fun e w' => e = .returned (.tuple #[]) ∧ w' = W := fun W => by
    go_enter func187, ntmps187
    go_wp2
    refine wp_loop_rounds 1 ?_
    rw [rounds_succ]
    go_wp2
    go_end0
    exact ⟨rfl, rfl⟩
  have c164 : ∀ W, Calls prog 164 #[.slice a 0 c, .int .i64 0, .func (.func 140) #[] #[]] W fun e w' => e = .returned (.tuple #[]) ∧ w' = W := fun W => by
    go_enter func164, ntmps164
    go_wp2
    refine wp_loop_rounds 1 ?_
    rw [rounds_succ]
    go_wp2_with fail
    go_at_call 187
    refine (c187 _).mono ?_
    rintro e w2 ⟨rfl, rfl⟩
    go_wp2
    refine wp_loop_rounds 1 ?_
    rw [rounds_succ]
    go_wp2
    go_end0
    exact ⟨rfl, rfl⟩
  go_enter func139, ntmps139
  go_wp2_with fail
  go_at_call 164
  refine (c164 _).mono ?_
  rintro e w2 ⟨rfl, rfl⟩
  go_wp2
  go_end0
  exact ⟨rfl, Below.refl _ _⟩
end Go.Proofs.Tryz
