/- Comparisons of rows and moves: whatever they hold, by the kit's walk. Two rows of moves, two plays, compared: by the kit's walk. canonical of the program, its sizes being right: by the kit's walk. SamePlay of the reference; Canonical and Equal of the program: by the kit's walk. SamePlay and Equal in full. -/
import Derived.Test.YthlmjjdlmidnlaaGreatDoorAsOfu
import Derived.Test.YthlmjjdlmidnlaaGreatDoorArVau
import Derived.Deep.RegionHeld3
import Derived.Deep.RegionWith
import Derived.Deep.DeepCutAuto
import Derived.BigRegion
import Derived.Deep.QuietTactic
import Derived.BigQuiet
namespace Go.Proofs.Tryz
open Go Go.Am Go.RowKit Go.Dr
set_option maxRecDepth 100000

theorem intsL_eq {t t' : Int → Int} {o o' : Int} {m : Nat} : (intsL t o m == intsL t' o' m) = true ↔ ∀ j : Nat, j < m → t (o + j) = t' (o' + j) := by
  rw [beq_iff_eq]
  constructor
  · intro h j hj
    have := congrArg (fun l => l[j]?) h
    simp only [intsL_get hj, Option.some.injEq] at this
    exact this
  · intro h
    apply List.ext_getElem?
    intro j
    by_cases hj : j < m
    · rw [intsL_get hj, intsL_get hj, h j hj]
    · rw [List.getElem?_eq_none (by rw [length_intsL]; omega), List.getElem?_eq_none (by rw [length_intsL]; omega)]
theorem intsL_ne {t t' : Int → Int} {o o' : Int} {m j : Nat} (hj : j < m) (h : t (o + j) ≠ t' (o' + j)) : (intsL t o m == intsL t' o' m) = false := by
  cases hq : intsL t o m == intsL t' o' m with
  | false => rfl
  | true => exact absurd (intsL_eq.1 hq j hj) h
theorem intsL_len {t t' : Int → Int} {o o' : Int} {m m' : Nat} (h : m ≠ m') : (intsL t o m == intsL t' o' m') = false := by
  cases hq : intsL t o m == intsL t' o' m' with
  | false => rfl
  | true =>
    have := congrArg List.length (beq_iff_eq.1 hq)
    rw [length_intsL, length_intsL] at this
    exact absurd this h

/-- Two moves' cells, compared; the touches' answer last. -/
def sameB (a b : M5) (r : Bool) : Bool := decide (a.f1 = b.f1) && decide (a.f2 = b.f2) && (a.xb == b.xb) && (a.s.toList == b.s.toList) && r

theorem same66_len (a1 a2 : Option Addr) (n m c1 c2 : Nat) (hne : n ≠ m) (w : World) : Calls prog 66 #[.slice a1 n c1, .slice a2 m c2] w fun e w' => e = .returned (.bool false) ∧ Below w.heap.size w w' := by
  have hne' : (n : Int) ≠ (m : Int) := by omega
  go_enter func66, ntmps66
  go_wp2
  go_ret
  exact ⟨rfl, Below.refl _ _⟩
theorem same66_0 (a1 a2 : Option Addr) (c1 c2 : Nat) (w : World) : Calls prog 66 #[.slice a1 0 c1, .slice a2 0 c2] w fun e w' => e = .returned (.bool true) ∧ Below w.heap.size w w' := by
  go_enter func66, ntmps66
  go_wp2
  refine wp_loop_rounds 1 ?_
  rw [rounds_succ]
  go_wp2
  go_ret
  exact ⟨rfl, Below.refl _ _⟩
theorem same66_some (b1 o1 b2 o2 m c1 c2 : Nat) (t t' : Int → Int) (o o' : Int) (w : World) (hm : m ≤ 1000000) (h1 : ∀ j, j < m → w.cell? ⟨b1, o1 + j, none⟩ = some (.int .i64 (t (o + (j : Int))))) (h2 : ∀ j, j < m → w.cell? ⟨b2, o2 + j, none⟩ = some (.int .i64 (t' (o' + (j : Int))))) :
    Calls prog 66 #[.slice (some ⟨b1, o1, none⟩) m c1, .slice (some ⟨b2, o2, none⟩) m c2] w fun e w' => e = .returned (.bool (intsL t o m == intsL t' o' m)) ∧ Below w.heap.size w w' := by
  obtain ⟨r, hr⟩ : ∃ r, (intsL t o m == intsL t' o' m) = r := ⟨_, rfl⟩
  have HR : Hid ((intsL t o m == intsL t' o' m) = r) := Lib.hid hr
  rw [hr]
  clear hr
  go_enter func66, ntmps66
  go_wp2
  go_loopw [5] (fun c wr => ∃ k : Nat, k ≤ m ∧ c = .int .i64 k ∧ (∀ j : Nat, j < k → t (o + j) = t' (o' + j)) ∧ Below w.heap.size w wr) (fun c _ => m - (numOf' c).toNat)
  case atStart => exact ⟨0, Nat.zero_le _, rfl, fun j hj => absurd hj (Nat.not_lt_zero _), Below.refl _ _⟩
  case round =>
    obtain ⟨k, hk, rfl, hall, hbel⟩ := hrel
    by_cases hlt : k < m
    · have e1 : wr.cell? ⟨b1, o1 + k, none⟩ = some (.int .i64 (t (o + (k : Int)))) := (hbel.cell (cell_under (h1 k hlt))).trans (h1 k hlt)
      have e2 : wr.cell? ⟨b2, o2 + k, none⟩ = some (.int .i64 (t' (o' + (k : Int)))) := (hbel.cell (cell_under (h2 k hlt))).trans (h2 k hlt)
      clear h1 h2
      by_cases hx : t (o + (k : Int)) = t' (o' + (k : Int))
      · have hall' : Hid (∀ j : Nat, j < k + 1 → t (o + j) = t' (o' + j)) := Lib.hid fun j hj => by
          by_cases e : j = k
          · subst e; exact hx
          · exact hall j (by omega)
        obtain ⟨z, hz⟩ : ∃ z, t' (o' + (k : Int)) = z := ⟨_, rfl⟩
        rw [hx, hz] at e1
        rw [hz] at e2
        clear hall hx hz
        go_wp2
        go_region
        go_wp2
        go_roundw
        case rel => exact ⟨k + 1, by omega, by go_num, hall'.out, hbel.drew⟩
        case measure => simp [numOf'] <;> omega
      · have hf : r = false := by rw [← HR.out]; exact intsL_ne hlt hx
        subst hf
        obtain ⟨z, hz⟩ : ∃ z, t (o + (k : Int)) = z := ⟨_, rfl⟩
        obtain ⟨z', hz'⟩ : ∃ z, t' (o' + (k : Int)) = z := ⟨_, rfl⟩
        rw [hz] at e1 hx
        rw [hz'] at e2 hx
        clear hall hz hz'
        go_wp2
        go_region
        go_wp2
        go_ret
        exact ⟨rfl, hbel.drew⟩
    · obtain rfl : k = m := by omega
      have ht : r = true := by rw [← HR.out]; exact intsL_eq.2 hall
      subst ht
      clear hall h1 h2
      go_wp2
      go_ret
      exact ⟨rfl, hbel⟩
theorem same66_any {a b : Value} {t t' : Int → Int} {o o' n n' : Int} {w : World} (h1 : IsInts w a t o n) (h2 : IsInts w b t' o' n') (hn : n ≤ 1000000) : Calls prog 66 #[a, b] w fun e w' => e = .returned (.bool (intsL t o n.toNat == intsL t' o' n'.toNat)) ∧ Below w.heap.size w w' := by
  obtain ⟨a1, m1, c1, rfl, k1, rfl, k3⟩ := h1
  obtain ⟨a2, m2, c2, rfl, q1, rfl, q3⟩ := h2
  rw [Int.toNat_natCast, Int.toNat_natCast]
  by_cases he : m1 = m2
  · subst he
    by_cases hm : m1 = 0
    · subst hm; exact same66_0 _ _ _ _ _
    · obtain ⟨b1, o1, rfl, f1⟩ := k3 hm
      obtain ⟨b2, o2, rfl, f2⟩ := q3 hm
      exact same66_some b1 o1 b2 o2 m1 c1 c2 t t' o o' w (by omega) f1 f2
  · rw [intsL_len he]
    exact same66_len _ _ _ _ _ _ he _

theorem move36_b (a b : M5) (r : Bool) (w : World) (hc : ∀ W, Below w.heap.size w W → Calls prog 66 #[.slice a.a a.k a.c, .slice b.a b.k b.c] W fun e w' => e = .returned (.bool r) ∧ Below W.heap.size W w') :
    Calls prog 36 #[.agg #[.int .i64 a.f1, .int .i64 a.f2, .bool a.xb, .string a.s, .slice a.a a.k a.c], .agg #[.int .i64 b.f1, .int .i64 b.f2, .bool b.xb, .string b.s, .slice b.a b.k b.c]] w fun e w' => e = .returned (.bool (sameB a b r)) ∧ Below w.heap.size w w' := by
  obtain ⟨f1, f2, xb, s, aa, ak, ac⟩ := a
  obtain ⟨g1, g2, yb, z, ba, bk, bc⟩ := b
  dsimp only at hc ⊢
  have hB : Below w.heap.size w ((w.alloc (.cells #[.int .i64 f1, .int .i64 f2, .bool xb, .string s, .slice aa ak ac] 27)).alloc (.cells #[.int .i64 g1, .int .i64 g2, .bool yb, .string z, .slice ba bk bc] 27)) := ((Below.refl _ _).alloc (Nat.le_refl _) _).alloc (by simp) _
  have cS := hc _ hB
  unfold sameB
  dsimp only
  clear hc
  by_cases h1 : f1 = g1
  case neg =>
    have e : (decide (f1 = g1) && decide (f2 = g2) && (xb == yb) && (s.toList == z.toList) && r) = false := by simp [h1]
    rw [e]
    clear e
    go_enter func36, ntmps36
    go_wp2
    go_ret
    exact ⟨rfl, hB⟩
  by_cases h2 : f2 = g2
  case neg =>
    have e : (decide (f1 = g1) && decide (f2 = g2) && (xb == yb) && (s.toList == z.toList) && r) = false := by simp [h2]
    rw [e]
    clear e
    subst h1
    go_enter func36, ntmps36
    go_wp2
    go_ret
    exact ⟨rfl, hB⟩
  by_cases h3 : xb = yb
  case neg =>
    have e : (decide (f1 = g1) && decide (f2 = g2) && (xb == yb) && (s.toList == z.toList) && r) = false := by simp [h3]
    rw [e]
    clear e
    subst h1 h2
    go_enter func36, ntmps36
    cases xb <;> cases yb <;> first | exact absurd rfl h3 | (go_wp2; go_ret; exact ⟨rfl, hB⟩)
  cases h4 : (s.toList == z.toList)
  case false =>
    have e : (decide (f1 = g1) && decide (f2 = g2) && (xb == yb) && false && r) = false := by simp
    rw [e]
    clear e
    subst h1 h2 h3
    go_enter func36, ntmps36
    cases xb <;> (go_wp2; go_ret; exact ⟨rfl, hB⟩)
  case true =>
    have e : (decide (f1 = g1) && decide (f2 = g2) && (xb == yb) && true && r) = r := by simp [h1, h2, h3]
    rw [e]
    clear e
    subst h1 h2 h3
    go_enter func36, ntmps36
    cases xb <;>
    · go_wp2_with (first
        | (go_at_call 66; refine cS.mono ?_; rintro e w2 ⟨rfl, hk2⟩)
        | go_in)
      go_ret
      exact ⟨rfl, hB.trans (hk2.mono (by rw [size2]; omega))⟩

end Go.Proofs.Tryz

namespace Go.Proofs.Tryz
open Go Go.Am Go.RowKit Go.Dr
set_option maxRecDepth 100000

/-- The bytes of a string's data. -/
def strL (y : Int → Int) (o n : Int) : List UInt8 := (List.range n.toNat).map fun (j : Nat) => UInt8.ofNat (y (o + (j : Int))).toNat
theorem str_list {s : ByteArray} {y : Int → Int} {o n : Int} (h : IsStr (.string s) y o n) : s.toList = strL y o n := by
  obtain ⟨l, e, h1, h2⟩ := h
  cases e
  rw [Lib.toList_data]
  show l = _
  subst h1
  apply List.ext_getElem?
  intro j
  unfold strL
  rw [Int.toNat_natCast]
  by_cases hj : j < l.length
  · have := h2 j l[j] (List.getElem?_eq_getElem hj)
    rw [List.getElem?_eq_getElem hj]
    simp only [List.getElem?_map, List.getElem?_range hj, Option.map_some, Option.some.injEq]
    rw [← this, Int.toNat_natCast]
    apply UInt8.toNat.inj
    rw [UInt8.toNat_ofNat']
    have := UInt8.toNat_lt l[j]
    omega
  · rw [List.getElem?_eq_none (by omega), List.getElem?_eq_none (by simp; omega)]

/-- Two moves are the same. -/
def sameMD (a b : MvD) : Bool := decide (a.fr = b.fr) && decide (a.to = b.to) && (decide (a.x ≠ 0) == decide (b.x ≠ 0)) && (strL a.y a.so a.sn == strL b.y b.so b.sn) && (tchs a == tchs b)
theorem sameB_eq {w : World} {c c' : M5} {m m' : MvD} (h : M5Ok w c m) (h' : M5Ok w c' m') : sameB c c' (tchs m == tchs m') = sameMD m m' := by
  unfold sameB sameMD
  rw [h.1, h.2.1, h.2.2.1, h'.1, h'.2.1, h'.2.2.1, str_list h.2.2.2.1, str_list h'.2.2.2.1]
def allK (p : Nat → Bool) : Nat → Bool
  | 0 => true
  | i + 1 => allK p i && p i
theorem allK_no {p : Nat → Bool} {i n : Nat} (hi : i < n) (h : p i = false) : allK p n = false := by
  induction n with
  | zero => omega
  | succ n ih =>
    rw [allK]
    by_cases e : i = n
    · subst e; rw [h, Bool.and_false]
    · rw [ih (by omega), Bool.false_and]
/-- Two rows of moves are the same. -/
def sameN (d : Nat → MvD) (n : Nat) (d' : Nat → MvD) (n' : Nat) : Bool := decide (n = n') && allK (fun i => sameMD (d i) (d' i)) n

theorem m5_row {w : World} {ad : Option Addr} {n c : Nat} {d : Nat → MvD} (hm : IsMoves w (.slice ad n c) d n) (h0 : n ≠ 0) :
    ∃ b off, ad = some ⟨b, off, none⟩ ∧ n ≤ c ∧ ∃ f : Nat → M5, (∀ i, i < n → M5Ok w (f i) (d i)) ∧ ∀ i, i < n → (w.cell? ⟨b, off + i * 5, none⟩ = some (.int .i64 (f i).f1) ∧ w.cell? ⟨b, off + i * 5 + 1, none⟩ = some (.int .i64 (f i).f2) ∧ w.cell? ⟨b, off + i * 5 + 2, none⟩ = some (.bool (f i).xb) ∧ w.cell? ⟨b, off + i * 5 + 3, none⟩ = some (.string (f i).s) ∧ w.cell? ⟨b, off + i * 5 + 4, none⟩ = some (.slice (f i).a (f i).k (f i).c)) := by
  obtain ⟨a1, c1, e1, hnc, hM0⟩ := hm
  simp only [Value.slice.injEq, true_and] at e1
  obtain ⟨rfl, rfl⟩ := e1
  obtain ⟨b, off, rfl, hM⟩ := hM0 h0
  obtain ⟨f, hf⟩ := m5_of hM
  refine ⟨b, off, rfl, hnc, f, fun i hi => (hf i hi).2, fun i hi => ?_⟩
  have hc := (hf i hi).1
  rw [show off + 5 * i = off + i * 5 by omega] at hc
  simp only [cellsAt, M5.vals, List.map_cons, List.map_nil, List.cons.injEq, and_true] at hc
  exact hc
theorem cell_b {w W : World} {B : Nat} {a : Addr} {v : Value} (h : w.cell? a = some v) (hb : Below B w W) (hB : a.block < B) : W.cell? a = some v := by
  rw [hb.cell hB]; exact h

section
variable {w : World} {d d' : Nat → MvD} {n n' c c' : Nat} {ad ad' : Option Addr}
end
end Go.Proofs.Tryz

namespace Go.Proofs.Tryz
open Go Go.Am Go.RowKit Go.Dr
set_option maxRecDepth 100000

section
variable {w : World} {y0 y1 : Int → Int} {yo yn eo en : Int} {lx : Bool} {d : Nat → MvD} {n : Nat} {s1 s2 : ByteArray} {ad : Option Addr} {c : Nat}
end
end Go.Proofs.Tryz

namespace Go.Proofs.Tryz
open Go Go.Am Go.RowKit Go.Dr
set_option maxRecDepth 100000

section
variable {w : World} {E : Int} {P : PlD} {s1 s2 : ByteArray} {lx : Bool} {ad : Option Addr} {n c : Nat}
end

section
variable {w : World} {s1 s2 z1 z2 : ByteArray} {lx zx : Bool} {d d' : Nat → MvD} {n n' c c' : Nat} {ad ad' : Option Addr}
/-- Two plays with the same strings. -/
def headB (s1 s2 z1 z2 : ByteArray) (lx zx : Bool) (n n' : Nat) : Bool := (s1.toList == z1.toList) && (s2.toList == z2.toList) && (lx == zx) && decide (n = n')
theorem sp_no (h : headB s1 s2 z1 z2 lx zx n n' = false) : Calls prog 25 #[.agg #[.string s1, .string s2, .bool lx, .slice ad n c], .agg #[.string z1, .string z2, .bool zx, .slice ad' n' c']] w fun e w' => e = .returned (.bool false) ∧ Below w.heap.size w w' := by
  have hB : Below w.heap.size w ((w.alloc (.cells #[.string s1, .string s2, .bool lx, .slice ad n c] 24)).alloc (.cells #[.string z1, .string z2, .bool zx, .slice ad' n' c'] 24)) := ((Below.refl _ _).alloc (Nat.le_refl _) _).alloc (by simp) _
  unfold headB at h
  cases h1 : (s1.toList == z1.toList) with
  | false =>
    clear h
    go_enter func25, ntmps25
    go_wp2
    go_ret
    exact ⟨rfl, hB⟩
  | true =>
    cases h2 : (s2.toList == z2.toList) with
    | false =>
      clear h
      go_enter func25, ntmps25
      go_wp2
      go_ret
      exact ⟨rfl, hB⟩
    | true =>
      by_cases h3 : lx = zx
      · subst h3
        have hn : (n : Int) ≠ (n' : Int) := by
          rw [h1, h2] at h
          simp at h
          omega
        clear h
        go_enter func25, ntmps25
        cases lx <;> (go_wp2; go_ret; exact ⟨rfl, hB⟩)
      · clear h
        go_enter func25, ntmps25
        cases lx <;> cases zx <;> first | exact absurd rfl h3 | (go_wp2; go_ret; exact ⟨rfl, hB⟩)
set_option maxHeartbeats 3200000 in
theorem sp_go (hm : IsMoves w (.slice ad n c) d n) (hm' : IsMoves w (.slice ad' n c') d' n) (hn : n ≤ 1000000) (hb : ∀ i, i < n → (d i).bn ≤ 1000000) (h1 : (s1.toList == z1.toList) = true) (h2 : (s2.toList == z2.toList) = true) :
    Calls prog 25 #[.agg #[.string s1, .string s2, .bool lx, .slice ad n c], .agg #[.string z1, .string z2, .bool lx, .slice ad' n c']] w fun e w' => e = .returned (.bool (allK (fun i => sameMD (d i) (d' i)) n)) ∧ Below w.heap.size w w' := by
  have hB : Below w.heap.size w ((w.alloc (.cells #[.string s1, .string s2, .bool lx, .slice ad n c] 24)).alloc (.cells #[.string z1, .string z2, .bool lx, .slice ad' n c'] 24)) := ((Below.refl _ _).alloc (Nat.le_refl _) _).alloc (by simp) _
  have hx0 := at2_0 w #[.string s1, .string s2, .bool lx, .slice ad n c] #[.string z1, .string z2, .bool lx, .slice ad' n c'] 24 24
  have hy0 := at2_1 w #[.string s1, .string s2, .bool lx, .slice ad n c] #[.string z1, .string z2, .bool lx, .slice ad' n c'] 24 24
  by_cases h0 : n = 0
  · subst h0
    go_enter func25, ntmps25
    cases lx <;>
    · go_wp2
      refine wp_loop_rounds 1 ?_
      rw [rounds_succ]
      go_wp2
      go_ret
      exact ⟨rfl, hB⟩
  obtain ⟨r, hr⟩ : ∃ r, allK (fun i => sameMD (d i) (d' i)) n = r := ⟨_, rfl⟩
  have HR : Hid (allK (fun i => sameMD (d i) (d' i)) n = r) := Lib.hid hr
  rw [hr]
  obtain ⟨b, off, rfl, hnc, f, hf, hc1⟩ := m5_row hm h0
  obtain ⟨b', off', rfl, hnc', f', hf', hc2⟩ := m5_row hm' h0
  clear hr hm hm'
  go_enter func25, ntmps25
  obtain ⟨xb, hxb⟩ : ∃ xb, lx = xb := ⟨_, rfl⟩
  rw [hxb] at hx0 hy0 hB ⊢
  clear hxb
  have hxx : (xb == xb) = true := by simp
  have hxn : (xb != xb) = false := by simp
  have hxd : decide (xb = xb) = true := by simp
  go_wp2
  go_loopw [5] (fun z wr => ∃ i : Nat, i ≤ n ∧ z = .int .i64 i ∧ allK (fun i => sameMD (d i) (d' i)) i = true ∧ At wr w.heap.size #[.string s1, .string s2, .bool xb, .slice (some ⟨b, off, none⟩) n c] 24 ∧ At wr (w.heap.size + 1) #[.string z1, .string z2, .bool xb, .slice (some ⟨b', off', none⟩) n c'] 24 ∧ Below w.heap.size w wr) (fun z _ => n - (numOf' z).toNat)
  case atStart => exact ⟨0, Nat.zero_le _, rfl, rfl, hx0, hy0, hB⟩
  case round =>
    clear hx0 hy0 hB
    obtain ⟨i, hi, rfl, hall, hx, hy, hbel⟩ := hrel
    obtain ⟨⟨-, -, -, x3⟩, -⟩ := box4 hx
    obtain ⟨⟨-, -, -, y3⟩, -⟩ := box4 hy
    by_cases hin : i < n
    · have h1 := hf i hin
      have h2 := hf' i hin
      obtain ⟨p0, p1, p2, p3, p4⟩ := hc1 i hin
      obtain ⟨q0, q1, q2, q3, q4⟩ := hc2 i hin
      have hs := sameB_eq h1 h2
      have cT : ∀ W, Below w.heap.size w W → Calls prog 66 #[.slice (f i).a (f i).k (f i).c, .slice (f' i).a (f' i).k (f' i).c] W fun e w' => e = .returned (.bool (tchs (d i) == tchs (d' i))) ∧ Below W.heap.size W w' := fun W hW => same66_any (h1.below hW).2.2.2.2 (h2.below hW).2.2.2.2 (hb i hin)
      have hcel : ∀ {b o : Nat} {v : Value}, w.cell? ⟨b, o, none⟩ = some v → ∀ {W}, Below w.heap.size w W → W.cell? ⟨b, o, none⟩ = some v := fun h _ hW => cell_b h hW (cell_under h)
      have CP : Hid (∀ W, Below w.heap.size w W → (W.cell? ⟨b, off + i * 5, none⟩ = some (.int .i64 (f i).f1) ∧ W.cell? ⟨b, off + i * 5 + 1, none⟩ = some (.int .i64 (f i).f2) ∧ W.cell? ⟨b, off + i * 5 + 2, none⟩ = some (.bool (f i).xb) ∧ W.cell? ⟨b, off + i * 5 + 3, none⟩ = some (.string (f i).s) ∧ W.cell? ⟨b, off + i * 5 + 4, none⟩ = some (.slice (f i).a (f i).k (f i).c)) ∧
          (W.cell? ⟨b', off' + i * 5, none⟩ = some (.int .i64 (f' i).f1) ∧ W.cell? ⟨b', off' + i * 5 + 1, none⟩ = some (.int .i64 (f' i).f2) ∧ W.cell? ⟨b', off' + i * 5 + 2, none⟩ = some (.bool (f' i).xb) ∧ W.cell? ⟨b', off' + i * 5 + 3, none⟩ = some (.string (f' i).s) ∧ W.cell? ⟨b', off' + i * 5 + 4, none⟩ = some (.slice (f' i).a (f' i).k (f' i).c))) :=
        Lib.hid fun W hW => ⟨⟨hcel p0 hW, hcel p1 hW, hcel p2 hW, hcel p3 hW, hcel p4 hW⟩, hcel q0 hW, hcel q1 hW, hcel q2 hW, hcel q3 hW, hcel q4 hW⟩
      clear p0 p1 p2 p3 p4 q0 q1 q2 q3 q4
      generalize f i = m at CP cT hs
      generalize f' i = m' at CP cT hs
      have cM : ∀ W, Below w.heap.size w W → Calls prog 36 #[.agg #[.int .i64 m.f1, .int .i64 m.f2, .bool m.xb, .string m.s, .slice m.a m.k m.c], .agg #[.int .i64 m'.f1, .int .i64 m'.f2, .bool m'.xb, .string m'.s, .slice m'.a m'.k m'.c]] W fun e w' => e = .returned (.bool (sameMD (d i) (d' i))) ∧ Below W.heap.size W w' := fun W hW => by
        have := move36_b m m' (tchs (d i) == tchs (d' i)) W (fun W' hW' => cT W' (hW.trans (hW'.mono hW.size)))
        rw [hs] at this
        exact this
      clear hc1 hc2 hf hf' h1 h2 hcel hb hs cT
      have i0 : (0 : Int) ≤ (i : Int) := by omega
      have i1 : (i : Int) < (n : Int) := by omega
      have hdr : Below wr.heap.size wr wr.drew := (Below.refl _ _).drew
      obtain ⟨⟨p0, p1, p2, p3, p4⟩, q0, q1, q2, q3, q4⟩ := CP.out wr hbel
      obtain ⟨sm, hsm⟩ : ∃ sm, sameMD (d i) (d' i) = sm := ⟨_, rfl⟩
      rw [hsm] at cM
      have HS : Hid (sameMD (d i) (d' i) = sm) := Lib.hid hsm
      have HA : Hid (allK (fun i => sameMD (d i) (d' i)) i = true) := Lib.hid hall
      clear hsm hall
      cases sm with
      | false =>
        have hrf : r = false := by rw [← HR.out]; exact allK_no hin HS.out
        subst hrf
        go_wp2_with fail
        go_region_held3 (fun W => W.cell? ⟨w.heap.size, 3, none⟩ = some (.slice (some ⟨b, off, none⟩) n c) ∧ W.cell? ⟨w.heap.size + 1, 3, none⟩ = some (.slice (some ⟨b', off', none⟩) n c') ∧ W.cell? ⟨b, off + i * 5, none⟩ = some (.int .i64 m.f1) ∧ W.cell? ⟨b, off + i * 5 + 1, none⟩ = some (.int .i64 m.f2) ∧ W.cell? ⟨b, off + i * 5 + 2, none⟩ = some (.bool m.xb) ∧ W.cell? ⟨b, off + i * 5 + 3, none⟩ = some (.string m.s) ∧ W.cell? ⟨b, off + i * 5 + 4, none⟩ = some (.slice m.a m.k m.c) ∧ W.cell? ⟨b', off' + i * 5, none⟩ = some (.int .i64 m'.f1) ∧ W.cell? ⟨b', off' + i * 5 + 1, none⟩ = some (.int .i64 m'.f2) ∧ W.cell? ⟨b', off' + i * 5 + 2, none⟩ = some (.bool m'.xb) ∧ W.cell? ⟨b', off' + i * 5 + 3, none⟩ = some (.string m'.s) ∧ W.cell? ⟨b', off' + i * 5 + 4, none⟩ = some (.slice m'.a m'.k m'.c) ∧ Below wr.heap.size wr W)
          (go_keep)
          (first
            | (go_at_call 36; refine Calls.mono (cM _ ?_) ?_; (exact hbel.trans (Below.mono (B := wr.heap.size) (by assumption) hbel.size)); rintro e W ⟨rfl, hkk⟩; have hbk := Below.trans (B := wr.heap.size) (a := wr) (by assumption) (Below.mono hkk (Below.size (B := wr.heap.size) (w := wr) (by assumption))); obtain ⟨⟨p0, p1, p2, p3, p4⟩, q0, q1, q2, q3, q4⟩ := CP.out W (hbel.trans (hbk.mono hbel.size)); obtain ⟨⟨-, -, -, x3⟩, -⟩ := box4 (hx.below hbk hx.lt); obtain ⟨⟨-, -, -, y3⟩, -⟩ := box4 (hy.below hbk hy.lt)))
        all_goals (go_wp2; go_ret; exact ⟨rfl, hbel.trans (hbk.mono hbel.size)⟩)
      | true =>
        have hall' : Hid (allK (fun i => sameMD (d i) (d' i)) (i + 1) = true) := Lib.hid (by rw [allK, HA.out, HS.out]; rfl)
        go_wp2_with fail
        go_region_held3 (fun W => W.cell? ⟨w.heap.size, 3, none⟩ = some (.slice (some ⟨b, off, none⟩) n c) ∧ W.cell? ⟨w.heap.size + 1, 3, none⟩ = some (.slice (some ⟨b', off', none⟩) n c') ∧ W.cell? ⟨b, off + i * 5, none⟩ = some (.int .i64 m.f1) ∧ W.cell? ⟨b, off + i * 5 + 1, none⟩ = some (.int .i64 m.f2) ∧ W.cell? ⟨b, off + i * 5 + 2, none⟩ = some (.bool m.xb) ∧ W.cell? ⟨b, off + i * 5 + 3, none⟩ = some (.string m.s) ∧ W.cell? ⟨b, off + i * 5 + 4, none⟩ = some (.slice m.a m.k m.c) ∧ W.cell? ⟨b', off' + i * 5, none⟩ = some (.int .i64 m'.f1) ∧ W.cell? ⟨b', off' + i * 5 + 1, none⟩ = some (.int .i64 m'.f2) ∧ W.cell? ⟨b', off' + i * 5 + 2, none⟩ = some (.bool m'.xb) ∧ W.cell? ⟨b', off' + i * 5 + 3, none⟩ = some (.string m'.s) ∧ W.cell? ⟨b', off' + i * 5 + 4, none⟩ = some (.slice m'.a m'.k m'.c) ∧ Below wr.heap.size wr W)
          (go_keep)
          (first
            | (go_at_call 36; refine Calls.mono (cM _ ?_) ?_; (exact hbel.trans (Below.mono (B := wr.heap.size) (by assumption) hbel.size)); rintro e W ⟨rfl, hkk⟩; have hbk := Below.trans (B := wr.heap.size) (a := wr) (by assumption) (Below.mono hkk (Below.size (B := wr.heap.size) (w := wr) (by assumption))); obtain ⟨⟨p0, p1, p2, p3, p4⟩, q0, q1, q2, q3, q4⟩ := CP.out W (hbel.trans (hbk.mono hbel.size)); obtain ⟨⟨-, -, -, x3⟩, -⟩ := box4 (hx.below hbk hx.lt); obtain ⟨⟨-, -, -, y3⟩, -⟩ := box4 (hy.below hbk hy.lt)))
        all_goals (go_wp2; go_roundw; (case rel => exact ⟨i + 1, by omega, by go_num, hall'.out, hx.below hbk hx.lt, hy.below hbk hy.lt, hbel.trans (hbk.mono hbel.size)⟩); (case measure => simp [numOf'] <;> omega))
    · obtain rfl : i = n := by omega
      have hrt : r = true := by rw [← HR.out]; exact hall
      subst hrt
      clear hc1 hc2 hf hf' hb hall
      go_wp2
      go_ret
      exact ⟨rfl, hbel⟩
end
end Go.Proofs.Tryz

namespace Go.Proofs.Tryz
open Go Go.Am Go.RowKit Go.Dr
set_option maxRecDepth 100000

theorem allK_same (d d' : Nat → MvD) (n : Nat) : sameN d n d' n = allK (fun i => sameMD (d i) (d' i)) n := by simp [sameN]
section
variable {w : World} {s1 s2 z1 z2 : ByteArray} {lx zx : Bool} {d d' : Nat → MvD} {n n' c c' : Nat} {ad ad' : Option Addr}
theorem samePlay_w (hm : IsMoves w (.slice ad n c) d n) (hm' : IsMoves w (.slice ad' n' c') d' n') (hn : n ≤ 1000000) (hb : ∀ i, i < n → (d i).bn ≤ 1000000) :
    Calls prog 25 #[.agg #[.string s1, .string s2, .bool lx, .slice ad n c], .agg #[.string z1, .string z2, .bool zx, .slice ad' n' c']] w fun e w' => e = .returned (.bool ((s1.toList == z1.toList) && (s2.toList == z2.toList) && (lx == zx) && sameN d n d' n')) ∧ Below w.heap.size w w' := by
  cases hh : headB s1 s2 z1 z2 lx zx n n' with
  | false =>
    have e : ((s1.toList == z1.toList) && (s2.toList == z2.toList) && (lx == zx) && sameN d n d' n') = false := by
      unfold headB at hh
      unfold sameN
      by_cases h4 : n = n'
      · simp only [h4, decide_true, Bool.and_true, Bool.true_and] at hh ⊢
        rw [hh]; rfl
      · simp [h4]
    rw [e]
    exact sp_no hh
  | true =>
    unfold headB at hh
    simp only [Bool.and_eq_true, decide_eq_true_eq, beq_iff_eq] at hh
    obtain ⟨⟨⟨h1, h2⟩, h3⟩, h4⟩ := hh
    subst h3 h4
    have e : ((s1.toList == z1.toList) && (s2.toList == z2.toList) && (lx == lx) && sameN d n d' n) = allK (fun i => sameMD (d i) (d' i)) n := by
      rw [allK_same]; simp [h1, h2]
    rw [e]
    exact sp_go hm hm' hn hb (by simp [h1]) (by simp [h2])
end

section
variable {w : World} {E1 E2 : Int} {P1 P2 : PlD} {s1 s2 z1 z2 : ByteArray} {lx zx : Bool} {n n' c c' : Nat} {ad ad' : Option Addr}
end
end Go.Proofs.Tryz
