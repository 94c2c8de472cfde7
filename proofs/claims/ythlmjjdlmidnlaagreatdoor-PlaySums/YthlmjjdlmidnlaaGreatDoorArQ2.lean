/- The document's Draw, by the kit's walk. SameInts of two slices with the same integers, by the kit's walk. -/
import Derived.Test.YthlmjjdlmidnlaaGreatDoorArQ
namespace Go.Proofs.Tryz
open Go Go.Am Go.RowKit Go.Dr
set_option maxRecDepth 100000

theorem owns_some {w : World} {B e s : Nat} {v : Value} {n : Nat} {xs : List Value} (h : w.ownsRow B e s v n xs) (hn : 0 < n) : ∃ g cap, v = .slice (some ⟨g, 0, none⟩) n cap ∧ B ≤ g ∧ g < w.heap.size := by
  rcases h.2 with ⟨_, h0⟩ | ⟨g, cap, cur, hv, hb, hg, _⟩
  · omega
  · exact ⟨g, cap, hv, hb, (Array.getElem?_eq_some_iff.1 hg).1⟩

set_option maxHeartbeats 1600000 in
theorem drawR_w (key : Int) (n : Nat) (w : World) (h1 : 1 ≤ key) (h2 : key ≤ 2147483398) (hn : n ≤ 256) :
    Calls prog 40 #[.int .i64 key, .int .i64 n] w fun e w' => ∃ v, e = .returned v ∧ w'.ownsRow w.heap.size 3 1 v n (vsOf (drawL key n)) ∧ Below w.heap.size w w' := by
  obtain ⟨i0, hi, hz0, hz1, hz2⟩ := info_parts info3
  go_enter func40, ntmps40
  go_wp2
  go_loopw [5, 6] (fun v c wr => ∃ (k : Nat) (s : Value), k ≤ n ∧ c = .int .i64 k ∧ s = v ∧ wr.ownsRow w.heap.size 3 1 s k (vsOf (upto k)) ∧ Below w.heap.size w wr) (fun _ c _ => n - (numOf c).toNat)
  case atStart => exact ⟨0, _, Nat.zero_le _, rfl, rfl, World.ownsRow_nil _ _ _ _, Below.refl _ _⟩
  case round =>
    obtain ⟨k, s, hk, rfl, rfl, hown, hbel⟩ := hrel
    go_wp2_with (first
      | (at_builtin; refine wpList_append_own _ rfl _ _ 25 rfl w.heap.size 3 i0 (.int .i64 0) 1 8 underlying25 hi hz0 hz1 hz2 rfl (by decide) _ _ _ rfl (hown.alloc _) ⟨wr.heap.size, 0, none⟩ 1 1 [.int .i64 k] rfl rfl ?c1 ?c2 ?c3 ?c4 ?c5 ?_)
      | go_in)
    case c1 =>
      intro j u hj
      match j, hj with
      | 0, hj => simp at hj; subst hj; simp [Addr.add]
    case c2 => intro u hu; simp at hu; subst hu; rfl
    case c3 => unfold maxLen; omega
    case c4 => omega
    case c5 => have := hbel.size; simp; omega
    · intro v' w1 hown' hgrow _
      have hlt : k < n := by assumption
      have hb1 : Below w.heap.size w w1 := (hbel.alloc hbel.size _).grown hgrow (by have := hbel.size; simp; omega) (fun q hq => (hown.lt q hq).1)
      have ho1 : w1.ownsRow w.heap.size 3 1 v' (k + 1) (vsOf (upto (k + 1))) := by
        rw [upto_succ]; simpa [vsOf] using hown'
      clear hown' hgrow hown
      go_wp2
      go_roundw
      case rel => exact ⟨k + 1, _, by omega, by go_num, rfl, ho1, hb1⟩
      case measure => simp [numOf] <;> omega
    · have hkn : k = n := by omega
      subst hkn
      have hown2 := hown
      clear hown hk
      go_loopw [7, 8] (fun vx vi wx => ∃ (c : Nat) (x : Int) (l : List Int), c ≤ k ∧ vx = .int .i64 x ∧ vi = .int .i64 ((c : Int) - 1) ∧ 0 ≤ x ∧ x ≤ 2147483398 ∧ l.length = k ∧ drw (c - 1) x l = drawL key k ∧
          wx.ownsRow w.heap.size 3 1 s k (vsOf l) ∧ Below w.heap.size w wx) (fun _ vi _ => (numOf vi).toNat)
      case atStart => exact ⟨k, key, upto k, Nat.le_refl _, rfl, rfl, by omega, h2, length_upto _, rfl, hown2, hbel⟩
      case round =>
        obtain ⟨c, x, l, hck, rfl, rfl, hx0, hx1, hll, hd, hown, hbl⟩ := hrel
        clear hown2 hbel
        by_cases hc : c ≤ 1
        · have hci : ¬ (1 : Int) ≤ (c : Int) - 1 := by omega
          go_wp2
          go_ret
          have e0 : c - 1 = 0 := by omega
          rw [e0] at hd
          exact ⟨_, rfl, by rw [← hd]; exact hown, hbl⟩
        · obtain ⟨m, rfl⟩ : ∃ m, c = m + 2 := ⟨c - 2, by omega⟩
          have e1 : ((m + 2 : Nat) : Int) - 1 = ((m + 1 : Nat) : Int) := by omega
          rw [e1]
          have hci : (1 : Int) ≤ ((m + 1 : Nat) : Int) := by omega
          obtain ⟨g, cap, rfl, hBg, hgl⟩ := owns_some hown (by omega)
          obtain ⟨y, hy⟩ : ∃ y, nextX x = y := ⟨_, rfl⟩
          obtain ⟨K, hK⟩ : ∃ K : Nat, y.tmod ((m : Int) + 2) = (K : Int) := ⟨(y.tmod ((m : Int) + 2)).toNat, by rw [Int.toNat_of_nonneg]; exact (place_range (by rw [← hy]; exact (nextX_range hx0).1) m).1⟩
          have hKr : K < m + 2 := by
            have := (place_range (x := y) (by rw [← hy]; exact (nextX_range hx0).1) m).2
            omega
          have hx' : (40692 * x).tmod 2147483399 = y := hy
          have hK' : y.tmod ((m : Int) + 1 + 1) = (K : Int) := by rw [← hK]; congr 1
          have hKk : K < k := by omega
          have hmk : m + 1 < k := by omega
          have hcell : ∀ j, j < k → wr.cell? ⟨g, j, none⟩ = some (.int .i64 (l[j]?.getD 0)) := fun j h => by
            rw [hown.cellAt j (by omega)]
            simp only [vsOf, List.getElem?_map]
            rw [List.getElem?_eq_getElem (by omega)]; rfl
          obtain ⟨a, ha⟩ : ∃ a, l[m + 1]?.getD 0 = a := ⟨_, rfl⟩
          obtain ⟨b, hb⟩ : ∃ b, l[K]?.getD 0 = b := ⟨_, rfl⟩
          have hc1 := hcell _ hKk
          have hc2 := hcell _ hmk
          rw [ha] at hc2
          rw [hb] at hc1
          have hs1 := hown.stored (m + 1) (.int .i64 b)
          have hs2 := hs1.1.stored K (.int .i64 a)
          have hc3 : (wr.setCell ⟨g, m + 1, none⟩ (.int .i64 b)).cell? ⟨g, K, none⟩ = some (.int .i64 b) := by
            rw [hs1.1.cellAt K (by omega)]
            simp only [vsOf, List.getElem?_set, List.getElem?_map, List.length_map]
            by_cases e : m + 1 = K
            · rw [if_pos e, if_pos (by omega)]
            · rw [if_neg e, ← hb, List.getElem?_eq_getElem (by omega)]; rfl
          have hf3 : (wr.setCell ⟨g, m + 1, none⟩ (.int .i64 b)).frozen? ⟨g, K, none⟩ = false := hs1.1.frozenAt K
          have hown' : ((wr.setCell ⟨g, m + 1, none⟩ (.int .i64 b)).setCell ⟨g, K, none⟩ (.int .i64 a)).ownsRow w.heap.size 3 1 (.slice (some ⟨g, 0, none⟩) k cap) k (vsOf (swp l (m + 1) K)) := by
            have := hs2.1
            rw [← ha, ← hb] at this ⊢
            simpa [vsOf, swp, List.map_set] using this
          have hbl' : Below w.heap.size w ((wr.setCell ⟨g, m + 1, none⟩ (.int .i64 b)).setCell ⟨g, K, none⟩ (.int .i64 a)) :=
            (hbl.grown hs1.2 hbl.size (fun q hq => by cases hq; omega)).grown hs2.2 (by have := hbl.size; simp; omega) (fun q hq => by cases hq; omega)
          have hy2 := nextX_range hx0
          rw [hy] at hy2
          have hd' : drw ((m + 1) - 1) y (swp l (m + 1) K) = drawL key k := by
            rw [← hd]
            show drw m y (swp l (m + 1) K) = drw (m + 1) x l
            rw [drw, hy, hK]; rfl
          clear hs1 hs2
          have hf1 : wr.frozen? ⟨g, K, none⟩ = false := hown.frozenAt K
          have hf2 : wr.frozen? ⟨g, m + 1, none⟩ = false := hown.frozenAt (m + 1)
          clear hcell
          go_wp2
          go_region
          go_wp2
          go_roundw
          case rel => exact ⟨m + 1, y, swp l (m + 1) K, by omega, rfl, by go_num, hy2.1, hy2.2, by rw [length_swp, hll], hd', hown'.drew, hbl'.drew⟩
          case measure => simp [numOf] <;> omega
end Go.Proofs.Tryz

namespace Go.Proofs.Tryz
open Go Go.Am Go.RowKit Go.Dr
set_option maxRecDepth 100000

theorem same_none (a1 a2 : Option Addr) (c1 c2 : Nat) (w : World) : Calls prog 66 #[.slice a1 0 c1, .slice a2 0 c2] w fun e w' => e = .returned (.bool true) ∧ Below w.heap.size w w' := by
  go_enter func66, ntmps66
  go_wp2
  refine wp_loop_rounds 1 ?_
  rw [rounds_succ]
  go_wp2
  go_ret
  exact ⟨rfl, Below.refl _ _⟩

theorem same_some (b1 o1 b2 o2 m c1 c2 : Nat) (t : Nat → Int) (w : World) (hm : m ≤ 1000000) (h1 : ∀ j, j < m → w.cell? ⟨b1, o1 + j, none⟩ = some (.int .i64 (t j))) (h2 : ∀ j, j < m → w.cell? ⟨b2, o2 + j, none⟩ = some (.int .i64 (t j))) :
    Calls prog 66 #[.slice (some ⟨b1, o1, none⟩) m c1, .slice (some ⟨b2, o2, none⟩) m c2] w fun e w' => e = .returned (.bool true) ∧ Below w.heap.size w w' := by
  go_enter func66, ntmps66
  go_wp2
  go_loopw [5] (fun c wr => ∃ k : Nat, k ≤ m ∧ c = .int .i64 k ∧ Below w.heap.size w wr) (fun c _ => m - (numOf c).toNat)
  case atStart => exact ⟨0, Nat.zero_le _, rfl, Below.refl _ _⟩
  case round =>
    obtain ⟨k, hk, rfl, hbel⟩ := hrel
    by_cases hlt : k < m
    · have e1 : wr.cell? ⟨b1, o1 + k, none⟩ = some (.int .i64 (t k)) := (hbel.cell (cell_under (h1 k hlt))).trans (h1 k hlt)
      have e2 : wr.cell? ⟨b2, o2 + k, none⟩ = some (.int .i64 (t k)) := (hbel.cell (cell_under (h2 k hlt))).trans (h2 k hlt)
      clear h1 h2
      go_wp2
      go_region
      go_wp2
      go_roundw
      case rel => exact ⟨k + 1, by omega, by go_num, hbel.drew⟩
      case measure => simp [numOf] <;> omega
    · go_wp2
      go_ret
      exact ⟨rfl, hbel⟩
end Go.Proofs.Tryz
