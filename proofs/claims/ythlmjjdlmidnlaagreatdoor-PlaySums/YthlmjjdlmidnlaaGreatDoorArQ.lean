/- Plain: the permutation that a key draws. Draw, by the kit's walk. -/
import Derived.Test.YthlmjjdlmidnlaaGreatDoorArZa
import Derived.WalkKit
import Derived.BigRegion
namespace Go.Dr

def nextX (x : Int) : Int := (40692 * x).tmod 2147483399
def swp (l : List Int) (i k : Nat) : List Int := (l.set i (l[k]?.getD 0)).set k (l[i]?.getD 0)
def drw : Nat → Int → List Int → List Int
  | 0, _, l => l
  | i + 1, x, l => drw i (nextX x) (swp l (i + 1) ((nextX x).tmod ((i : Int) + 2)).toNat)
def upto (n : Nat) : List Int := (List.range n).map fun (i : Nat) => (i : Int)
def drawL (key : Int) (n : Nat) : List Int := drw (n - 1) key (upto n)

theorem nextX_range {x : Int} (h0 : 0 ≤ x) : 0 ≤ nextX x ∧ nextX x ≤ 2147483398 := by
  unfold nextX
  rw [Int.tmod_eq_emod_of_nonneg (by omega)]
  omega

theorem length_swp (l : List Int) (i k : Nat) : (swp l i k).length = l.length := by simp [swp]

theorem length_drw : ∀ (i : Nat) (x : Int) (l : List Int), (drw i x l).length = l.length
  | 0, _, _ => rfl
  | i + 1, x, l => by rw [drw, length_drw i, length_swp]

theorem length_upto (n : Nat) : (upto n).length = n := by simp [upto]
theorem length_drawL (key : Int) (n : Nat) : (drawL key n).length = n := by rw [drawL, length_drw, length_upto]

theorem upto_succ (n : Nat) : upto (n + 1) = upto n ++ [(n : Int)] := by simp [upto, List.range_succ]

/-- The place that is drawn lies in the list. -/
theorem place_range {x : Int} (h0 : 0 ≤ x) (i : Nat) : 0 ≤ x.tmod ((i : Int) + 2) ∧ x.tmod ((i : Int) + 2) < (i : Int) + 2 := by
  rw [Int.tmod_eq_emod_of_nonneg h0]
  exact ⟨Int.emod_nonneg _ (by omega), Int.emod_lt_of_pos _ (by omega)⟩

theorem nextX_eq {x : Int} (h0 : 0 ≤ x) : nextX x = (40692 * x) % 2147483399 := by
  unfold nextX; rw [Int.tmod_eq_emod_of_nonneg (by omega)]
theorem place_eq {x : Int} (h0 : 0 ≤ x) (i : Nat) : x.tmod ((i : Int) + 2) = x % ((i : Int) + 2) := Int.tmod_eq_emod_of_nonneg h0

theorem set_fill (n k : Nat) (hk : k < n) : (upto k ++ List.replicate (n - k) 0).set k (k : Int) = upto (k + 1) ++ List.replicate (n - (k + 1)) 0 := by
  have e : n - k = (n - (k + 1)) + 1 := by omega
  rw [e, List.replicate_succ, upto_succ]
  rw [List.set_append_right _ _ (by rw [length_upto]; omega), length_upto, Nat.sub_self]
  simp
end Go.Dr

namespace Go.Proofs.Tryz
open Go Go.Am Go.RowKit Go.Dr
set_option maxRecDepth 100000

theorem info3 : (prog.info? 3).map (fun i => (i.zero, i.size, i.bytes)) = some (some (.int .i64 0), 1, 8) := by kernel_rfl

def numOf : Value → Int
  | .int _ n => n
  | _ => 0
def vsOf (l : List Int) : List Value := l.map (Value.int .i64)

set_option maxHeartbeats 1600000 in
theorem draw_w (key : Int) (n : Nat) (w : World) (h1 : 1 ≤ key) (h2 : key ≤ 2147483398) (hn : n ≤ 256) :
    Calls prog 38 #[.int .i64 key, .int .i64 n] w fun e w' => ∃ v, e = .returned (.tuple #[v, .int .i64 0]) ∧ w'.ownsRow w.heap.size 3 1 v n (vsOf (drawL key n)) ∧ Below w.heap.size w w' := by
  obtain ⟨i0, hi, hz0, hz1, hz2⟩ := info_parts info3
  go_enter func38, ntmps38
  go_wp2_with (first | (at_make; refine wpList_make_full _ rfl _ _ 25 rfl w.heap.size 3 i0 (.int .i64 0) 1 underlying25 hi hz0 hz1 _ _ _ _ n rfl rfl rfl rfl ?b2 ?b3 ?b4 ?_) | go_in)
  refine wp_loop_rounds 3 ?_
  rw [rounds_succ]
  go_wp2
  rw [rounds_succ]
  go_wp2
  rw [rounds_succ]
  go_wp2_with (first | (at_make; refine wpList_make_full _ rfl _ _ 25 rfl w.heap.size 3 i0 (.int .i64 0) 1 underlying25 hi hz0 hz1 _ _ _ _ n rfl rfl rfl rfl ?b2 ?b3 ?b4 ?_) | go_in)
  case b2 => rw [hz2]; omega
  case b3 => unfold maxLen; omega
  case b4 => simp
  intro w1 hown1 hgrow1
  have hown0 : w1.ownsRow w.heap.size 3 1 (.slice (some ⟨w.heap.size + 1, 0, none⟩) n n) n (vsOf (upto 0 ++ List.replicate (n - 0) 0)) := by
    have e : (madeCells #[Value.int IntKind.i64 0] n).toList = vsOf (upto 0 ++ List.replicate (n - 0) 0) := by
      rw [toList_madeCells_one]; simp [vsOf, upto]
    rw [← e]; simpa using hown1
  have hbel0 : Below w.heap.size w w1 := ((Below.refl _ _).alloc (Nat.le_refl _) _).grown hgrow1 (by simp) (fun k h => by cases h)
  clear hown1 hgrow1
  go_wp2
  go_loopw [24] (fun c wr => ∃ k : Nat, k ≤ n ∧ c = .int .i64 k ∧ wr.ownsRow w.heap.size 3 1 (.slice (some ⟨w.heap.size + 1, 0, none⟩) n n) n (vsOf (upto k ++ List.replicate (n - k) 0)) ∧ Below w.heap.size w wr) (fun c _ => n - (numOf c).toNat)
  case atStart => exact ⟨0, Nat.zero_le _, rfl, hown0, hbel0⟩
  case round =>
    obtain ⟨k, hk, rfl, hown, hbel⟩ := hrel
    clear hown0 hbel0
    have hfr : wr.frozen? ⟨w.heap.size + 1, k, none⟩ = false := hown.frozenAt k
    have hll : (upto k ++ List.replicate (n - k) 0).length = n := by rw [List.length_append, length_upto, List.length_replicate]; omega
    have hcell : k < n → wr.cell? ⟨w.heap.size + 1, k, none⟩ = some (.int .i64 ((upto k ++ List.replicate (n - k) 0)[k]?.getD 0)) := fun h => by
      rw [hown.cellAt k (by omega)]
      simp only [vsOf, List.getElem?_map]
      rw [List.getElem?_eq_getElem (by omega)]; rfl
    go_wp2
    · have hlt : k < n := by assumption
      have hst := hown.stored k (.int .i64 k)
      go_roundw
      case rel =>
        refine ⟨k + 1, by omega, by go_num, ?_, hbel.grown hst.2 hbel.size (fun q hq => by cases hq; omega)⟩
        rw [← set_fill n k hlt]
        have := hst.1
        simpa [vsOf, List.map_set] using this
      case measure => simp [numOf] <;> omega
    · have hkn : k = n := by omega
      subst hkn
      have hown2 : wr.ownsRow w.heap.size 3 1 (.slice (some ⟨w.heap.size + 1, 0, none⟩) k k) k (vsOf (upto k)) := by simpa using hown
      clear hown hcell hfr hll hk
      go_loopw [9, 10] (fun vx vi wx => ∃ (c : Nat) (x : Int) (l : List Int), c ≤ k ∧ vx = .int .i64 x ∧ vi = .int .i64 ((c : Int) - 1) ∧ 0 ≤ x ∧ x ≤ 2147483398 ∧ l.length = k ∧ drw (c - 1) x l = drawL key k ∧
          wx.ownsRow w.heap.size 3 1 (.slice (some ⟨w.heap.size + 1, 0, none⟩) k k) k (vsOf l) ∧ Below w.heap.size w wx) (fun _ vi _ => (numOf vi).toNat)
      case atStart => exact ⟨k, key, upto k, Nat.le_refl _, rfl, rfl, by omega, h2, length_upto _, rfl, hown2, hbel⟩
      case round =>
        obtain ⟨c, x, l, hck, rfl, rfl, hx0, hx1, hll, hd, hown, hbl⟩ := hrel
        clear hown2 hbel
        by_cases hc : c ≤ 1
        · have hci : ¬ (0 : Int) < (c : Int) - 1 := by omega
          go_wp2
          go_ret2
          have e0 : c - 1 = 0 := by omega
          rw [e0] at hd
          exact ⟨_, rfl, by rw [← hd]; exact hown, hbl⟩
        · obtain ⟨m, rfl⟩ : ∃ m, c = m + 2 := ⟨c - 2, by omega⟩
          have e1 : ((m + 2 : Nat) : Int) - 1 = ((m + 1 : Nat) : Int) := by omega
          rw [e1]
          have hci : (0 : Int) < ((m + 1 : Nat) : Int) := by omega
          obtain ⟨y, hy⟩ : ∃ y, nextX x = y := ⟨_, rfl⟩
          obtain ⟨K, hK⟩ : ∃ K : Nat, y.tmod ((m : Int) + 2) = (K : Int) := ⟨(y.tmod ((m : Int) + 2)).toNat, by rw [Int.toNat_of_nonneg]; exact (place_range (by rw [← hy]; exact (nextX_range hx0).1) m).1⟩
          have hKr : K < m + 2 := by
            have := (place_range (x := y) (by rw [← hy]; exact (nextX_range hx0).1) m).2
            omega
          have hx' : (40692 * x).tmod 2147483399 = y := hy
          have hK' : y.tmod ((m : Int) + 1 + 1) = (K : Int) := by rw [← hK]; congr 1
          have hKk : K < k := by omega
          have hmk : m + 1 < k := by omega
          have hcell : ∀ j, j < k → wr.cell? ⟨w.heap.size + 1, j, none⟩ = some (.int .i64 (l[j]?.getD 0)) := fun j h => by
            rw [hown.cellAt j (by omega)]
            simp only [vsOf, List.getElem?_map]
            rw [List.getElem?_eq_getElem (by omega)]; rfl
          obtain ⟨a, ha⟩ : ∃ a, l[m + 1]?.getD 0 = a := ⟨_, rfl⟩
          obtain ⟨b, hb⟩ : ∃ b, l[K]?.getD 0 = b := ⟨_, rfl⟩
          have hc1 := hcell _ hKk
          have hc2 := hcell _ hmk
          rw [ha] at hc2
          rw [hb] at hc1
          have hs1 := hown.stored (m + 1) (.int .i64 b)
          have hs2 := hs1.1.stored K (.int .i64 a)
          have hc3 : (wr.setCell ⟨w.heap.size + 1, m + 1, none⟩ (.int .i64 b)).cell? ⟨w.heap.size + 1, K, none⟩ = some (.int .i64 b) := by
            rw [hs1.1.cellAt K (by omega)]
            simp only [vsOf, List.getElem?_set, List.getElem?_map, List.length_map]
            by_cases e : m + 1 = K
            · rw [if_pos e, if_pos (by omega)]
            · rw [if_neg e, ← hb, List.getElem?_eq_getElem (by omega)]; rfl
          have hf3 : (wr.setCell ⟨w.heap.size + 1, m + 1, none⟩ (.int .i64 b)).frozen? ⟨w.heap.size + 1, K, none⟩ = false := hs1.1.frozenAt K
          have hown' : ((wr.setCell ⟨w.heap.size + 1, m + 1, none⟩ (.int .i64 b)).setCell ⟨w.heap.size + 1, K, none⟩ (.int .i64 a)).ownsRow w.heap.size 3 1 (.slice (some ⟨w.heap.size + 1, 0, none⟩) k k) k (vsOf (swp l (m + 1) K)) := by
            have := hs2.1
            rw [← ha, ← hb] at this ⊢
            simpa [vsOf, swp, List.map_set] using this
          have hbl' : Below w.heap.size w ((wr.setCell ⟨w.heap.size + 1, m + 1, none⟩ (.int .i64 b)).setCell ⟨w.heap.size + 1, K, none⟩ (.int .i64 a)) :=
            (hbl.grown hs1.2 hbl.size (fun q hq => by cases hq; omega)).grown hs2.2 (by have := hbl.size; simp; omega) (fun q hq => by cases hq; omega)
          have hy2 := nextX_range hx0
          rw [hy] at hy2
          have hd' : drw ((m + 1) - 1) y (swp l (m + 1) K) = drawL key k := by
            rw [← hd]
            show drw m y (swp l (m + 1) K) = drw (m + 1) x l
            rw [drw, hy, hK]; rfl
          clear hs1 hs2
          have hf1 : wr.frozen? ⟨w.heap.size + 1, K, none⟩ = false := hown.frozenAt K
          have hf2 : wr.frozen? ⟨w.heap.size + 1, m + 1, none⟩ = false := hown.frozenAt (m + 1)
          clear hcell
          go_wp2
          go_region
          go_wp2
          go_roundw
          case rel => exact ⟨m + 1, y, swp l (m + 1) K, by omega, rfl, by go_num, hy2.1, hy2.2, by rw [length_swp, hll], hd', hown'.drew, hbl'.drew⟩
          case measure => simp [numOf] <;> omega
end Go.Proofs.Tryz
