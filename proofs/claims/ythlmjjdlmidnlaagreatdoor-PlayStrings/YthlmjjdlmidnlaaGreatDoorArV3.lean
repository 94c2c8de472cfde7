/- slices.Clone and HasInt, by the kit's walk. The document's Assists, by the kit's walk. The document's Draw, by the kit's walk. SameInts of two slices with the same integers, by the kit's walk. -/
import Derived.Test.YthlmjjdlmidnlaaGreatDoorArV
import Derived.Lib.SliceRun
namespace Go.Proofs.Tryz
open Go Go.Am Go.RowKit Go.Dr
set_option maxRecDepth 100000

/-- The cells of a slice of integers. -/
def intsL (t : Int → Int) (o : Int) (m : Nat) : List Int := (List.range m).map fun (j : Nat) => t (o + (j : Int))
theorem length_intsL (t : Int → Int) (o : Int) (m : Nat) : (intsL t o m).length = m := by simp [intsL]
theorem intsL_get {t : Int → Int} {o : Int} {m j : Nat} (h : j < m) : (intsL t o m)[j]? = some (t (o + (j : Int))) := by simp [intsL, h]

theorem clone_nil (c : Nat) (w : World) : Calls prog 133 #[.slice none 0 c] w fun e w' => e = .returned (.slice none 0 0) ∧ Below w.heap.size w w' := by
  have q25 : ∀ (w : World) (a : Option Addr) (n c n' c' : Nat), (binOp .eql 25 (.slice a n c) (.slice none n' c')).run prog w = .ok (.bool a.isNone) w := fun w a n c n' c' => Lib.run_eql_slice_nil w _ _ a n c n' c' underlying25
  go_enter func133, ntmps133
  go_wp2
  go_ret
  exact ⟨rfl, Below.refl _ _⟩

theorem clone_some (b off m c : Nat) (t : Int → Int) (o : Int) (w : World) (hm : m ≤ 1000000) (hc : ∀ j, j < m → w.cell? ⟨b, off + j, none⟩ = some (vi (t (o + (j : Int))))) :
    Calls prog 133 #[.slice (some ⟨b, off, none⟩) m c] w fun e w' => ∃ v, e = .returned v ∧ w'.ownsRow w.heap.size 3 1 v m (vsOf (intsL t o m)) ∧ Below w.heap.size w w' := by
  have q25 : ∀ (w : World) (a : Option Addr) (n c n' c' : Nat), (binOp .eql 25 (.slice a n c) (.slice none n' c')).run prog w = .ok (.bool a.isNone) w := fun w a n c n' c' => Lib.run_eql_slice_nil w _ _ a n c n' c' underlying25
  obtain ⟨i0, hi, hz0, hz1, hz2⟩ := info_parts info3
  go_enter func133, ntmps133
  have hown0 : (w.alloc (.cells #[] 3)).ownsRow w.heap.size 3 1 (.slice (some ⟨w.heap.size, 0, none⟩) 0 0) 0 [] := World.ownsRow_lit w #[] 0 (Nat.le_refl _) (Nat.zero_le _) rfl
  go_wp2_with (first
    | (at_builtin; refine wpList_append_own _ rfl (.tmp 5) (.tmp 6) 25 rfl w.heap.size 3 i0 (.int .i64 0) 1 8 underlying25 hi hz0 hz1 hz2 rfl (by decide) _ _ _ rfl hown0 ⟨b, off, none⟩ m c (vsOf (intsL t o m)) rfl (by simp [vsOf, length_intsL]) ?c1 ?c2 ?c3 ?c4 ?c5 ?_)
    | go_in)
  case c1 =>
    intro j u hj
    have hlt := (List.getElem?_eq_some_iff.1 hj).1
    simp only [vsOf, List.length_map, length_intsL] at hlt
    simp only [vsOf, List.getElem?_map, intsL_get hlt, Option.map_some, Option.some.injEq] at hj
    subst hj
    have hw := hc j hlt
    rw [add_adr, World.cell?_alloc_past _ _ _ (cell_under hw)]; exact hw
  case c2 =>
    intro u hu
    simp only [vsOf, List.mem_map] at hu
    obtain ⟨x, _, rfl⟩ := hu; rfl
  case c3 => unfold maxLen; omega
  case c4 => omega
  case c5 => simp
  intro v' w1 hown' hgrow _
  have hb1 : Below w.heap.size w w1 := ((Below.refl _ _).alloc (Nat.le_refl _) _).grown hgrow (by simp) (fun q hq => by cases hq; exact Nat.le_refl _)
  have ho1 : w1.ownsRow w.heap.size 3 1 v' m (vsOf (intsL t o m)) := by simpa using hown'
  clear hown' hgrow hown0 hc
  go_wp2
  go_ret
  exact ⟨_, rfl, ho1, hb1⟩

/-- Is a number among the first m? -/
def hasB (t : Int → Int) (o : Int) (x : Int) : Nat → Bool
  | 0 => false
  | m + 1 => hasB t o x m || decide (t (o + (m : Int)) = x)

theorem hasB_mono {t : Int → Int} {o x : Int} : ∀ {m k : Nat}, k ≤ m → hasB t o x k = true → hasB t o x m = true
  | 0, k, h, hk => by rw [show k = 0 by omega] at hk; exact hk
  | m + 1, k, h, hk => by
    by_cases e : k = m + 1
    · rw [← e]; exact hk
    · simp [hasB, hasB_mono (show k ≤ m by omega) hk]

theorem has_none (a : Option Addr) (c : Nat) (x : Int) (w : World) : Calls prog 52 #[.slice a 0 c, .int .i64 x] w fun e w' => e = .returned (.bool false) ∧ Below w.heap.size w w' := by
  go_enter func52, ntmps52
  go_wp2
  refine wp_loop_rounds 1 ?_
  rw [rounds_succ]
  go_wp2
  go_ret
  exact ⟨rfl, Below.refl _ _⟩

theorem has_some (b off m c : Nat) (t : Int → Int) (o x : Int) (w : World) (hm : m ≤ 1000000) (hc : ∀ j, j < m → w.cell? ⟨b, off + j, none⟩ = some (vi (t (o + (j : Int))))) :
    Calls prog 52 #[.slice (some ⟨b, off, none⟩) m c, .int .i64 x] w fun e w' => e = .returned (.bool (hasB t o x m)) ∧ Below w.heap.size w w' := by
  go_enter func52, ntmps52
  go_wp2
  go_loopw [4, 5] (fun r s wr => ∃ k : Nat, k ≤ m ∧ s = .int .i64 k ∧ r = .bool false ∧ hasB t o x k = false ∧ Below w.heap.size w wr) (fun _ s _ => m - (numOf s).toNat)
  case atStart => exact ⟨0, Nat.zero_le _, rfl, rfl, rfl, Below.refl _ _⟩
  case round =>
    obtain ⟨k, hk, rfl, rfl, hno, hbel⟩ := hrel
    by_cases hlt : k < m
    · have e1 : wr.cell? ⟨b, off + k, none⟩ = some (.int .i64 (t (o + (k : Int)))) := (hbel.cell (cell_under (hc k hlt))).trans (hc k hlt)
      clear hc
      by_cases hx : t (o + (k : Int)) = x
      · have hyes : hasB t o x m = true := hasB_mono (k := k + 1) (by omega) (by simp [hasB, hx])
        rw [hx] at e1
        go_wp2
        go_ret
        exact ⟨by rw [hyes]; rfl, hbel⟩
      · have hno' : hasB t o x (k + 1) = false := by simp [hasB, hx, hno]
        go_wp2
        go_roundw
        case rel => exact ⟨k + 1, by omega, by go_num, rfl, hno', hbel⟩
        case measure => simp [numOf] <;> omega
    · have hkm : k = m := by omega
      subst hkm
      go_wp2
      go_ret
      exact ⟨by rw [hno]; rfl, hbel⟩
end Go.Proofs.Tryz

namespace Go.Proofs.Tryz
open Go Go.Am Go.RowKit Go.Dr
set_option maxRecDepth 100000

/-- The assists among the first k fielders: they touched the ball, and are not the last toucher. -/
def asK (t : Int → Int) (o : Int) (m : Nat) : Nat → List Int
  | 0 => []
  | k + 1 => asK t o m k ++ (if (k : Int) + 1 ≠ t (o + ((m - 1 : Nat) : Int)) ∧ hasB t o ((k : Int) + 1) m = true then [(k : Int) + 1] else [])
def asL (t : Int → Int) (o : Int) (m : Nat) : List Int := asK t o m 9
theorem length_asK (t : Int → Int) (o : Int) (m : Nat) : ∀ k, (asK t o m k).length ≤ k
  | 0 => Nat.le_refl _
  | k + 1 => by
    have := length_asK t o m k
    rw [asK, List.length_append]
    split <;> simp <;> omega

theorem owns_below {w w' : World} {base : Nat} {e : TypeId} {size n : Nat} {v : Value} {xs : List Value} (h : w.ownsRow base e size v n xs) (hb : Below w.heap.size w w') : w'.ownsRow base e size v n xs := by
  refine ⟨h.1, ?_⟩
  rcases h.2 with q | ⟨g, cap, cur, hv, h1, h2, h3⟩
  · exact .inl q
  · exact .inr ⟨g, cap, cur, hv, h1, (hb.block _ (lt_of_block h2)).trans h2, h3⟩

theorem owns_base {w : World} {base b2 : Nat} {e : TypeId} {size n : Nat} {v : Value} {xs : List Value} (h : w.ownsRow base e size v n xs) (hb : b2 ≤ base) : w.ownsRow b2 e size v n xs := by
  refine ⟨h.1, ?_⟩
  rcases h.2 with q | ⟨g, cap, cur, hv, h1, h2⟩
  · exact .inl q
  · exact .inr ⟨g, cap, cur, hv, Nat.le_trans hb h1, h2⟩

set_option maxHeartbeats 1600000 in
theorem assistR_w (f1 f2 : Int) (xb : Bool) (sl : List UInt8) (b off m c : Nat) (t : Int → Int) (o : Int) (w : World) (hm0 : 1 ≤ m) (hm : m ≤ 1000000) (hc : ∀ j, j < m → w.cell? ⟨b, off + j, none⟩ = some (vi (t (o + (j : Int))))) :
    Calls prog 35 #[.agg #[.int .i64 f1, .int .i64 f2, .bool xb, .string ⟨sl.toArray⟩, .slice (some ⟨b, off, none⟩) m c]] w fun e w' => ∃ v, e = .returned v ∧ w'.ownsRow w.heap.size 3 1 v (asL t o m).length (vsOf (asL t o m)) ∧ Below w.heap.size w w' := by
  obtain ⟨i0, hi, hz0, hz1, hz2⟩ := info_parts info3
  go_enter func35, ntmps35
  go_wp2
  go_loopw [3, 4] (fun s z wr => ∃ (k : Nat) (v : Value), k ≤ 9 ∧ z = .int .i64 ((k : Int) + 1) ∧ v = s ∧ wr.ownsRow (w.heap.size + 1) 3 1 v (asK t o m k).length (vsOf (asK t o m k)) ∧
    wr.heap[w.heap.size]? = some (.cells #[.int .i64 f1, .int .i64 f2, .bool xb, .string ⟨sl.toArray⟩, .slice (some ⟨b, off, none⟩) m c] 27 (0, 0)) ∧ Below w.heap.size w wr) (fun _ z _ => (10 - numOf z).toNat)
  case atStart => exact ⟨0, _, Nat.zero_le _, rfl, rfl, World.ownsRow_nil _ _ _ _, heap_alloc_new _ _, (Below.refl _ _).alloc (Nat.le_refl _) _⟩
  case round =>
    obtain ⟨k, v, hk, rfl, rfl, hown, hbox, hbel⟩ := hrel
    have hc4 : wr.cell? ⟨w.heap.size, 4, none⟩ = some (.slice (some ⟨b, off, none⟩) m c) := by simp [World.cell?, hbox]
    have hcw : ∀ j, j < m → wr.cell? ⟨b, off + j, none⟩ = some (vi (t (o + (j : Int)))) := fun j hj => (hbel.cell (cell_under (hc j hj))).trans (hc j hj)
    have hl := hcw (m - 1) (by omega)
    obtain ⟨x, hx⟩ : ∃ x, t (o + ((m - 1 : Nat) : Int)) = x := ⟨_, rfl⟩
    rw [hx] at hl
    unfold vi at hl
    by_cases h9 : k < 9
    · by_cases hA : (k : Int) + 1 = x
      · have hown' : wr.ownsRow (w.heap.size + 1) 3 1 v (asK t o m (k + 1)).length (vsOf (asK t o m (k + 1))) := by
          have e : asK t o m (k + 1) = asK t o m k := by rw [asK, if_neg (by rw [hx]; exact fun q => q.1 hA), List.append_nil]
          rw [e]; exact hown
        clear hown hcw hc
        subst hA
        go_wp2
        go_roundw
        case rel => exact ⟨k + 1, _, by omega, by go_num, rfl, hown', hbox, hbel⟩
        case measure => simp [numOf] <;> omega
      · cases hB : hasB t o ((k : Int) + 1) m with
        | false =>
          have cH : ∀ W, (∀ j, j < m → W.cell? ⟨b, off + j, none⟩ = some (vi (t (o + (j : Int))))) → Calls prog 52 #[.slice (some ⟨b, off, none⟩) m c, .int .i64 ((k : Int) + 1)] W fun e w' => e = .returned (.bool false) ∧ Below W.heap.size W w' := fun W h => by
            have := has_some b off m c t o ((k : Int) + 1) W hm h
            rw [hB] at this; exact this
          have eK : asK t o m (k + 1) = asK t o m k := by rw [asK, if_neg (by rw [hB]; exact fun q => by cases q.2), List.append_nil]
          go_wp2_with (first
            | (go_at_call 52; refine (cH _ hcw).mono ?_; rintro e w2 ⟨rfl, hk2⟩)
            | go_in)
          have hk2' := hk2
          have hown' : w2.ownsRow (w.heap.size + 1) 3 1 v (asK t o m (k + 1)).length (vsOf (asK t o m (k + 1))) := by
            rw [eK]; exact owns_below hown hk2'
          have hbox' := (hk2'.block _ (lt_of_block hbox)).trans hbox
          have hbel' : Below w.heap.size w w2 := hbel.trans (hk2'.mono hbel.size)
          go_roundw
          case rel => exact ⟨k + 1, _, by omega, by go_num, rfl, hown', hbox', hbel'⟩
          case measure => simp [numOf] <;> omega
        | true =>
          have cH : ∀ W, (∀ j, j < m → W.cell? ⟨b, off + j, none⟩ = some (vi (t (o + (j : Int))))) → Calls prog 52 #[.slice (some ⟨b, off, none⟩) m c, .int .i64 ((k : Int) + 1)] W fun e w' => e = .returned (.bool true) ∧ Below W.heap.size W w' := fun W h => by
            have := has_some b off m c t o ((k : Int) + 1) W hm h
            rw [hB] at this; exact this
          have eK : asK t o m (k + 1) = asK t o m k ++ [(k : Int) + 1] := by rw [asK, if_pos ⟨by rw [hx]; exact hA, hB⟩]
          have hlen := length_asK t o m k
          go_wp2_with (first
            | (go_at_call 52; refine (cH _ hcw).mono ?_; rintro e w2 ⟨rfl, hk2⟩; have own2 := owns_below hown hk2)
            | (at_builtin; refine wpList_append_own _ rfl _ _ 25 rfl (w.heap.size + 1) 3 i0 (.int .i64 0) 1 8 underlying25 hi hz0 hz1 hz2 rfl (by decide) _ _ _ rfl (own2.alloc _) ⟨w2.heap.size, 0, none⟩ 1 1 [.int .i64 ((k : Int) + 1)] rfl rfl ?c1 ?c2 ?c3 ?c4 ?c5 ?_)
            | go_in)
          case c1 =>
            intro j u hj
            match j, hj with
            | 0, hj => simp at hj; subst hj; simp [Addr.add]
          case c2 => intro u hu; simp at hu; subst hu; rfl
          case c3 => unfold maxLen; omega
          case c4 => omega
          case c5 => have := hbel.size; have := hk2.size; simp; omega
          intro v' w3 hown3 hgrow _
          have hbel2 : Below w.heap.size w w2 := hbel.trans (hk2.mono hbel.size)
          have hb3 : Below w.heap.size w w3 := (hbel2.alloc hbel2.size _).grown hgrow (by have := hbel2.size; simp; omega) (fun q hq => by have := (own2.lt q hq).1; omega)
          have ho3 : w3.ownsRow (w.heap.size + 1) 3 1 v' (asK t o m (k + 1)).length (vsOf (asK t o m (k + 1))) := by
            rw [eK]; simpa [vsOf] using hown3
          have hbox3 : w3.heap[w.heap.size]? = some (.cells #[.int .i64 f1, .int .i64 f2, .bool xb, .string ⟨sl.toArray⟩, .slice (some ⟨b, off, none⟩) m c] 27 (0, 0)) := by
            have q1 : w2.heap[w.heap.size]? = _ := (hk2.block _ (lt_of_block hbox)).trans hbox
            have q2 := old1 q1 (Obj.cells #[.int .i64 ((k : Int) + 1)] 3)
            rw [hgrow.block _ (lt_of_block q2) (fun e => by have := (own2.lt _ e.symm).1; omega)]; exact q2
          clear hown3 hgrow own2 hown hbox
          go_wp2
          go_roundw
          case rel => exact ⟨k + 1, _, by omega, by go_num, rfl, ho3, hbox3, hb3⟩
          case measure => simp [numOf] <;> omega
    · have hk9 : k = 9 := by omega
      subst hk9
      clear hcw hc
      go_wp2
      go_ret
      exact ⟨_, rfl, owns_base hown (Nat.le_succ _), hbel⟩
end Go.Proofs.Tryz

namespace Go.Proofs.Tryz
open Go Go.Am Go.RowKit Go.Dr
set_option maxRecDepth 100000

theorem owns_some {w : World} {B e s : Nat} {v : Value} {n : Nat} {xs : List Value} (h : w.ownsRow B e s v n xs) (hn : 0 < n) : ∃ g cap, v = .slice (some ⟨g, 0, none⟩) n cap ∧ B ≤ g ∧ g < w.heap.size := by
  rcases h.2 with ⟨_, h0⟩ | ⟨g, cap, cur, hv, hb, hg, _⟩
  · omega
  · exact ⟨g, cap, hv, hb, (Array.getElem?_eq_some_iff.1 hg).1⟩

set_option maxHeartbeats 1600000 in
theorem drawR_w (key : Int) (n : Nat) (w : World) (h1 : 1 ≤ key) (h2 : key ≤ 2147483398) (hn : n ≤ 256) :
    Calls prog 40 #[.int .i64 key, .int .i64 n] w fun e w' => ∃ v, e = .returned v ∧ w'.ownsRow w.heap.size 3 1 v n (vsOf (drawL key n)) ∧ Below w.heap.size w w' := by
  obtain ⟨i0, hi, hz0, hz1, hz2⟩ := info_parts info3
  go_enter func40, ntmps40
  go_wp2
  go_loopw [5, 6] (fun v c wr => ∃ (k : Nat) (s : Value), k ≤ n ∧ c = .int .i64 k ∧ s = v ∧ wr.ownsRow w.heap.size 3 1 s k (vsOf (upto k)) ∧ Below w.heap.size w wr) (fun _ c _ => n - (numOf c).toNat)
  case atStart => exact ⟨0, _, Nat.zero_le _, rfl, rfl, World.ownsRow_nil _ _ _ _, Below.refl _ _⟩
  case round =>
    obtain ⟨k, s, hk, rfl, rfl, hown, hbel⟩ := hrel
    go_wp2_with (first
      | (at_builtin; refine wpList_append_own _ rfl _ _ 25 rfl w.heap.size 3 i0 (.int .i64 0) 1 8 underlying25 hi hz0 hz1 hz2 rfl (by decide) _ _ _ rfl (hown.alloc _) ⟨wr.heap.size, 0, none⟩ 1 1 [.int .i64 k] rfl rfl ?c1 ?c2 ?c3 ?c4 ?c5 ?_)
      | go_in)
    case c1 =>
      intro j u hj
      match j, hj with
      | 0, hj => simp at hj; subst hj; simp [Addr.add]
    case c2 => intro u hu; simp at hu; subst hu; rfl
    case c3 => unfold maxLen; omega
    case c4 => omega
    case c5 => have := hbel.size; simp; omega
    · intro v' w1 hown' hgrow _
      have hlt : k < n := by assumption
      have hb1 : Below w.heap.size w w1 := (hbel.alloc hbel.size _).grown hgrow (by have := hbel.size; simp; omega) (fun q hq => (hown.lt q hq).1)
      have ho1 : w1.ownsRow w.heap.size 3 1 v' (k + 1) (vsOf (upto (k + 1))) := by
        rw [upto_succ]; simpa [vsOf] using hown'
      clear hown' hgrow hown
      go_wp2
      go_roundw
      case rel => exact ⟨k + 1, _, by omega, by go_num, rfl, ho1, hb1⟩
      case measure => simp [numOf] <;> omega
    · have hkn : k = n := by omega
      subst hkn
      have hown2 := hown
      clear hown hk
      go_loopw [7, 8] (fun vx vi wx => ∃ (c : Nat) (x : Int) (l : List Int), c ≤ k ∧ vx = .int .i64 x ∧ vi = .int .i64 ((c : Int) - 1) ∧ 0 ≤ x ∧ x ≤ 2147483398 ∧ l.length = k ∧ drw (c - 1) x l = drawL key k ∧
          wx.ownsRow w.heap.size 3 1 s k (vsOf l) ∧ Below w.heap.size w wx) (fun _ vi _ => (numOf vi).toNat)
      case atStart => exact ⟨k, key, upto k, Nat.le_refl _, rfl, rfl, by omega, h2, length_upto _, rfl, hown2, hbel⟩
      case round =>
        obtain ⟨c, x, l, hck, rfl, rfl, hx0, hx1, hll, hd, hown, hbl⟩ := hrel
        clear hown2 hbel
        by_cases hc : c ≤ 1
        · have hci : ¬ (1 : Int) ≤ (c : Int) - 1 := by omega
          go_wp2
          go_ret
          have e0 : c - 1 = 0 := by omega
          rw [e0] at hd
          exact ⟨_, rfl, by rw [← hd]; exact hown, hbl⟩
        · obtain ⟨m, rfl⟩ : ∃ m, c = m + 2 := ⟨c - 2, by omega⟩
          have e1 : ((m + 2 : Nat) : Int) - 1 = ((m + 1 : Nat) : Int) := by omega
          rw [e1]
          have hci : (1 : Int) ≤ ((m + 1 : Nat) : Int) := by omega
          obtain ⟨g, cap, rfl, hBg, hgl⟩ := owns_some hown (by omega)
          obtain ⟨y, hy⟩ : ∃ y, nextX x = y := ⟨_, rfl⟩
          obtain ⟨K, hK⟩ : ∃ K : Nat, y.tmod ((m : Int) + 2) = (K : Int) := ⟨(y.tmod ((m : Int) + 2)).toNat, by rw [Int.toNat_of_nonneg]; exact (place_range (by rw [← hy]; exact (nextX_range hx0).1) m).1⟩
          have hKr : K < m + 2 := by
            have := (place_range (x := y) (by rw [← hy]; exact (nextX_range hx0).1) m).2
            omega
          have hx' : (40692 * x).tmod 2147483399 = y := hy
          have hK' : y.tmod ((m : Int) + 1 + 1) = (K : Int) := by rw [← hK]; congr 1
          have hKk : K < k := by omega
          have hmk : m + 1 < k := by omega
          have hcell : ∀ j, j < k → wr.cell? ⟨g, j, none⟩ = some (.int .i64 (l[j]?.getD 0)) := fun j h => by
            rw [hown.cellAt j (by omega)]
            simp only [vsOf, List.getElem?_map]
            rw [List.getElem?_eq_getElem (by omega)]; rfl
          obtain ⟨a, ha⟩ : ∃ a, l[m + 1]?.getD 0 = a := ⟨_, rfl⟩
          obtain ⟨b, hb⟩ : ∃ b, l[K]?.getD 0 = b := ⟨_, rfl⟩
          have hc1 := hcell _ hKk
          have hc2 := hcell _ hmk
          rw [ha] at hc2
          rw [hb] at hc1
          have hs1 := hown.stored (m + 1) (.int .i64 b)
          have hs2 := hs1.1.stored K (.int .i64 a)
          have hc3 : (wr.setCell ⟨g, m + 1, none⟩ (.int .i64 b)).cell? ⟨g, K, none⟩ = some (.int .i64 b) := by
            rw [hs1.1.cellAt K (by omega)]
            simp only [vsOf, List.getElem?_set, List.getElem?_map, List.length_map]
            by_cases e : m + 1 = K
            · rw [if_pos e, if_pos (by omega)]
            · rw [if_neg e, ← hb, List.getElem?_eq_getElem (by omega)]; rfl
          have hf3 : (wr.setCell ⟨g, m + 1, none⟩ (.int .i64 b)).frozen? ⟨g, K, none⟩ = false := hs1.1.frozenAt K
          have hown' : ((wr.setCell ⟨g, m + 1, none⟩ (.int .i64 b)).setCell ⟨g, K, none⟩ (.int .i64 a)).ownsRow w.heap.size 3 1 (.slice (some ⟨g, 0, none⟩) k cap) k (vsOf (swp l (m + 1) K)) := by
            have := hs2.1
            rw [← ha, ← hb] at this ⊢
            simpa [vsOf, swp, List.map_set] using this
          have hbl' : Below w.heap.size w ((wr.setCell ⟨g, m + 1, none⟩ (.int .i64 b)).setCell ⟨g, K, none⟩ (.int .i64 a)) :=
            (hbl.grown hs1.2 hbl.size (fun q hq => by cases hq; omega)).grown hs2.2 (by have := hbl.size; simp; omega) (fun q hq => by cases hq; omega)
          have hy2 := nextX_range hx0
          rw [hy] at hy2
          have hd' : drw ((m + 1) - 1) y (swp l (m + 1) K) = drawL key k := by
            rw [← hd]
            show drw m y (swp l (m + 1) K) = drw (m + 1) x l
            rw [drw, hy, hK]; rfl
          clear hs1 hs2
          have hf1 : wr.frozen? ⟨g, K, none⟩ = false := hown.frozenAt K
          have hf2 : wr.frozen? ⟨g, m + 1, none⟩ = false := hown.frozenAt (m + 1)
          clear hcell
          go_wp2
          go_region
          go_wp2
          go_roundw
          case rel => exact ⟨m + 1, y, swp l (m + 1) K, by omega, rfl, by go_num, hy2.1, hy2.2, by rw [length_swp, hll], hd', hown'.drew, hbl'.drew⟩
          case measure => simp [numOf] <;> omega
end Go.Proofs.Tryz

namespace Go.Proofs.Tryz
open Go Go.Am Go.RowKit Go.Dr
set_option maxRecDepth 100000

theorem same_none (a1 a2 : Option Addr) (c1 c2 : Nat) (w : World) : Calls prog 66 #[.slice a1 0 c1, .slice a2 0 c2] w fun e w' => e = .returned (.bool true) ∧ Below w.heap.size w w' := by
  go_enter func66, ntmps66
  go_wp2
  refine wp_loop_rounds 1 ?_
  rw [rounds_succ]
  go_wp2
  go_ret
  exact ⟨rfl, Below.refl _ _⟩

theorem same_some (b1 o1 b2 o2 m c1 c2 : Nat) (t : Nat → Int) (w : World) (hm : m ≤ 1000000) (h1 : ∀ j, j < m → w.cell? ⟨b1, o1 + j, none⟩ = some (.int .i64 (t j))) (h2 : ∀ j, j < m → w.cell? ⟨b2, o2 + j, none⟩ = some (.int .i64 (t j))) :
    Calls prog 66 #[.slice (some ⟨b1, o1, none⟩) m c1, .slice (some ⟨b2, o2, none⟩) m c2] w fun e w' => e = .returned (.bool true) ∧ Below w.heap.size w w' := by
  go_enter func66, ntmps66
  go_wp2
  go_loopw [5] (fun c wr => ∃ k : Nat, k ≤ m ∧ c = .int .i64 k ∧ Below w.heap.size w wr) (fun c _ => m - (numOf c).toNat)
  case atStart => exact ⟨0, Nat.zero_le _, rfl, Below.refl _ _⟩
  case round =>
    obtain ⟨k, hk, rfl, hbel⟩ := hrel
    by_cases hlt : k < m
    · have e1 : wr.cell? ⟨b1, o1 + k, none⟩ = some (.int .i64 (t k)) := (hbel.cell (cell_under (h1 k hlt))).trans (h1 k hlt)
      have e2 : wr.cell? ⟨b2, o2 + k, none⟩ = some (.int .i64 (t k)) := (hbel.cell (cell_under (h2 k hlt))).trans (h2 k hlt)
      clear h1 h2
      go_wp2
      go_region
      go_wp2
      go_roundw
      case rel => exact ⟨k + 1, by omega, by go_num, hbel.drew⟩
      case measure => simp [numOf] <;> omega
    · go_wp2
      go_ret
      exact ⟨rfl, hbel⟩
end Go.Proofs.Tryz
