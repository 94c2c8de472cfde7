/- The kinds of counts, on both sides; lists of words compared: by the kit's walk. -/
import Derived.Test.YtbfonnoebbjenaaGreatDoorAxL
import Derived.Deep.QuietTactic
namespace Go.Proofs.Tryz
open Go Go.Am Go.RowKit Go.Op
set_option maxRecDepth 100000

theorem s114 : prog.underlying 114 = some (.slice 9) := by kernel_rfl
theorem info9 : (prog.info? 9).map (fun i => (i.zero, i.size, i.bytes)) = some (some (.string ⟨#[]⟩), 1, 16) := by kernel_rfl
/-- A list of words. -/
def IsWords (w : World) (v : Value) (l : List (List UInt8)) : Prop := Row w v 1 l.length fun i => [.string (bA (l[i]?.getD []))]
theorem IsWords.below {w W : World} {v : Value} {l : List (List UInt8)} (h : IsWords w v l) (hb : Below w.heap.size w W) : IsWords W v l := Row.below h hb
def wordsV (l : List (List UInt8)) : List Value := l.map fun x => .string (bA x)
theorem wordsV_get {l : List (List UInt8)} {i : Nat} {u : Value} (h : (wordsV l)[i]? = some u) : u = .string (bA (l[i]?.getD [])) := by
  simp only [wordsV, List.getElem?_map, Option.map_eq_some_iff] at h
  obtain ⟨x, h1, rfl⟩ := h
  rw [h1]; rfl
theorem words_own {w : World} {base : Nat} {v : Value} {l : List (List UInt8)} (h : w.ownsRow base 9 1 v l.length (wordsV l)) : IsWords w v l := by
  rcases h.2 with ⟨rfl, h0⟩ | ⟨g, cap, cur, rfl, h1, h2, h3, h4⟩
  · unfold IsWords; rw [h0]; exact Row.nil _ _ _
  · refine ⟨_, cap, rfl, h3, fun _ => ⟨g, 0, rfl, fun i hi j u hu => ?_⟩⟩
    match j, hu with
    | 0, hu =>
      simp only [List.getElem?_cons_zero, Option.some.injEq] at hu
      subst hu
      have hx : i < (wordsV l).length := by simpa [wordsV] using hi
      have := h.cellAt i (by rw [Nat.mul_one]; exact hi)
      rw [Nat.zero_add, Nat.mul_one, Nat.add_zero, this, List.getElem?_eq_getElem hx]
      congr 1
      exact wordsV_get (List.getElem?_eq_getElem hx)
    | j + 1, hu => simp at hu
theorem clone_some (b off m c : Nat) (l : List (List UInt8)) (hl : l.length = m) (w : World) (hm : m ≤ 1000000) (hc : ∀ j u, (wordsV l)[j]? = some u → w.cell? ⟨b, off + j, none⟩ = some u) :
    Calls prog 124 #[.slice (some ⟨b, off, none⟩) m c] w fun e w' => ∃ v, e = .returned v ∧ w'.ownsRow w.heap.size 9 1 v m (wordsV l) ∧ Below w.heap.size w w' := by
  have q25 : ∀ (w : World) (a : Option Addr) (n c n' c' : Nat), (binOp .eql 114 (.slice a n c) (.slice none n' c')).run prog w = .ok (.bool a.isNone) w := fun w a n c n' c' => Lib.run_eql_slice_nil w _ _ a n c n' c' s114
  obtain ⟨i0, hi, hz0, hz1, hz2⟩ := info_more info9
  go_enter func124, ntmps124
  have hown0 : (w.alloc (.cells #[] 9)).ownsRow w.heap.size 9 1 (.slice (some ⟨w.heap.size, 0, none⟩) 0 0) 0 [] := World.ownsRow_lit w #[] 0 (Nat.le_refl _) (Nat.zero_le _) rfl
  go_wp2_with (first
    | (at_builtin; refine wpList_append_own _ rfl (.tmp 5) (.tmp 6) 114 rfl w.heap.size 9 i0 (.string ⟨#[]⟩) 1 16 s114 hi hz0 hz1 hz2 rfl (by decide) _ _ _ rfl hown0 ⟨b, off, none⟩ m c (wordsV l) rfl (by simp [wordsV, hl]) ?c1 ?c2 ?c3 ?c4 ?c5 ?_)
    | go_in)
  case c1 =>
    intro j u hj
    have hw := hc j u hj
    rw [add_adr, World.cell?_alloc_past _ _ _ (cell_under hw)]; exact hw
  case c2 =>
    intro u hu
    simp only [wordsV, List.mem_map] at hu
    obtain ⟨x, _, rfl⟩ := hu; rfl
  case c3 => unfold maxLen; omega
  case c4 => omega
  case c5 => simp
  intro v' w1 hown' hgrow _
  have hb1 : Below w.heap.size w w1 := ((Below.refl _ _).alloc (Nat.le_refl _) _).grown hgrow (by simp) (fun q hq => by cases hq; exact Nat.le_refl _)
  have ho1 : w1.ownsRow w.heap.size 9 1 v' m (wordsV l) := by simpa using hown'
  clear hown' hgrow hown0 hc
  go_wp2
  go_ret
  exact ⟨_, rfl, ho1, hb1⟩

/-- The kinds. -/
def kindsW : List (List UInt8) := [[97, 98], [104], [100], [116], [104, 114], [114], [114, 98, 105], [119], [107], [115, 98], [112, 111], [101]]
theorem kinds_at {w : World} (h : Laid w) : ∀ j u, (wordsV kindsW)[j]? = some u → w.cell? ⟨0, 0 + j, none⟩ = some u := fun j u hj => by
  rw [Nat.zero_add]
  exact h.2 j u hj
theorem kinds_w {w : World} (h : Laid w) : Calls prog 59 #[] w fun e w' => ∃ v, e = .returned v ∧ IsWords w' v kindsW ∧ Below w.heap.size w w' := by
  have cC := clone_some 0 0 12 12 kindsW rfl w (by decide) (kinds_at h)
  go_enter func59, ntmps59
  go_wp2_with fail
  go_at_call 124
  refine cC.mono ?_
  rintro e w' ⟨v, rfl, ho, hb⟩
  have hW := words_own (l := kindsW) ho
  clear cC ho
  go_wp2
  go_ret
  exact ⟨_, rfl, hW, hb⟩
theorem kindsR_w (w : World) : Calls prog 60 #[] w fun e w' => ∃ v, e = .returned v ∧ IsWords w' v kindsW ∧ Below w.heap.size w w' := by
  have hb : Below w.heap.size w (w.alloc (.cells (wordsV kindsW).toArray 9)) := (Below.refl _ _).alloc (Nat.le_refl _) _
  have hW : IsWords (w.alloc (.cells (wordsV kindsW).toArray 9)) (.slice (some ⟨w.heap.size, 0, none⟩) 12 12) kindsW := by
    refine words_own (base := w.heap.size) ⟨rfl, .inr ⟨_, 12, _, rfl, Nat.le_refl _, heap_alloc_new _ _, by decide, by decide, rfl, rfl⟩⟩
  go_enter func60, ntmps60
  go_wp2
  go_ret
  exact ⟨_, rfl, hW, hb⟩
theorem sameWords_w {w : World} {u v : Value} {l : List (List UInt8)} (hu : IsWords w u l) (hv : IsWords w v l) (hl : l.length ≤ 1000) : Calls prog 58 #[u, v] w fun e w' => e = .returned (.bool true) ∧ Below w.heap.size w w' := by
  have hu0 := hu
  have hv0 := hv
  obtain ⟨a1, c1, rfl, -⟩ := hu0.slice
  obtain ⟨a2, c2, rfl, -⟩ := hv0.slice
  obtain ⟨n, hn⟩ : ∃ n, l.length = n := ⟨_, rfl⟩
  unfold IsWords at hu hv
  rw [hn] at hu hv hl ⊢
  clear hu0 hv0 hn
  go_enter func58, ntmps58
  go_wp2_with fail
  go_loopw [5] (fun s wr => ∃ i : Nat, i ≤ n ∧ s = .int .i64 i ∧ Below w.heap.size w wr) (fun s _ => n - (numOf' s).toNat)
  case atStart => exact ⟨0, Nat.zero_le _, rfl, Below.refl _ _⟩
  case round =>
    obtain ⟨i, hi, rfl, hb⟩ := hrel
    by_cases hin : i < n
    · obtain ⟨b1, o1, k1, e1, -, p1⟩ := (Row.below hu hb).at hin
      obtain ⟨b2, o2, k2, e2, -, p2⟩ := (Row.below hv hb).at hin
      simp only [Value.slice.injEq, true_and] at e1 e2
      obtain ⟨rfl, rfl⟩ := e1
      obtain ⟨rfl, rfl⟩ := e2
      have x1 := p1 0 _ rfl
      have x2 := p2 0 _ rfl
      simp only [Nat.mul_one, Nat.add_zero] at x1 x2
      obtain ⟨s, hs⟩ : ∃ s, bA (l[i]?.getD []) = s := ⟨_, rfl⟩
      rw [hs] at x1 x2
      have hii : (i : Int) < (n : Int) := by omega
      have hee : (s.toList != s.toList) = false := by simp
      clear hs p1 p2
      go_wp2_with fail
      go_quiet (fail)
      have hbn := belowN hb nq
      all_goals go_wp2_with fail
      go_roundw
      case rel => exact ⟨i + 1, by omega, by go_num, hbn⟩
      case measure => simp [numOf'] <;> omega
    · obtain rfl : i = n := by omega
      go_wp2_with fail
      go_ret
      exact ⟨rfl, hb⟩
end Go.Proofs.Tryz
