/- The kinds of counts, on both sides; lists of words compared: by the kit's walk. Totals compared: by the kit's walk. Counts added, by the reference: by the kit's walk. Greatest common divisors, rates and kinds, on both sides: by the kit's walk. Rates in lowest terms, on both sides: by the kit's walk. A game checked by the season: by the kit's walk. A game checked by the reference: by the kit's walk. -/
import Derived.Test.YtbfonnoebbjenaaGreatDoorAxD
import Derived.Deep.QuietTactic
import Derived.Test.YtbfonnoebbjenaaGreatDoorAxTb
import Derived.Test.YtbfonnoebbjenaaGreatDoorAxUb
import Derived.Test.YtbfonnoebbjenaaGreatDoorAxH
namespace Go.Proofs.Tryz
open Go Go.Am Go.RowKit Go.Op
set_option maxRecDepth 100000

/-- A list of words. -/
def IsWords (w : World) (v : Value) (l : List (List UInt8)) : Prop := Row w v 1 l.length fun i => [.string (bA (l[i]?.getD []))]
def wordsV (l : List (List UInt8)) : List Value := l.map fun x => .string (bA x)
theorem wordsV_get {l : List (List UInt8)} {i : Nat} {u : Value} (h : (wordsV l)[i]? = some u) : u = .string (bA (l[i]?.getD [])) := by
  simp only [wordsV, List.getElem?_map, Option.map_eq_some_iff] at h
  obtain ⟨x, h1, rfl⟩ := h
  rw [h1]; rfl
theorem words_own {w : World} {base : Nat} {v : Value} {l : List (List UInt8)} (h : w.ownsRow base 9 1 v l.length (wordsV l)) : IsWords w v l := by
  rcases h.2 with ⟨rfl, h0⟩ | ⟨g, cap, cur, rfl, h1, h2, h3, h4⟩
  · unfold IsWords; rw [h0]; exact Row.nil _ _ _
  · refine ⟨_, cap, rfl, h3, fun _ => ⟨g, 0, rfl, fun i hi j u hu => ?_⟩⟩
    match j, hu with
    | 0, hu =>
      simp only [List.getElem?_cons_zero, Option.some.injEq] at hu
      subst hu
      have hx : i < (wordsV l).length := by simpa [wordsV] using hi
      have := h.cellAt i (by rw [Nat.mul_one]; exact hi)
      rw [Nat.zero_add, Nat.mul_one, Nat.add_zero, this, List.getElem?_eq_getElem hx]
      congr 1
      exact wordsV_get (List.getElem?_eq_getElem hx)
    | j + 1, hu => simp at hu
/-- The kinds. -/
def kindsW : List (List UInt8) := [[97, 98], [104], [100], [116], [104, 114], [114], [114, 98, 105], [119], [107], [115, 98], [112, 111], [101]]
theorem kinds_at {w : World} (h : Laid w) : ∀ j u, (wordsV kindsW)[j]? = some u → w.cell? ⟨0, 0 + j, none⟩ = some u := fun j u hj => by
  rw [Nat.zero_add]
  exact h.2 j u hj
theorem kindsR_w (w : World) : Calls prog 60 #[] w fun e w' => ∃ v, e = .returned v ∧ IsWords w' v kindsW ∧ Below w.heap.size w w' := by
  have hb : Below w.heap.size w (w.alloc (.cells (wordsV kindsW).toArray 9)) := (Below.refl _ _).alloc (Nat.le_refl _) _
  have hW : IsWords (w.alloc (.cells (wordsV kindsW).toArray 9)) (.slice (some ⟨w.heap.size, 0, none⟩) 12 12) kindsW := by
    refine words_own (base := w.heap.size) ⟨rfl, .inr ⟨_, 12, _, rfl, Nat.le_refl _, heap_alloc_new _ _, by decide, by decide, rfl, rfl⟩⟩
  go_enter func60, ntmps60
  go_wp2
  go_ret
  exact ⟨_, rfl, hW, hb⟩
end Go.Proofs.Tryz

namespace Go.Proofs.Tryz
open Go Go.Am Go.RowKit Go.Op
set_option maxRecDepth 100000

end Go.Proofs.Tryz

namespace Go.Proofs.Tryz
open Go Go.Am Go.RowKit Go.Op
set_option maxRecDepth 100000

/-- A number of int's. -/
def inI (x : Int) : Prop := -9223372036854775808 ≤ x ∧ x ≤ 9223372036854775807
theorem inI_wrap {x : Int} (h : inI x) : IntKind.i64.wrap x = x ∧ wrap64 x = x := by
  obtain ⟨h1, h2⟩ := h
  have e : IntKind.i64.wrap x = x := IntWalk.i64_in _ (by omega)
  exact ⟨e, by simp only [wrap64] at *; omega⟩
theorem results_cell1 {fn : Func} {p : Tmp} {ty : TypeId} (h : fn.results = #[.cell p ty]) (tmps : Array Value) (P : Program) (w : World) :
    (results fn tmps).run P w = ((asAddr (tmps.getD p undef)).run P w).andThen fun a w₁ => (loadVar ty a).run P w₁ := by
  simp only [results, h]
  simp [Sem.run_bind, Result.andThen]
end Go.Proofs.Tryz

namespace Go.Proofs.Tryz
open Go Go.Am Go.RowKit Go.Gcx Go.Op
set_option maxRecDepth 100000

theorem gcd_w (a0 b0 : Int) (w : World) :
    Calls prog 109 #[.int .i64 a0, .int .i64 b0] w fun e w' => e = .returned (.int .i64 (euc a0 b0)) ∧ Below w.heap.size w w' := by
  go_enter func109, ntmps109
  go_wp2
  go_loopw [0, 1] (fun va vb wr => ∃ a b : Int, va = .int .i64 a ∧ vb = .int .i64 b ∧ euc a b = euc a0 b0 ∧ Below w.heap.size w wr) (fun _ vb _ => (numOf' vb).natAbs)
  case atStart => exact ⟨a0, b0, rfl, rfl, rfl, Below.refl _ _⟩
  case round =>
    obtain ⟨a, b, rfl, rfl, hg, hal⟩ := hrel
    go_wp2
    · have hb0 : ¬ b = 0 := by simpa using ‹(b != 0) = true›
      go_region
      all_goals (try go_wp2)
      all_goals (
        go_roundw
        case rel =>
          refine ⟨b, a.tmod b, rfl, rfl, ?_, hal.drew⟩
          rw [← hg, euc_step a b hb0]
        case measure => simpa [numOf'] using tmod_lt a b hb0)
    · have hb0 : b = 0 := by simpa using ‹(b != 0) = false›
      subst hb0
      go_ret
      refine ⟨?_, hal⟩
      rw [← hg, euc_zero]
      rfl
theorem div_w (a0 b0 : Int) (w : World) :
    Calls prog 154 #[.int .i64 a0, .int .i64 b0] w fun e w' => e = .returned (.int .i64 (divI a0 b0)) ∧ Below w.heap.size w w' := by
  go_enter func154, ntmps154
  go_wp2
  go_loopw [0, 1] (fun va vb wr => ∃ a b : Int, va = .int .i64 a ∧ vb = .int .i64 b ∧ euc a b = euc a0 b0 ∧ Below w.heap.size w wr) (fun _ vb _ => (numOf' vb).natAbs)
  case atStart => exact ⟨a0, b0, rfl, rfl, rfl, Below.refl _ _⟩
  case round =>
    obtain ⟨a, b, rfl, rfl, hg, hal⟩ := hrel
    go_wp2
    · have hb0 : ¬ b = 0 := by simpa using ‹(b != 0) = true›
      go_region
      all_goals (try go_wp2)
      all_goals (
        go_roundw
        case rel =>
          refine ⟨b, a.tmod b, rfl, rfl, ?_, hal.drew⟩
          rw [← hg, euc_step a b hb0]
        case measure => simpa [numOf'] using tmod_lt a b hb0)
    all_goals (
      have hb0 : b = 0 := by simpa using ‹(b != 0) = false›
      subst hb0
      go_ret
      refine ⟨?_, hal⟩
      rw [divI, ← hg, euc_zero]
      have hw : IntKind.wrap .i64 (-a) = wrap64 (-a) := by unfold wrap64; exact IntKind.wrap_i64 (-a)
      rw [hw]
      rfl)
theorem abs_w (a : Int) (h : -1000000000000 ≤ a ∧ a ≤ 1000000000000) (w : World) : Calls prog 110 #[.int .i64 a] w fun e w' => e = .returned (.int .i64 (a.natAbs : Int)) ∧ w' = w := by
  by_cases h0 : a < 0
  · have e : (a.natAbs : Int) = wrap64 (-a) := by unfold wrap64; omega
    rw [e]
    clear e h
    go_enter func110, ntmps110
    go_wp2
    go_ret
    exact ⟨rfl, rfl⟩
  · have e : (a.natAbs : Int) = a := by omega
    rw [e]
    clear e h
    go_enter func110, ntmps110
    go_wp2
    go_ret
    exact ⟨rfl, rfl⟩

/-! ### kinds -/
/-- The place of a string among those from the place i on, or -1. -/
def idxW (s : List UInt8) : List (List UInt8) → Nat → Int
  | [], _ => -1
  | x :: l, i => if x = s then (i : Int) else idxW s l (i + 1)
def kindN (s : List UInt8) : Int := idxW s kindsW 0
def kindE (s : List UInt8) : Int := if kindN s < 0 then 13 else 0
theorem idxW_drop {s : List UInt8} {l : List (List UInt8)} {i : Nat} {x : List UInt8} (h : l[i]? = some x) : idxW s (l.drop i) i = if x = s then (i : Int) else idxW s (l.drop (i + 1)) (i + 1) := by
  have hi := (List.getElem?_eq_some_iff.1 h).1
  rw [List.drop_eq_getElem_cons hi, (List.getElem?_eq_some_iff.1 h).2, idxW]
theorem idxW_end {s : List UInt8} {l : List (List UInt8)} : idxW s (l.drop l.length) l.length = -1 := by simp [idxW]
theorem idxW_lt (s : List UInt8) : ∀ (l : List (List UInt8)) (i : Nat), idxW s l i = -1 ∨ ((i : Int) ≤ idxW s l i ∧ idxW s l i < i + l.length)
  | [], _ => .inl rfl
  | x :: l, i => by
    unfold idxW
    split
    · right; simp only [List.length_cons]; omega
    · rcases idxW_lt s l (i + 1) with h | h
      · exact .inl h
      · right; simp only [List.length_cons]; omega
theorem kindN_in (s : List UInt8) : kindN s = -1 ∨ (0 ≤ kindN s ∧ kindN s < 12) := by
  have := idxW_lt s kindsW 0
  unfold kindN
  have e : kindsW.length = 12 := rfl
  rw [e] at this
  omega
theorem kindAt_w (s : List UInt8) (w : World) : Calls prog 34 #[.string (bA s)] w fun e w' => e = .returned (.int .i64 (kindN s)) ∧ Below w.heap.size w w' := by
  have c60 := kindsR_w w
  go_enter func34, ntmps34
  go_wp2_with fail
  go_at_call 60
  refine c60.mono ?_
  rintro e W1 ⟨v, rfl, hv, hb1⟩
  obtain ⟨n, hn⟩ : ∃ n, kindsW.length = n := ⟨_, rfl⟩
  have HN := Lib.hid hn
  have hv0 := hv
  obtain ⟨a1, k1, rfl, hk1⟩ := hv0.slice
  have hv1 : Row W1 (.slice a1 kindsW.length k1) 1 kindsW.length fun i => [.string (bA (kindsW[i]?.getD []))] := hv
  have hn12 : n ≤ 12 := by rw [← hn]; exact Nat.le_refl 12
  rw [hn] at hv1 hk1 ⊢
  have HV := Lib.hid hv1
  have HS : Hid (idxW s (kindsW.drop 0) 0 = kindN s) := Lib.hid rfl
  have ls : (bA s).toList = s := bA_list _
  clear c60 hv hv0 hv1 hn
  go_wp2_with fail
  go_loopw [4] (fun t wr => ∃ i : Nat, i ≤ n ∧ t = .int .i64 i ∧ Hid (idxW s (kindsW.drop i) i = kindN s) ∧ Below W1.heap.size W1 wr) (fun t _ => n - (numOf' t).toNat)
  case atStart => exact ⟨0, Nat.zero_le _, rfl, HS, Below.refl _ _⟩
  case round =>
    clear HS
    obtain ⟨i, hi, rfl, hS, hb⟩ := hrel
    have hb2 := hb1.trans (hb.mono hb1.size)
    by_cases hin : i < n
    · obtain ⟨x, hx⟩ : ∃ x, kindsW[i]? = some x := ⟨_, List.getElem?_eq_getElem (by rw [HN.out]; exact hin)⟩
      obtain ⟨b1, o1, k2, e1, -, p1⟩ := (Row.below HV.out hb).at hin
      simp only [Value.slice.injEq, true_and] at e1
      obtain ⟨rfl, rfl⟩ := e1
      have x1 := p1 0 _ rfl
      simp only [Nat.mul_one, Nat.add_zero, hx, Option.getD_some] at x1
      have lx : (bA x).toList = x := bA_list _
      have hii : (i : Int) < (n : Int) := by omega
      have hS2 := hS.out
      rw [idxW_drop hx] at hS2
      by_cases hq : x = s
      · rw [if_pos hq] at hS2
        have hq1 : (x == s) = true := by simpa using hq
        have HS2 := Lib.hid hS2
        clear hS hq hx p1 hS2
        go_wp2_with fail
        go_ret
        exact ⟨by rw [← HS2.out]; rfl, hb2⟩
      · rw [if_neg hq] at hS2
        have hq1 : (x == s) = false := by simpa using hq
        have hS3 := Lib.hid hS2
        clear hS hq hx p1 hS2
        go_wp2_with fail
        go_roundw
        case rel => exact ⟨i + 1, by omega, by go_num, hS3, hb⟩
        case measure => simp [numOf'] <;> omega
    · obtain rfl : i = n := by omega
      have hS2 := hS.out
      rw [← HN.out, idxW_end] at hS2
      have HS2 := Lib.hid hS2
      clear hS2 hS
      go_wp2_with fail
      go_ret
      exact ⟨by rw [← HS2.out]; rfl, hb2⟩
theorem kindR_w (s : List UInt8) (w : World) : Calls prog 32 #[.string (bA s)] w fun e w' => e = .returned (.int .i64 (kindE s)) ∧ Below w.heap.size w w' := by
  have c := kindAt_w s w
  have hE : kindE s = if kindN s < 0 then 13 else 0 := rfl
  generalize kindN s = k at c hE
  by_cases h : k < 0
  · rw [if_pos h] at hE
    rw [hE]
    clear hE
    go_enter func32, ntmps32
    go_wp2_with fail
    go_at_call 34
    refine c.mono ?_
    rintro e W1 ⟨rfl, hb⟩
    clear c
    go_wp2_with fail
    go_ret
    exact ⟨rfl, hb⟩
  · rw [if_neg h] at hE
    rw [hE]
    clear hE
    go_enter func32, ntmps32
    go_wp2_with fail
    go_at_call 34
    refine c.mono ?_
    rintro e W1 ⟨rfl, hb⟩
    clear c
    go_wp2_with fail
    go_ret
    exact ⟨rfl, hb⟩
/-- The library's search among words. -/
theorem index_w {w : World} {l : List (List UInt8)} {b c n : Nat} (hn : l.length = n) (h4 : n ≤ 1000) (hc : ∀ j x, l[j]? = some x → w.cell? ⟨b, j, none⟩ = some (.string (bA x))) (s : List UInt8) :
    Calls prog 145 #[.slice (some ⟨b, 0, none⟩) n c, .string (bA s)] w fun e w' => e = .returned (.int .i64 (idxW s l 0)) ∧ Below w.heap.size w w' := by
  have HC := Lib.hid hc
  have HN := Lib.hid hn
  have HS : Hid (idxW s (l.drop 0) 0 = idxW s l 0) := Lib.hid rfl
  generalize idxW s l 0 = K at HS ⊢
  have ls : (bA s).toList = s := bA_list _
  clear hc hn
  go_enter func145, ntmps145
  go_wp2_with fail
  go_loopw [8] (fun t wr => ∃ i : Nat, i ≤ n ∧ t = .int .i64 i ∧ Hid (idxW s (l.drop i) i = K) ∧ Below w.heap.size w wr) (fun t _ => n - (numOf' t).toNat)
  case atStart => exact ⟨0, Nat.zero_le _, rfl, HS, Below.refl _ _⟩
  case round =>
    clear HS
    obtain ⟨i, hi, rfl, hS, hb⟩ := hrel
    by_cases hin : i < n
    · obtain ⟨x, hx⟩ : ∃ x, l[i]? = some x := ⟨_, List.getElem?_eq_getElem (by rw [HN.out]; exact hin)⟩
      have x1 : wr.cell? ⟨b, i, none⟩ = some (.string (bA x)) := (hb.cell (cell_under (HC.out i x hx))).trans (HC.out i x hx)
      have lx : (bA x).toList = x := bA_list _
      have hii : (i : Int) < (n : Int) := by omega
      have hS2 := hS.out
      rw [idxW_drop hx] at hS2
      by_cases hq : x = s
      · rw [if_pos hq] at hS2
        have hq1 : (s == x) = true := by simpa using hq.symm
        have HS2 := Lib.hid hS2
        clear hS hq hx hS2
        go_wp2_with fail
        go_ret
        exact ⟨by rw [← HS2.out]; rfl, hb⟩
      · rw [if_neg hq] at hS2
        have hq1 : (s == x) = false := by simpa using fun e => hq e.symm
        have hS3 := Lib.hid hS2
        clear hS hq hx hS2
        go_wp2_with fail
        go_roundw
        case rel => exact ⟨i + 1, by omega, by go_num, hS3, hb⟩
        case measure => simp [numOf'] <;> omega
    · obtain rfl : i = n := by omega
      have hS2 := hS.out
      rw [← HN.out, idxW_end] at hS2
      have HS2 := Lib.hid hS2
      clear hS2 hS
      go_wp2_with fail
      go_ret
      exact ⟨by rw [← HS2.out]; rfl, hb⟩
theorem kindOf_w {w : World} (h : Laid w) (s : List UInt8) : Calls prog 93 #[.string (bA s)] w fun e w' => e = .returned (.tuple #[.int .i64 (kindN s), .int .i64 (kindE s)]) ∧ Below w.heap.size w w' := by
  have hk := kinds_at h
  have cI := index_w (w := w) (l := kindsW) (b := 0) (c := 12) rfl (by decide) (fun j x hx => by
    have := hk j (.string (bA x)) (by unfold wordsV; rw [List.getElem?_map, hx]; rfl)
    rwa [Nat.zero_add] at this) s
  have cI : Calls prog 145 #[.slice (some ⟨0, 0, none⟩) 12 12, .string (bA s)] w fun e w' => e = .returned (.int .i64 (kindN s)) ∧ Below w.heap.size w w' := cI
  have hE : (if decide (kindN s < 0) = true then 13 else 0) = kindE s := by unfold kindE; by_cases q : kindN s < 0 <;> simp [q]
  generalize kindN s = k at cI hE ⊢
  have cW := when_w (decide (k < 0)) 13
  rw [hE] at cW
  generalize kindE s = f at cW ⊢
  clear hE hk h
  go_enter func93, ntmps93
  go_wp2_with fail
  go_at_call 145
  refine cI.mono ?_
  rintro e W1 ⟨rfl, hb⟩
  clear cI
  go_wp2_with fail
  go_at_call 113
  refine (cW _).mono ?_
  rintro e W2 ⟨rfl, rfl⟩
  clear cW
  go_wp2_with fail
  go_ret2
  exact ⟨rfl, hb⟩
end Go.Proofs.Tryz

namespace Go.Proofs.Tryz
open Go Go.Am Go.RowKit Go.Gcx Go.Op
set_option maxRecDepth 100000

/-- A number of a total. -/
def rB (n : Int) : Prop := -999999999 ≤ n ∧ n ≤ 999999999
def gcdI (n d : Int) : Int := (Nat.gcd n.natAbs d.natAbs : Nat)
/-- A quotient in lowest terms. -/
def rtN (n d : Int) : Int := if d < 0 then (-n).tdiv (gcdI n d) else n.tdiv (gcdI n d)
def rtD (n d : Int) : Int := if d < 0 then (-d).tdiv (gcdI n d) else d.tdiv (gcdI n d)
theorem gcdI_in {n d : Int} (hd : rB d) (h0 : d ≠ 0) : 0 < gcdI n d ∧ gcdI n d ≤ 999999999 := by
  have h1 := gcd_le n d h0
  have h2 := gcd_pos n d h0
  unfold gcdI
  unfold rB at hd
  omega
theorem tdiv_in {n g : Int} (hn : rB n) : rB (n.tdiv g) := by
  have h2 : (n.tdiv g).natAbs ≤ n.natAbs := by rw [Int.natAbs_tdiv]; exact Nat.div_le_self _ _
  unfold rB at *
  omega
theorem wrap_rB {n : Int} (h : rB n) : wrap64 n = n := by unfold wrap64; unfold rB at h; omega
theorem rB_neg {n : Int} (h : rB n) : rB (-n) := by unfold rB at *; omega
theorem box2f {w : World} {b : Nat} {v0 v1 : Value} {e : TypeId} (h : At w b #[v0, v1] e) :
    (w.cell? ⟨b, 0, none⟩ = some v0 ∧ w.cell? ⟨b, 1, none⟩ = some v1) ∧ w.frozen? ⟨b, 0, none⟩ = false ∧ w.frozen? ⟨b, 1, none⟩ = false := by
  unfold At at h
  refine ⟨⟨?_, ?_⟩, ?_, ?_⟩ <;> simp [World.cell?, World.frozen?, h]
theorem quo_in (n g : Int) (hn : rB n) : IntKind.wrap .i64 (n.tdiv g) = n.tdiv g := by
  have := tdiv_in (g := g) hn
  unfold rB at this
  exact wrap_id (by omega) (by omega)
theorem res38 {tmps : Array Value} {W : World} {b : Nat} {c0 c1 : Value} (hp : tmps.getD 4 undef = .pointer (some ⟨b, 0, none⟩)) (hz : At W b #[c0, c1] 60) : (results f38 tmps).run prog W = .ok (.agg #[c0, c1]) W := by
  obtain ⟨y0, y1⟩ := box2 hz
  rw [results_cell1 (show f38.results = #[.cell 4 60] from rfl), hp]
  simp [go_sem, y0, y1]
theorem rateR_w (n d : Int) (hn : rB n) (hd : rB d) (h0 : d ≠ 0) (w : World) : Calls prog 38 #[.int .i64 n, .int .i64 d] w fun e w' => e = .returned (.agg #[.int .i64 (rtN n d), .int .i64 (rtD n d)]) ∧ Below w.heap.size w w' := by
  have c1 := abs_w n (by unfold rB at hn; omega)
  have c2 := abs_w d (by unfold rB at hd; omega)
  have c3 := gcd_w (n.natAbs : Int) (d.natAbs : Int)
  have e3 : euc (n.natAbs : Int) (d.natAbs : Int) = gcdI n d := by rw [euc_gcd _ _ (by omega) (by omega)]; simp [gcdI]
  rw [e3] at c3
  obtain ⟨g1, g2⟩ := gcdI_in (n := n) hd h0
  have hN : rtN n d = if d < 0 then (-n).tdiv (gcdI n d) else n.tdiv (gcdI n d) := rfl
  have hD : rtD n d = if d < 0 then (-d).tdiv (gcdI n d) else d.tdiv (gcdI n d) := rfl
  generalize gcdI n d = g at c3 g1 g2 hN hD
  generalize (n.natAbs : Int) = an at c1 c3
  generalize (d.natAbs : Int) = ad at c2 c3
  have hg0 : ¬ g = 0 := by omega
  have i1 := wrap_rB (rB_neg hn)
  have i2 := wrap_rB (rB_neg hd)
  have hx := at_new w #[.int .i64 0, .int .i64 0] 60
  have hal : Below w.heap.size w (w.alloc (.cells #[.int .i64 0, .int .i64 0] 60)) := (Below.refl _ _).alloc (Nat.le_refl _) _
  clear e3
  by_cases hlt : d < 0
  · rw [if_pos hlt] at hN hD
    have q3 := quo_in (-n) g (rB_neg hn)
    have q4 := quo_in (-d) g (rB_neg hd)
    rw [hN, hD]
    obtain ⟨m, hm⟩ : ∃ m, -n = m := ⟨_, rfl⟩
    obtain ⟨k, hk⟩ : ∃ m, -d = m := ⟨_, rfl⟩
    rw [hm] at i1 q3 ⊢
    rw [hk] at i2 q4 ⊢
    clear hN hD g1 g2 h0
    go_enter func38, ntmps38
    go_wp2_with fail
    go_at_call 110
    refine (c1 _).mono ?_
    rintro e W1 ⟨rfl, rfl⟩
    go_wp2_with fail
    go_at_call 110
    refine (c2 _).mono ?_
    rintro e W2 ⟨rfl, rfl⟩
    go_wp2_with fail
    go_at_call 109
    refine (c3 _).mono ?_
    rintro e W3 ⟨rfl, hb⟩
    have hx3 := hx.below hb hx.lt
    have hb3 := hal.trans (hb.mono hal.size)
    obtain ⟨⟨x0, x1⟩, f0, f1⟩ := box2f hx3
    clear c1 c2 c3 hx hb hal
    go_wp2_with fail
    have hbz := ((hb3.setCell (p := ⟨w.heap.size, 0, none⟩) (Nat.le_refl _) (.int .i64 (m.tdiv g))).setCell (p := ⟨w.heap.size, 1, none⟩) (Nat.le_refl _) (.int .i64 (k.tdiv g))).drew
    have hxz : At ((W3.setCell ⟨w.heap.size, 0, none⟩ (.int .i64 (m.tdiv g))).setCell ⟨w.heap.size, 1, none⟩ (.int .i64 (k.tdiv g))).drew w.heap.size #[.int .i64 (m.tdiv g), .int .i64 (k.tdiv g)] 60 := ((hx3.set 0 (.int .i64 (m.tdiv g))).set 1 (.int .i64 (k.tdiv g))).drew
    go_region
    all_goals (
      go_wp2_with fail
      exact bodyPost_ret (res38 rfl hxz) rfl ⟨rfl, hbz⟩)
  · rw [if_neg hlt] at hN hD
    have q3 := quo_in n g hn
    have q4 := quo_in d g hd
    rw [hN, hD]
    clear hN hD g1 g2 h0 i1 i2
    go_enter func38, ntmps38
    go_wp2_with fail
    go_at_call 110
    refine (c1 _).mono ?_
    rintro e W1 ⟨rfl, rfl⟩
    go_wp2_with fail
    go_at_call 110
    refine (c2 _).mono ?_
    rintro e W2 ⟨rfl, rfl⟩
    go_wp2_with fail
    go_at_call 109
    refine (c3 _).mono ?_
    rintro e W3 ⟨rfl, hb⟩
    have hx3 := hx.below hb hx.lt
    have hb3 := hal.trans (hb.mono hal.size)
    obtain ⟨⟨x0, x1⟩, f0, f1⟩ := box2f hx3
    clear c1 c2 c3 hx hb hal
    go_wp2_with fail
    have hbz := ((hb3.setCell (p := ⟨w.heap.size, 0, none⟩) (Nat.le_refl _) (.int .i64 (n.tdiv g))).setCell (p := ⟨w.heap.size, 1, none⟩) (Nat.le_refl _) (.int .i64 (d.tdiv g))).drew
    have hxz : At ((W3.setCell ⟨w.heap.size, 0, none⟩ (.int .i64 (n.tdiv g))).setCell ⟨w.heap.size, 1, none⟩ (.int .i64 (d.tdiv g))).drew w.heap.size #[.int .i64 (n.tdiv g), .int .i64 (d.tdiv g)] 60 := ((hx3.set 0 (.int .i64 (n.tdiv g))).set 1 (.int .i64 (d.tdiv g))).drew
    go_region
    all_goals (
      go_wp2_with fail
      exact bodyPost_ret (res38 rfl hxz) rfl ⟨rfl, hbz⟩)

/-- What the season's rate answers. -/
def inB9 (n : Int) : Int := inE n (-999999999) 999999999
end Go.Proofs.Tryz

namespace Go.Proofs.Tryz
open Go Go.Am Go.RowKit Go.Op
set_option maxRecDepth 100000

end Go.Proofs.Tryz

namespace Go.Proofs.Tryz
open Go Go.Am Go.RowKit Go.Op
set_option maxRecDepth 100000

theorem firstR5_w (e0 e1 e2 e3 e4 : Int) (b : Nat) (W : World) (h0 : W.cell? ⟨b, 0, none⟩ = some (.int .i64 e0)) (h1 : W.cell? ⟨b, 1, none⟩ = some (.int .i64 e1)) (h2 : W.cell? ⟨b, 2, none⟩ = some (.int .i64 e2)) (h3 : W.cell? ⟨b, 3, none⟩ = some (.int .i64 e3)) (h4 : W.cell? ⟨b, 4, none⟩ = some (.int .i64 e4)) :
    Calls prog 22 #[.slice (some ⟨b, 0, none⟩) 5 5] W fun e w' => e = .returned (.int .i64 (fstE [e0, e1, e2, e3, e4])) ∧ w' = W :=
  firstR_w [e0, e1, e2, e3, e4] b 5 W (by simp) fun j z h => by
    match j, h with
    | 0, h => simp at h; subst h; exact h0
    | 1, h => simp at h; subst h; exact h1
    | 2, h => simp at h; subst h; exact h2
    | 3, h => simp at h; subst h; exact h3
    | 4, h => simp at h; subst h; exact h4
    | j + 5, h => simp at h
theorem firstR2_w (e0 e1 : Int) (b : Nat) (W : World) (h0 : W.cell? ⟨b, 0, none⟩ = some (.int .i64 e0)) (h1 : W.cell? ⟨b, 1, none⟩ = some (.int .i64 e1)) :
    Calls prog 22 #[.slice (some ⟨b, 0, none⟩) 2 2] W fun e w' => e = .returned (.int .i64 (fstE [e0, e1])) ∧ w' = W :=
  firstR_w [e0, e1] b 2 W (by simp) fun j z h => by
    match j, h with
    | 0, h => simp at h; subst h; exact h0
    | 1, h => simp at h; subst h; exact h1
    | j + 2, h => simp at h
end Go.Proofs.Tryz
