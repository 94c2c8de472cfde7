/- Plain: what the checks of games and books answer. The small checks of a season, on both sides: by the kit's walk. -/
import Derived.Test.YtbfonnoebbjenaaGreatDoorAxC
import Derived.Shelf.SlSorted.Search
namespace Go.Proofs.Tryz
open Go Go.Am Go.RowKit Go.Op
set_option maxRecDepth 100000

def nmE (l : List UInt8) : Int := if isNm l = true then 0 else 8
def inE (n lo hi : Int) : Int := if n < lo ∨ hi < n then 3 else 0
/-- The counts from the place i on. -/
def cntE (c : Nat → Int) : Nat → Nat → Int
  | _, 0 => 0
  | i, k + 1 => if inE (c i) 0 999 = 0 then cntE c (i + 1) k else inE (c i) 0 999
/-- A line by itself. -/
def lineE (t0 t1 : List UInt8) (x : LnD) : Int := if isNm x.p = true then (if x.t ≠ t0 ∧ x.t ≠ t1 then 10 else cntE x.c 0 12) else 8
/-- A line that doesn't come behind the one ahead of it. -/
def lateB (l : Nat → LnD) (i : Nat) : Bool := decide (0 < i) && (bytesLess (l i).p (l (i - 1)).p || (l i).p == (l (i - 1)).p)
/-- The lines from the place i on. -/
def linesE (t0 t1 : List UInt8) (l : Nat → LnD) : Nat → Nat → Int
  | _, 0 => 0
  | i, k + 1 => if lineE t0 t1 (l i) = 0 then (if lateB l i = true then 11 else linesE t0 t1 l (i + 1) k) else lineE t0 t1 (l i)
/-- The first error of a list. -/
def fstE : List Int → Int
  | [] => 0
  | e :: r => if e = 0 then fstE r else e
def headL (g : GmD) : List Int := [nmE g.nm, inE g.ver 1 999999999, inE g.day 0 99999, nmE g.t0, nmE g.t1, if g.t0 = g.t1 then 9 else 0, inE g.s0 0 999, inE g.s1 0 999, if 60 < g.k then 5 else 0]
/-- What CheckGame answers. -/
def gmE (g : GmD) : Int := if fstE (headL g) = 0 then linesE g.t0 g.t1 g.l 0 g.k else fstE (headL g)
/-- A game comes before another one. -/
def befB (a b : GmD) : Bool := decide (a.day < b.day) || (decide (a.day = b.day) && bytesLess a.nm b.nm)
/-- A game with the name is among the first ones. -/
def seenB (g : Nat → GmD) (nm : List UInt8) : Nat → Bool
  | 0 => false
  | i + 1 => seenB g nm i || ((g i).nm == nm)
/-- The games from the place i on. -/
def bookK (g : Nat → GmD) : Nat → Nat → Int
  | _, 0 => 0
  | i, k + 1 => if gmE (g i) = 0 then (if seenB g (g i).nm i = true then 9 else if 0 < i ∧ befB (g (i - 1)) (g i) = false then 11 else bookK g (i + 1) k) else gmE (g i)
/-- What CheckBook answers. -/
def bookE (g : Nat → GmD) (n : Nat) : Int := if 64 < n then 5 else bookK g 0 n
end Go.Proofs.Tryz

namespace Go.Proofs.Tryz
open Go Go.Am Go.RowKit
set_option maxRecDepth 100000

theorem when_w (b : Bool) (e : Int) (w : World) : Calls prog 113 #[.bool b, .int .i64 e] w fun x w' => x = .returned (.int .i64 (if b = true then e else 0)) ∧ w' = w := by
  cases b with
  | true =>
    go_enter func113, ntmps113
    go_wp2
    go_ret
    exact ⟨rfl, rfl⟩
  | false =>
    go_enter func113, ntmps113
    go_wp2
    go_ret
    exact ⟨rfl, rfl⟩
theorem within_w (n lo hi : Int) (w : World) : Calls prog 94 #[.int .i64 n, .int .i64 lo, .int .i64 hi] w fun e w' => e = .returned (.int .i64 (inE n lo hi)) ∧ w' = w := by
  have cT := when_w true 3
  have cF := when_w false 3
  by_cases h1 : n < lo
  · have e : inE n lo hi = 3 := if_pos (.inl h1)
    rw [e]
    clear e
    go_enter func94, ntmps94
    go_wp2_with (first | (go_at_call 113; refine (cT _).mono ?_; rintro e w' ⟨rfl, rfl⟩) | fail)
    go_ret
    exact ⟨rfl, rfl⟩
  · by_cases h2 : hi < n
    · have e : inE n lo hi = 3 := if_pos (.inr h2)
      rw [e]
      clear e
      go_enter func94, ntmps94
      go_wp2_with (first | (go_at_call 113; refine (cT _).mono ?_; rintro e w' ⟨rfl, rfl⟩) | fail)
      go_ret
      exact ⟨rfl, rfl⟩
    · have e : inE n lo hi = 0 := if_neg (by omega)
      rw [e]
      clear e
      go_enter func94, ntmps94
      go_wp2_with (first | (go_at_call 113; refine (cF _).mono ?_; rintro e w' ⟨rfl, rfl⟩) | fail)
      go_ret
      exact ⟨rfl, rfl⟩
theorem rangeR_w (n lo hi : Int) (w : World) : Calls prog 33 #[.int .i64 n, .int .i64 lo, .int .i64 hi] w fun e w' => e = .returned (.int .i64 (inE n lo hi)) ∧ w' = w := by
  by_cases h1 : n < lo
  · have e : inE n lo hi = 3 := if_pos (.inl h1)
    rw [e]
    clear e
    go_enter func33, ntmps33
    go_wp2
    go_ret
    exact ⟨rfl, rfl⟩
  · by_cases h2 : hi < n
    · have e : inE n lo hi = 3 := if_pos (.inr h2)
      rw [e]
      clear e
      go_enter func33, ntmps33
      go_wp2
      go_ret
      exact ⟨rfl, rfl⟩
    · have e : inE n lo hi = 0 := if_neg (by omega)
      rw [e]
      clear e
      go_enter func33, ntmps33
      go_wp2
      go_ret
      exact ⟨rfl, rfl⟩
theorem named_w (l : List UInt8) (w : World) : Calls prog 117 #[.string (bA l)] w fun e w' => e = .returned (.int .i64 (nmE l)) ∧ Below w.heap.size w w' := by
  have cN := name_w l w
  unfold nmE
  cases h : isNm l with
  | true =>
    rw [h] at cN
    have cW := when_w false 8
    clear h
    go_enter func117, ntmps117
    go_wp2_with fail
    go_at_call 156
    refine cN.mono ?_
    rintro e w1 ⟨rfl, hk⟩
    go_wp2_with (first | (go_at_call 113; refine (cW _).mono ?_; rintro e w' ⟨rfl, rfl⟩) | fail)
    go_ret
    exact ⟨rfl, hk⟩
  | false =>
    rw [h] at cN
    have cW := when_w true 8
    clear h
    go_enter func117, ntmps117
    go_wp2_with fail
    go_at_call 156
    refine cN.mono ?_
    rintro e w1 ⟨rfl, hk⟩
    go_wp2_with (first | (go_at_call 113; refine (cW _).mono ?_; rintro e w' ⟨rfl, rfl⟩) | fail)
    go_ret
    exact ⟨rfl, hk⟩
theorem nameE_w (l : List UInt8) (w : World) : Calls prog 48 #[.string (bA l)] w fun e w' => e = .returned (.int .i64 (nmE l)) ∧ w' = w := by
  have cN := nameR_w l w
  unfold nmE
  cases h : isNm l with
  | true =>
    rw [h] at cN
    clear h
    go_enter func48, ntmps48
    go_wp2_with fail
    go_at_call 119
    refine cN.mono ?_
    rintro e w1 ⟨rfl, rfl⟩
    go_wp2
    go_ret
    exact ⟨rfl, rfl⟩
  | false =>
    rw [h] at cN
    clear h
    go_enter func48, ntmps48
    go_wp2_with fail
    go_at_call 119
    refine cN.mono ?_
    rintro e w1 ⟨rfl, rfl⟩
    go_wp2
    go_ret
    exact ⟨rfl, rfl⟩
theorem fst_drop {es : List Int} {i : Nat} {z : Int} (h : es[i]? = some z) : fstE (es.drop i) = if z = 0 then fstE (es.drop (i + 1)) else z := by
  have hi := (List.getElem?_eq_some_iff.1 h).1
  rw [List.drop_eq_getElem_cons hi, fstE, (List.getElem?_eq_some_iff.1 h).2]
theorem first_w (es : List Int) (b c : Nat) (w : World) (hl : es.length ≤ 1000) (hc : ∀ j z, es[j]? = some z → w.cell? ⟨b, j, none⟩ = some (.int .i64 z)) :
    Calls prog 88 #[.slice (some ⟨b, 0, none⟩) es.length c] w fun e w' => e = .returned (.int .i64 (fstE es)) ∧ w' = w := by
  have H0 : Hid (fstE es = fstE (es.drop 0)) := Lib.hid rfl
  obtain ⟨n, hn⟩ : ∃ n, es.length = n := ⟨_, rfl⟩
  have HL := Lib.hid hn
  rw [hn] at hl ⊢
  clear hn
  go_enter func88, ntmps88
  go_wp2_with fail
  go_loopw [7] (fun s wr => ∃ i : Nat, i ≤ n ∧ s = .int .i64 i ∧ Hid (fstE es = fstE (es.drop i)) ∧ wr = w) (fun s _ => n - (numOf' s).toNat)
  case atStart => exact ⟨0, Nat.zero_le _, rfl, H0, rfl⟩
  case round =>
    clear H0
    obtain ⟨i, hi, rfl, hE, rfl⟩ := hrel
    by_cases hin : i < n
    · obtain ⟨z, hz⟩ : ∃ z, es[i]? = some z := ⟨_, List.getElem?_eq_getElem (by rw [HL.out]; exact hin)⟩
      have ci := hc i z hz
      have hs := fst_drop hz
      have hii : (i : Int) < (n : Int) := by omega
      by_cases h0 : z = 0
      · subst h0
        have hE2 : Hid (fstE es = fstE (es.drop (i + 1))) := Lib.hid (by rw [hE.out, hs, if_pos rfl])
        clear hE hs hc hz
        go_wp2_with fail
        go_roundw
        case rel => exact ⟨i + 1, by omega, by go_num, hE2, by first | trivial | rfl⟩
        case measure => simp [numOf'] <;> omega
      · have hE2 : Hid (fstE es = z) := Lib.hid (by rw [hE.out, hs, if_neg h0])
        have h0' : (z != 0) = true := by simpa using h0
        clear hE hs hc hz
        go_wp2_with fail
        go_ret
        exact ⟨by rw [hE2.out]; try rfl, rfl⟩
    · obtain rfl : i = n := by omega
      have hE2 : Hid (fstE es = 0) := Lib.hid (by rw [hE.out, List.drop_of_length_le (by rw [HL.out]; exact Nat.le_refl _)]; rfl)
      clear hE hc HL
      go_wp2_with fail
      go_ret
      exact ⟨by rw [hE2.out]; try rfl, rfl⟩
theorem firstR_w (es : List Int) (b c : Nat) (w : World) (hl : es.length ≤ 1000) (hc : ∀ j z, es[j]? = some z → w.cell? ⟨b, j, none⟩ = some (.int .i64 z)) :
    Calls prog 22 #[.slice (some ⟨b, 0, none⟩) es.length c] w fun e w' => e = .returned (.int .i64 (fstE es)) ∧ w' = w := by
  have H0 : Hid (fstE es = fstE (es.drop 0)) := Lib.hid rfl
  obtain ⟨n, hn⟩ : ∃ n, es.length = n := ⟨_, rfl⟩
  have HL := Lib.hid hn
  rw [hn] at hl ⊢
  clear hn
  go_enter func22, ntmps22
  go_wp2_with fail
  go_loopw [3] (fun s wr => ∃ i : Nat, i ≤ n ∧ s = .int .i64 i ∧ Hid (fstE es = fstE (es.drop i)) ∧ wr = w) (fun s _ => n - (numOf' s).toNat)
  case atStart => exact ⟨0, Nat.zero_le _, rfl, H0, rfl⟩
  case round =>
    clear H0
    obtain ⟨i, hi, rfl, hE, rfl⟩ := hrel
    by_cases hin : i < n
    · obtain ⟨z, hz⟩ : ∃ z, es[i]? = some z := ⟨_, List.getElem?_eq_getElem (by rw [HL.out]; exact hin)⟩
      have ci := hc i z hz
      have hs := fst_drop hz
      have hii : (i : Int) < (n : Int) := by omega
      by_cases h0 : z = 0
      · subst h0
        have hE2 : Hid (fstE es = fstE (es.drop (i + 1))) := Lib.hid (by rw [hE.out, hs, if_pos rfl])
        clear hE hs hc hz
        go_wp2_with fail
        go_roundw
        case rel => exact ⟨i + 1, by omega, by go_num, hE2, by first | trivial | rfl⟩
        case measure => simp [numOf'] <;> omega
      · have hE2 : Hid (fstE es = z) := Lib.hid (by rw [hE.out, hs, if_neg h0])
        have h0' : (z != 0) = true := by simpa using h0
        clear hE hs hc hz
        go_wp2_with fail
        go_ret
        exact ⟨by rw [hE2.out]; try rfl, rfl⟩
    · obtain rfl : i = n := by omega
      have hE2 : Hid (fstE es = 0) := Lib.hid (by rw [hE.out, List.drop_of_length_le (by rw [HL.out]; exact Nat.le_refl _)]; rfl)
      clear hE hc HL
      go_wp2_with fail
      go_ret
      exact ⟨by rw [hE2.out]; try rfl, rfl⟩
end Go.Proofs.Tryz
