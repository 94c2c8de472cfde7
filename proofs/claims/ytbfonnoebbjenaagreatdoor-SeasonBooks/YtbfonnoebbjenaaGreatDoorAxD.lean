/- Plain: what the checks of games and books answer. The small checks of a season, on both sides: by the kit's walk. Games compared and found, on both sides: by the kit's walk. -/
import Derived.Test.YtbfonnoebbjenaaGreatDoorAxC
import Derived.Shelf.SlSorted.Search
import Derived.Deep.RegionHeld3
import Derived.Deep.RegionWith
import Derived.Deep.DeepCutAuto
namespace Go.Proofs.Tryz
open Go Go.Am Go.RowKit Go.Op
set_option maxRecDepth 100000

def nmE (l : List UInt8) : Int := if isNm l = true then 0 else 8
def inE (n lo hi : Int) : Int := if n < lo ∨ hi < n then 3 else 0
/-- The counts from the place i on. -/
def cntE (c : Nat → Int) : Nat → Nat → Int
  | _, 0 => 0
  | i, k + 1 => if inE (c i) 0 999 = 0 then cntE c (i + 1) k else inE (c i) 0 999
/-- A line by itself. -/
def lineE (t0 t1 : List UInt8) (x : LnD) : Int := if isNm x.p = true then (if x.t ≠ t0 ∧ x.t ≠ t1 then 10 else cntE x.c 0 12) else 8
/-- A line that doesn't come behind the one ahead of it. -/
def lateB (l : Nat → LnD) (i : Nat) : Bool := decide (0 < i) && (bytesLess (l i).p (l (i - 1)).p || (l i).p == (l (i - 1)).p)
/-- The lines from the place i on. -/
def linesE (t0 t1 : List UInt8) (l : Nat → LnD) : Nat → Nat → Int
  | _, 0 => 0
  | i, k + 1 => if lineE t0 t1 (l i) = 0 then (if lateB l i = true then 11 else linesE t0 t1 l (i + 1) k) else lineE t0 t1 (l i)
/-- The first error of a list. -/
def fstE : List Int → Int
  | [] => 0
  | e :: r => if e = 0 then fstE r else e
def headL (g : GmD) : List Int := [nmE g.nm, inE g.ver 1 999999999, inE g.day 0 99999, nmE g.t0, nmE g.t1, if g.t0 = g.t1 then 9 else 0, inE g.s0 0 999, inE g.s1 0 999, if 60 < g.k then 5 else 0]
/-- What CheckGame answers. -/
def gmE (g : GmD) : Int := if fstE (headL g) = 0 then linesE g.t0 g.t1 g.l 0 g.k else fstE (headL g)
/-- A game comes before another one. -/
def befB (a b : GmD) : Bool := decide (a.day < b.day) || (decide (a.day = b.day) && bytesLess a.nm b.nm)
/-- A game with the name is among the first ones. -/
def seenB (g : Nat → GmD) (nm : List UInt8) : Nat → Bool
  | 0 => false
  | i + 1 => seenB g nm i || ((g i).nm == nm)
/-- The games from the place i on. -/
def bookK (g : Nat → GmD) : Nat → Nat → Int
  | _, 0 => 0
  | i, k + 1 => if gmE (g i) = 0 then (if seenB g (g i).nm i = true then 9 else if 0 < i ∧ befB (g (i - 1)) (g i) = false then 11 else bookK g (i + 1) k) else gmE (g i)
/-- What CheckBook answers. -/
def bookE (g : Nat → GmD) (n : Nat) : Int := if 64 < n then 5 else bookK g 0 n
end Go.Proofs.Tryz

namespace Go.Proofs.Tryz
open Go Go.Am Go.RowKit
set_option maxRecDepth 100000

theorem when_w (b : Bool) (e : Int) (w : World) : Calls prog 113 #[.bool b, .int .i64 e] w fun x w' => x = .returned (.int .i64 (if b = true then e else 0)) ∧ w' = w := by
  cases b with
  | true =>
    go_enter func113, ntmps113
    go_wp2
    go_ret
    exact ⟨rfl, rfl⟩
  | false =>
    go_enter func113, ntmps113
    go_wp2
    go_ret
    exact ⟨rfl, rfl⟩
theorem within_w (n lo hi : Int) (w : World) : Calls prog 94 #[.int .i64 n, .int .i64 lo, .int .i64 hi] w fun e w' => e = .returned (.int .i64 (inE n lo hi)) ∧ w' = w := by
  have cT := when_w true 3
  have cF := when_w false 3
  by_cases h1 : n < lo
  · have e : inE n lo hi = 3 := if_pos (.inl h1)
    rw [e]
    clear e
    go_enter func94, ntmps94
    go_wp2_with (first | (go_at_call 113; refine (cT _).mono ?_; rintro e w' ⟨rfl, rfl⟩) | fail)
    go_ret
    exact ⟨rfl, rfl⟩
  · by_cases h2 : hi < n
    · have e : inE n lo hi = 3 := if_pos (.inr h2)
      rw [e]
      clear e
      go_enter func94, ntmps94
      go_wp2_with (first | (go_at_call 113; refine (cT _).mono ?_; rintro e w' ⟨rfl, rfl⟩) | fail)
      go_ret
      exact ⟨rfl, rfl⟩
    · have e : inE n lo hi = 0 := if_neg (by omega)
      rw [e]
      clear e
      go_enter func94, ntmps94
      go_wp2_with (first | (go_at_call 113; refine (cF _).mono ?_; rintro e w' ⟨rfl, rfl⟩) | fail)
      go_ret
      exact ⟨rfl, rfl⟩
theorem rangeR_w (n lo hi : Int) (w : World) : Calls prog 33 #[.int .i64 n, .int .i64 lo, .int .i64 hi] w fun e w' => e = .returned (.int .i64 (inE n lo hi)) ∧ w' = w := by
  by_cases h1 : n < lo
  · have e : inE n lo hi = 3 := if_pos (.inl h1)
    rw [e]
    clear e
    go_enter func33, ntmps33
    go_wp2
    go_ret
    exact ⟨rfl, rfl⟩
  · by_cases h2 : hi < n
    · have e : inE n lo hi = 3 := if_pos (.inr h2)
      rw [e]
      clear e
      go_enter func33, ntmps33
      go_wp2
      go_ret
      exact ⟨rfl, rfl⟩
    · have e : inE n lo hi = 0 := if_neg (by omega)
      rw [e]
      clear e
      go_enter func33, ntmps33
      go_wp2
      go_ret
      exact ⟨rfl, rfl⟩
theorem named_w (l : List UInt8) (w : World) : Calls prog 117 #[.string (bA l)] w fun e w' => e = .returned (.int .i64 (nmE l)) ∧ Below w.heap.size w w' := by
  have cN := name_w l w
  unfold nmE
  cases h : isNm l with
  | true =>
    rw [h] at cN
    have cW := when_w false 8
    clear h
    go_enter func117, ntmps117
    go_wp2_with fail
    go_at_call 156
    refine cN.mono ?_
    rintro e w1 ⟨rfl, hk⟩
    go_wp2_with (first | (go_at_call 113; refine (cW _).mono ?_; rintro e w' ⟨rfl, rfl⟩) | fail)
    go_ret
    exact ⟨rfl, hk⟩
  | false =>
    rw [h] at cN
    have cW := when_w true 8
    clear h
    go_enter func117, ntmps117
    go_wp2_with fail
    go_at_call 156
    refine cN.mono ?_
    rintro e w1 ⟨rfl, hk⟩
    go_wp2_with (first | (go_at_call 113; refine (cW _).mono ?_; rintro e w' ⟨rfl, rfl⟩) | fail)
    go_ret
    exact ⟨rfl, hk⟩
theorem nameE_w (l : List UInt8) (w : World) : Calls prog 48 #[.string (bA l)] w fun e w' => e = .returned (.int .i64 (nmE l)) ∧ w' = w := by
  have cN := nameR_w l w
  unfold nmE
  cases h : isNm l with
  | true =>
    rw [h] at cN
    clear h
    go_enter func48, ntmps48
    go_wp2_with fail
    go_at_call 119
    refine cN.mono ?_
    rintro e w1 ⟨rfl, rfl⟩
    go_wp2
    go_ret
    exact ⟨rfl, rfl⟩
  | false =>
    rw [h] at cN
    clear h
    go_enter func48, ntmps48
    go_wp2_with fail
    go_at_call 119
    refine cN.mono ?_
    rintro e w1 ⟨rfl, rfl⟩
    go_wp2
    go_ret
    exact ⟨rfl, rfl⟩
theorem fst_drop {es : List Int} {i : Nat} {z : Int} (h : es[i]? = some z) : fstE (es.drop i) = if z = 0 then fstE (es.drop (i + 1)) else z := by
  have hi := (List.getElem?_eq_some_iff.1 h).1
  rw [List.drop_eq_getElem_cons hi, fstE, (List.getElem?_eq_some_iff.1 h).2]
theorem first_w (es : List Int) (b c : Nat) (w : World) (hl : es.length ≤ 1000) (hc : ∀ j z, es[j]? = some z → w.cell? ⟨b, j, none⟩ = some (.int .i64 z)) :
    Calls prog 88 #[.slice (some ⟨b, 0, none⟩) es.length c] w fun e w' => e = .returned (.int .i64 (fstE es)) ∧ w' = w := by
  have H0 : Hid (fstE es = fstE (es.drop 0)) := Lib.hid rfl
  obtain ⟨n, hn⟩ : ∃ n, es.length = n := ⟨_, rfl⟩
  have HL := Lib.hid hn
  rw [hn] at hl ⊢
  clear hn
  go_enter func88, ntmps88
  go_wp2_with fail
  go_loopw [7] (fun s wr => ∃ i : Nat, i ≤ n ∧ s = .int .i64 i ∧ Hid (fstE es = fstE (es.drop i)) ∧ wr = w) (fun s _ => n - (numOf' s).toNat)
  case atStart => exact ⟨0, Nat.zero_le _, rfl, H0, rfl⟩
  case round =>
    clear H0
    obtain ⟨i, hi, rfl, hE, rfl⟩ := hrel
    by_cases hin : i < n
    · obtain ⟨z, hz⟩ : ∃ z, es[i]? = some z := ⟨_, List.getElem?_eq_getElem (by rw [HL.out]; exact hin)⟩
      have ci := hc i z hz
      have hs := fst_drop hz
      have hii : (i : Int) < (n : Int) := by omega
      by_cases h0 : z = 0
      · subst h0
        have hE2 : Hid (fstE es = fstE (es.drop (i + 1))) := Lib.hid (by rw [hE.out, hs, if_pos rfl])
        clear hE hs hc hz
        go_wp2_with fail
        go_roundw
        case rel => exact ⟨i + 1, by omega, by go_num, hE2, by first | trivial | rfl⟩
        case measure => simp [numOf'] <;> omega
      · have hE2 : Hid (fstE es = z) := Lib.hid (by rw [hE.out, hs, if_neg h0])
        have h0' : (z != 0) = true := by simpa using h0
        clear hE hs hc hz
        go_wp2_with fail
        go_ret
        exact ⟨by rw [hE2.out]; try rfl, rfl⟩
    · obtain rfl : i = n := by omega
      have hE2 : Hid (fstE es = 0) := Lib.hid (by rw [hE.out, List.drop_of_length_le (by rw [HL.out]; exact Nat.le_refl _)]; rfl)
      clear hE hc HL
      go_wp2_with fail
      go_ret
      exact ⟨by rw [hE2.out]; try rfl, rfl⟩
theorem firstR_w (es : List Int) (b c : Nat) (w : World) (hl : es.length ≤ 1000) (hc : ∀ j z, es[j]? = some z → w.cell? ⟨b, j, none⟩ = some (.int .i64 z)) :
    Calls prog 22 #[.slice (some ⟨b, 0, none⟩) es.length c] w fun e w' => e = .returned (.int .i64 (fstE es)) ∧ w' = w := by
  have H0 : Hid (fstE es = fstE (es.drop 0)) := Lib.hid rfl
  obtain ⟨n, hn⟩ : ∃ n, es.length = n := ⟨_, rfl⟩
  have HL := Lib.hid hn
  rw [hn] at hl ⊢
  clear hn
  go_enter func22, ntmps22
  go_wp2_with fail
  go_loopw [3] (fun s wr => ∃ i : Nat, i ≤ n ∧ s = .int .i64 i ∧ Hid (fstE es = fstE (es.drop i)) ∧ wr = w) (fun s _ => n - (numOf' s).toNat)
  case atStart => exact ⟨0, Nat.zero_le _, rfl, H0, rfl⟩
  case round =>
    clear H0
    obtain ⟨i, hi, rfl, hE, rfl⟩ := hrel
    by_cases hin : i < n
    · obtain ⟨z, hz⟩ : ∃ z, es[i]? = some z := ⟨_, List.getElem?_eq_getElem (by rw [HL.out]; exact hin)⟩
      have ci := hc i z hz
      have hs := fst_drop hz
      have hii : (i : Int) < (n : Int) := by omega
      by_cases h0 : z = 0
      · subst h0
        have hE2 : Hid (fstE es = fstE (es.drop (i + 1))) := Lib.hid (by rw [hE.out, hs, if_pos rfl])
        clear hE hs hc hz
        go_wp2_with fail
        go_roundw
        case rel => exact ⟨i + 1, by omega, by go_num, hE2, by first | trivial | rfl⟩
        case measure => simp [numOf'] <;> omega
      · have hE2 : Hid (fstE es = z) := Lib.hid (by rw [hE.out, hs, if_neg h0])
        have h0' : (z != 0) = true := by simpa using h0
        clear hE hs hc hz
        go_wp2_with fail
        go_ret
        exact ⟨by rw [hE2.out]; try rfl, rfl⟩
    · obtain rfl : i = n := by omega
      have hE2 : Hid (fstE es = 0) := Lib.hid (by rw [hE.out, List.drop_of_length_le (by rw [HL.out]; exact Nat.le_refl _)]; rfl)
      clear hE hc HL
      go_wp2_with fail
      go_ret
      exact ⟨by rw [hE2.out]; try rfl, rfl⟩
end Go.Proofs.Tryz

namespace Go.Proofs.Tryz
open Go Go.Am Go.RowKit Go.Op
set_option maxRecDepth 100000

/-! ### comparisons -/
def cmpI (a b : Int) : Int := if a < b then -1 else if b < a then 1 else 0
def cmpS (a b : List UInt8) : Int := if bytesLess a b = true then -1 else if (bytesLess a b || a == b) = false then 1 else 0
def cmpG (a b : GmD) : Int := fstE [cmpI a.day b.day, cmpS a.nm b.nm]
theorem cmpG_ge (a b : GmD) : decide (0 ≤ cmpG a b) = !befB a b := by
  unfold cmpG cmpI cmpS befB fstE fstE fstE
  by_cases h1 : a.day < b.day
  · simp [h1]
  · by_cases h2 : b.day < a.day
    · have h3 : ¬ a.day = b.day := by omega
      simp [h1, h2, h3]
    · have h3 : a.day = b.day := by omega
      simp only [if_neg h1, if_neg h2, decide_eq_false h1, Bool.false_or, decide_eq_true h3, Bool.true_and]
      cases bytesLess a.nm b.nm with
      | true => simp
      | false =>
        by_cases h4 : a.nm = b.nm
        · simp [h4]
        · simp [h4]
theorem cmpI_w (a b : Int) (w : World) : Calls prog 101 #[.int .i64 a, .int .i64 b] w fun e w' => e = .returned (.int .i64 (cmpI a b)) ∧ w' = w := by
  unfold cmpI
  by_cases h1 : a < b
  · rw [if_pos h1]
    go_enter func101, ntmps101
    go_wp2
    go_ret
    exact ⟨rfl, rfl⟩
  · rw [if_neg h1]
    by_cases h2 : b < a
    · rw [if_pos h2]
      go_enter func101, ntmps101
      go_wp2
      go_ret
      exact ⟨rfl, rfl⟩
    · rw [if_neg h2]
      go_enter func101, ntmps101
      go_wp2
      go_ret
      exact ⟨rfl, rfl⟩
theorem cmpS_w (a b : List UInt8) (w : World) : Calls prog 105 #[.string (bA a), .string (bA b)] w fun e w' => e = .returned (.int .i64 (cmpS a b)) ∧ w' = w := by
  have l1 : (bA a).toList = a := bA_list a
  have l2 : (bA b).toList = b := bA_list b
  unfold cmpS
  cases h1 : bytesLess a b with
  | true =>
    rw [if_pos rfl]
    go_enter func105, ntmps105
    go_wp2
    go_ret
    exact ⟨rfl, rfl⟩
  | false =>
    rw [if_neg (by decide)]
    by_cases h2 : a = b
    · subst h2
      have h3 : (a == a) = true := by simp
      rw [h3, if_neg (show ¬ (false || true) = false by decide)]
      go_enter func105, ntmps105
      go_wp2
      go_ret
      exact ⟨rfl, rfl⟩
    · have h3 : (a == b) = false := by simpa using h2
      rw [h3, if_pos (show (false || false) = false from rfl)]
      go_enter func105, ntmps105
      go_wp2
      go_ret
      exact ⟨rfl, rfl⟩
theorem or2_w (x y : Int) (b c : Nat) (w : World) (h0 : w.cell? ⟨b, 0, none⟩ = some (.int .i64 x)) (h1 : w.cell? ⟨b, 1, none⟩ = some (.int .i64 y)) :
    Calls prog 104 #[.slice (some ⟨b, 0, none⟩) 2 c] w fun e w' => e = .returned (.int .i64 (fstE [x, y])) ∧ w' = w := by
  have e : fstE [x, y] = if x = 0 then y else x := by
    unfold fstE fstE fstE
    by_cases hx : x = 0
    · rw [if_pos hx, if_pos hx]
      by_cases hy : y = 0
      · rw [if_pos hy, hy]
      · rw [if_neg hy]
    · rw [if_neg hx, if_neg hx]
  have H0 : Hid (x ≠ 0 → fstE [x, y] = x) := Lib.hid fun h => by rw [e, if_neg h]
  have H1 : Hid (x = 0 → fstE [x, y] = y) := Lib.hid fun h => by rw [e, if_pos h]
  clear e
  go_enter func104, ntmps104
  go_wp2_with fail
  go_loopw [8] (fun s wr => ∃ i : Nat, i ≤ 2 ∧ s = .int .i64 i ∧ Hid (0 < i → x = 0) ∧ Hid (1 < i → y = 0) ∧ wr = w) (fun s _ => 2 - (numOf' s).toNat)
  case atStart => exact ⟨0, Nat.zero_le _, rfl, Lib.hid (fun h => absurd h (Nat.not_lt_zero _)), Lib.hid (fun h => absurd h (by omega)), rfl⟩
  case round =>
    obtain ⟨i, hi, rfl, g0, g1, rfl⟩ := hrel
    match i, hi with
    | 0, _ =>
      by_cases hx : x = 0
      · subst hx
        clear g0 g1
        go_wp2_with fail
        go_roundw
        case rel => exact ⟨1, by omega, by go_num, Lib.hid (by first | exact fun _ => rfl | simp), Lib.hid (fun h => absurd h (by omega)), by first | trivial | rfl⟩
        case measure => simp [numOf'] <;> omega
      · have hx' : (x != 0) = true := by simpa using hx
        have HE := Lib.hid (H0.out hx)
        clear g0 g1 H0 H1 hx
        go_wp2_with fail
        go_ret
        exact ⟨by rw [HE.out]; try rfl, rfl⟩
    | 1, _ =>
      have hx := g0.out (by omega)
      subst hx
      by_cases hy : y = 0
      · subst hy
        clear g0 g1
        go_wp2_with fail
        go_roundw
        case rel => exact ⟨2, by omega, by go_num, Lib.hid (by first | exact fun _ => rfl | simp), Lib.hid (by first | exact fun _ => rfl | simp), by first | trivial | rfl⟩
        case measure => simp [numOf'] <;> omega
      · have hy' : (y != 0) = true := by simpa using hy
        have HE := Lib.hid (H1.out rfl)
        clear g0 g1 H0 H1 hy
        go_wp2_with fail
        go_ret
        exact ⟨by rw [HE.out]; try rfl, rfl⟩
    | 2, _ =>
      have hx := g0.out (by omega)
      have hy := g1.out (by omega)
      subst hx hy
      have HE := Lib.hid (H1.out rfl)
      clear g0 g1 H0 H1
      go_wp2_with fail
      go_ret
      exact ⟨by rw [HE.out]; try rfl, rfl⟩
    | i + 3, h => omega
/-- The eight cells of a game's block. -/
theorem box8 {w : World} {b : Nat} {v0 v1 v2 v3 v4 v5 v6 v7 : Value} {e : TypeId} (h : At w b #[v0, v1, v2, v3, v4, v5, v6, v7] e) :
    (w.cell? ⟨b, 0, none⟩ = some v0 ∧ w.cell? ⟨b, 1, none⟩ = some v1 ∧ w.cell? ⟨b, 2, none⟩ = some v2 ∧ w.cell? ⟨b, 3, none⟩ = some v3 ∧ w.cell? ⟨b, 4, none⟩ = some v4 ∧ w.cell? ⟨b, 5, none⟩ = some v5 ∧ w.cell? ⟨b, 6, none⟩ = some v6 ∧ w.cell? ⟨b, 7, none⟩ = some v7) ∧
    w.frozen? ⟨b, 0, none⟩ = false ∧ w.frozen? ⟨b, 1, none⟩ = false ∧ w.frozen? ⟨b, 2, none⟩ = false ∧ w.frozen? ⟨b, 3, none⟩ = false ∧ w.frozen? ⟨b, 4, none⟩ = false ∧ w.frozen? ⟨b, 5, none⟩ = false ∧ w.frozen? ⟨b, 6, none⟩ = false ∧ w.frozen? ⟨b, 7, none⟩ = false := by
  unfold At at h
  refine ⟨⟨?_, ?_, ?_, ?_, ?_, ?_, ?_, ?_⟩, ?_, ?_, ?_, ?_, ?_, ?_, ?_, ?_⟩ <;> simp only [World.cell?, World.frozen?, h] <;> rfl
/-- A game's value. -/
def GmD.val (g : GmD) (lv : Value) : Value := .agg #[.string (bA g.nm), .int .i64 g.ver, .int .i64 g.day, .string (bA g.t0), .string (bA g.t1), .int .i64 g.s0, .int .i64 g.s1, lv]
def GmD.arr (g : GmD) (lv : Value) : Array Value := #[.string (bA g.nm), .int .i64 g.ver, .int .i64 g.day, .string (bA g.t0), .string (bA g.t1), .int .i64 g.s0, .int .i64 g.s1, lv]

theorem before_w (a b : GmD) (ad ad' : Option Addr) (k c k' c' : Nat) (w : World) :
    Calls prog 90 #[a.val (.slice ad k c), b.val (.slice ad' k' c')] w fun e w' => e = .returned (.bool (befB a b)) ∧ Below w.heap.size w w' := by
  have hB : Below w.heap.size w ((w.alloc (.cells (a.arr (.slice ad k c)) 105)).alloc (.cells (b.arr (.slice ad' k' c')) 105)) := ((Below.refl _ _).alloc (Nat.le_refl _) _).alloc (by simp) _
  have l1 : (bA a.nm).toList = a.nm := bA_list _
  have l2 : (bA b.nm).toList = b.nm := bA_list _
  unfold befB GmD.val
  unfold GmD.arr at hB
  obtain ⟨nm1, ver1, d1, t01, t11, s01, s11, ls1, k1⟩ := a
  obtain ⟨nm2, ver2, d2, t02, t12, s02, s12, ls2, k2⟩ := b
  dsimp only at *
  by_cases h1 : d1 < d2
  · simp only [decide_eq_true h1, Bool.true_or]
    go_enter func90, ntmps90
    go_wp2
    go_ret
    exact ⟨rfl, hB⟩
  · by_cases h2 : d1 = d2
    · simp only [decide_eq_false h1, decide_eq_true h2, Bool.false_or, Bool.true_and]
      subst h2
      go_enter func90, ntmps90
      go_wp2
      go_ret
      exact ⟨rfl, hB⟩
    · simp only [decide_eq_false h1, decide_eq_false h2, Bool.false_or, Bool.false_and]
      have h3 : (d1 == d2) = false := by simpa using h2
      go_enter func90, ntmps90
      go_wp2
      go_ret
      exact ⟨rfl, hB⟩

set_option maxHeartbeats 3200000 in
theorem compare_w (a b : GmD) (ad ad' : Option Addr) (k c k' c' : Nat) (w : World) :
    Calls prog 121 #[a.val (.slice ad k c), b.val (.slice ad' k' c')] w fun e w' => e = .returned (.int .i64 (cmpG a b)) ∧ Below w.heap.size w w' := by
  have hB : Below w.heap.size w ((w.alloc (.cells (a.arr (.slice ad k c)) 110)).alloc (.cells (b.arr (.slice ad' k' c')) 110)) := ((Below.refl _ _).alloc (Nat.le_refl _) _).alloc (by simp) _
  have hx := (at_new w (a.arr (.slice ad k c)) 110).alloc (.cells (b.arr (.slice ad' k' c')) 110)
  have hz : At ((w.alloc (.cells (a.arr (.slice ad k c)) 110)).alloc (.cells (b.arr (.slice ad' k' c')) 110)) (w.heap.size + 1) (b.arr (.slice ad' k' c')) 110 := by
    have := at_new (w.alloc (.cells (a.arr (.slice ad k c)) 110)) (b.arr (.slice ad' k' c')) 110
    simpa using this
  have cI := cmpI_w a.day b.day
  have cS := cmpS_w a.nm b.nm
  unfold cmpG
  obtain ⟨x, hxx⟩ : ∃ x, cmpI a.day b.day = x := ⟨_, rfl⟩
  obtain ⟨y, hyy⟩ : ∃ y, cmpS a.nm b.nm = y := ⟨_, rfl⟩
  rw [hxx] at cI ⊢
  rw [hyy] at cS ⊢
  clear hxx hyy
  obtain ⟨v, hv⟩ : ∃ v, fstE [x, y] = v := ⟨_, rfl⟩
  have cO : ∀ (b : Nat) (W : World), W.cell? ⟨b, 0, none⟩ = some (.int .i64 x) → W.cell? ⟨b, 1, none⟩ = some (.int .i64 y) → Calls prog 104 #[.slice (some ⟨b, 0, none⟩) 2 2] W fun e w' => e = .returned (.int .i64 v) ∧ w' = W := fun b W h0 h1 => by rw [← hv]; exact or2_w x y b 2 W h0 h1
  rw [hv]
  clear hv
  unfold GmD.val
  unfold GmD.arr at hB hx hz
  obtain ⟨nm1, ver1, d1, t01, t11, s01, s11, ls1, k1⟩ := a
  obtain ⟨nm2, ver2, d2, t02, t12, s02, s12, ls2, k2⟩ := b
  dsimp only at *
  obtain ⟨⟨x0, x1, x2, x3, x4, x5, x6, x7⟩, -⟩ := box8 hx
  obtain ⟨⟨z0, z1, z2, z3, z4, z5, z6, z7⟩, -⟩ := box8 hz
  go_enter func121, ntmps121
  go_wp2_with fail
  generalize hW1 : (w.alloc (.cells #[.string (bA nm1), .int .i64 ver1, .int .i64 d1, .string (bA t01), .string (bA t11), .int .i64 s01, .int .i64 s11, .slice ad k c] 110)).alloc (.cells #[.string (bA nm2), .int .i64 ver2, .int .i64 d2, .string (bA t02), .string (bA t12), .int .i64 s02, .int .i64 s12, .slice ad' k' c'] 110) = W1 at hB hx hz x0 x2 z0 z2 ⊢
  clear hW1 hx hz x1 x3 x4 x5 x6 x7 z1 z3 z4 z5 z6 z7
  have hdr : Below w.heap.size w W1.drew := hB.drew
  have hdz : ∀ o, Below w.heap.size w (W1.alloc o).drew := fun o => (hB.alloc hB.size o).drew
  go_region_held3 (fun W => (W.cell? ⟨w.heap.size, 0, none⟩ = some (.string (bA nm1)) ∧ W.cell? ⟨w.heap.size, 2, none⟩ = some (.int .i64 d1) ∧ W.cell? ⟨w.heap.size + 1, 0, none⟩ = some (.string (bA nm2)) ∧ W.cell? ⟨w.heap.size + 1, 2, none⟩ = some (.int .i64 d2)) ∧ Below w.heap.size w W) (go_keep) (first | (go_at_call 101; refine (cI _).mono ?_; rintro e w' ⟨rfl, rfl⟩) | (go_at_call 105; refine (cS _).mono ?_; rintro e w' ⟨rfl, rfl⟩) | (go_at_call 104; refine (cO _ _ (by simp) (by simp)).mono ?_; rintro e w' ⟨rfl, rfl⟩))
  all_goals (go_wp2_with fail; go_ret; exact ⟨rfl, hdz _⟩)
/-- The place of the name among k games from the place i on. -/
def findN (g : Nat → GmD) (nm : List UInt8) : Nat → Nat → Int
  | _, 0 => -1
  | i, k + 1 => if (g i).nm = nm then (i : Int) else findN g nm (i + 1) k
theorem findN_seen (g : Nat → GmD) (nm : List UInt8) : ∀ (k i : Nat), (0 ≤ findN g nm i k) ↔ ∃ j, i ≤ j ∧ j < i + k ∧ (g j).nm = nm
  | 0, i => ⟨fun h => absurd h (by rw [findN]; decide), fun ⟨j, h1, h2, _⟩ => by omega⟩
  | k + 1, i => by
    rw [findN]
    by_cases h : (g i).nm = nm
    · rw [if_pos h]
      exact ⟨fun _ => ⟨i, Nat.le_refl _, by omega, h⟩, fun _ => by omega⟩
    · rw [if_neg h, findN_seen g nm k (i + 1)]
      constructor
      · rintro ⟨j, h1, h2, h3⟩; exact ⟨j, by omega, by omega, h3⟩
      · rintro ⟨j, h1, h2, h3⟩
        refine ⟨j, ?_, by omega, h3⟩
        rcases Nat.lt_or_eq_of_le h1 with q | rfl
        · omega
        · exact absurd h3 h
theorem seenB_iff (g : Nat → GmD) (nm : List UInt8) : ∀ i : Nat, seenB g nm i = true ↔ ∃ j, j < i ∧ (g j).nm = nm
  | 0 => ⟨fun h => (by cases h), fun ⟨j, h, _⟩ => absurd h (Nat.not_lt_zero _)⟩
  | i + 1 => by
    rw [seenB, Bool.or_eq_true, seenB_iff g nm i, beq_iff_eq]
    constructor
    · rintro (⟨j, h1, h2⟩ | h)
      · exact ⟨j, by omega, h2⟩
      · exact ⟨i, by omega, h⟩
    · rintro ⟨j, h1, h2⟩
      rcases Nat.lt_succ_iff_lt_or_eq.1 h1 with q | rfl
      · exact .inl ⟨j, q, h2⟩
      · exact .inr h2
theorem find_seen (g : Nat → GmD) (nm : List UInt8) (i : Nat) : decide (0 ≤ findN g nm 0 i) = seenB g nm i := by
  rw [Bool.eq_iff_iff, decide_eq_true_eq, findN_seen, seenB_iff]
  constructor
  · rintro ⟨j, -, h2, h3⟩; exact ⟨j, by omega, h3⟩
  · rintro ⟨j, h2, h3⟩; exact ⟨j, Nat.zero_le _, by omega, h3⟩
theorem find_w {g : Nat → GmD} {n : Nat} {v : Value} {w : World} (h : IsGames w v g n) (hn : n ≤ 100000) (nm : List UInt8) :
    Calls prog 64 #[v, .string (bA nm)] w fun e w' => e = .returned (.int .i64 (findN g nm 0 n)) ∧ w' = w := by
  have h0 := h
  obtain ⟨lv, hr, -⟩ := h0
  obtain ⟨ad, c, rfl, hnc⟩ := hr.slice
  have HE : Hid (findN g nm 0 n = findN g nm 0 (n - 0)) := Lib.hid rfl
  have l2 : (bA nm).toList = nm := bA_list _
  clear hr
  go_enter func64, ntmps64
  go_wp2_with fail
  go_loopw [5] (fun s wr => ∃ i : Nat, i ≤ n ∧ s = .int .i64 i ∧ Hid (findN g nm 0 n = findN g nm i (n - i)) ∧ wr = w) (fun s _ => n - (numOf' s).toNat)
  case atStart => exact ⟨0, Nat.zero_le _, rfl, HE, rfl⟩
  case round =>
    clear HE
    obtain ⟨i, hi, rfl, hE, rfl⟩ := hrel
    by_cases hin : i < n
    · obtain ⟨b, off, c1, a1, kc, e, -, -, x0, -⟩ := h.at hin
      simp only [Value.slice.injEq, true_and] at e
      obtain ⟨rfl, rfl⟩ := e
      have l1 : (bA (g i).nm).toList = (g i).nm := bA_list _
      have hs : findN g nm i (n - i) = if (g i).nm = nm then (i : Int) else findN g nm (i + 1) (n - (i + 1)) := by
        rw [show n - i = (n - (i + 1)) + 1 by omega, findN]
      have hii : (i : Int) < (n : Int) := by omega
      obtain ⟨m, hm⟩ : ∃ m, (g i).nm = m := ⟨_, rfl⟩
      rw [hm] at hs x0 l1
      by_cases hq : m = nm
      · have hE2 : Hid (findN g nm 0 n = (i : Int)) := Lib.hid (by rw [hE.out, hs, if_pos hq])
        subst hq
        clear hE hs h hm
        go_wp2_with fail
        go_ret
        exact ⟨by rw [hE2.out]; try rfl, rfl⟩
      · have hE2 : Hid (findN g nm 0 n = findN g nm (i + 1) (n - (i + 1))) := Lib.hid (by rw [hE.out, hs, if_neg hq])
        have hq' : (m == nm) = false := by simpa using hq
        clear hE hs h hm
        go_wp2_with fail
        go_roundw
        case rel => exact ⟨i + 1, by omega, by go_num, hE2, by first | trivial | rfl⟩
        case measure => simp [numOf'] <;> omega
    · obtain rfl : i = n := by omega
      have hE2 : Hid (findN g nm 0 i = -1) := Lib.hid (by rw [hE.out, Nat.sub_self, findN])
      clear hE h
      go_wp2_with fail
      go_ret
      exact ⟨by rw [hE2.out]; try rfl, rfl⟩
end Go.Proofs.Tryz
