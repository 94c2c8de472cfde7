/- Plain: what the checks of games and books answer. The small checks of a season, on both sides: by the kit's walk. Games compared and found, on both sides: by the kit's walk. A line of a game checked, on both sides: by the kit's walk. Lists of games that are built one by one. On the season seat: games that are handed, opened. Greatest common divisors as the programs compute them: plain laws, no program in sight. Plain: totals as lists in order. Games of the reference as ones of the season, and told the other way round: by the kit's walk. -/
import Derived.Test.YtbfonnoebbjenaaGreatDoorAxC
import Derived.Shelf.SlSorted.Search
import Derived.Deep.RegionHeld3
import Derived.Deep.RegionWith
import Derived.Deep.DeepCutAuto
import Derived.Test.YtbfonnoebbjenaaGreatDoorAxA
namespace Go.Proofs.Tryz
open Go Go.Am Go.RowKit Go.Op
set_option maxRecDepth 100000

def nmE (l : List UInt8) : Int := if isNm l = true then 0 else 8
def inE (n lo hi : Int) : Int := if n < lo ∨ hi < n then 3 else 0
/-- The first error of a list. -/
def fstE : List Int → Int
  | [] => 0
  | e :: r => if e = 0 then fstE r else e
end Go.Proofs.Tryz

namespace Go.Proofs.Tryz
open Go Go.Am Go.RowKit
set_option maxRecDepth 100000

theorem when_w (b : Bool) (e : Int) (w : World) : Calls prog 113 #[.bool b, .int .i64 e] w fun x w' => x = .returned (.int .i64 (if b = true then e else 0)) ∧ w' = w := by
  cases b with
  | true =>
    go_enter func113, ntmps113
    go_wp2
    go_ret
    exact ⟨rfl, rfl⟩
  | false =>
    go_enter func113, ntmps113
    go_wp2
    go_ret
    exact ⟨rfl, rfl⟩
theorem within_w (n lo hi : Int) (w : World) : Calls prog 94 #[.int .i64 n, .int .i64 lo, .int .i64 hi] w fun e w' => e = .returned (.int .i64 (inE n lo hi)) ∧ w' = w := by
  have cT := when_w true 3
  have cF := when_w false 3
  by_cases h1 : n < lo
  · have e : inE n lo hi = 3 := if_pos (.inl h1)
    rw [e]
    clear e
    go_enter func94, ntmps94
    go_wp2_with (first | (go_at_call 113; refine (cT _).mono ?_; rintro e w' ⟨rfl, rfl⟩) | fail)
    go_ret
    exact ⟨rfl, rfl⟩
  · by_cases h2 : hi < n
    · have e : inE n lo hi = 3 := if_pos (.inr h2)
      rw [e]
      clear e
      go_enter func94, ntmps94
      go_wp2_with (first | (go_at_call 113; refine (cT _).mono ?_; rintro e w' ⟨rfl, rfl⟩) | fail)
      go_ret
      exact ⟨rfl, rfl⟩
    · have e : inE n lo hi = 0 := if_neg (by omega)
      rw [e]
      clear e
      go_enter func94, ntmps94
      go_wp2_with (first | (go_at_call 113; refine (cF _).mono ?_; rintro e w' ⟨rfl, rfl⟩) | fail)
      go_ret
      exact ⟨rfl, rfl⟩
theorem rangeR_w (n lo hi : Int) (w : World) : Calls prog 33 #[.int .i64 n, .int .i64 lo, .int .i64 hi] w fun e w' => e = .returned (.int .i64 (inE n lo hi)) ∧ w' = w := by
  by_cases h1 : n < lo
  · have e : inE n lo hi = 3 := if_pos (.inl h1)
    rw [e]
    clear e
    go_enter func33, ntmps33
    go_wp2
    go_ret
    exact ⟨rfl, rfl⟩
  · by_cases h2 : hi < n
    · have e : inE n lo hi = 3 := if_pos (.inr h2)
      rw [e]
      clear e
      go_enter func33, ntmps33
      go_wp2
      go_ret
      exact ⟨rfl, rfl⟩
    · have e : inE n lo hi = 0 := if_neg (by omega)
      rw [e]
      clear e
      go_enter func33, ntmps33
      go_wp2
      go_ret
      exact ⟨rfl, rfl⟩
theorem named_w (l : List UInt8) (w : World) : Calls prog 117 #[.string (bA l)] w fun e w' => e = .returned (.int .i64 (nmE l)) ∧ Below w.heap.size w w' := by
  have cN := name_w l w
  unfold nmE
  cases h : isNm l with
  | true =>
    rw [h] at cN
    have cW := when_w false 8
    clear h
    go_enter func117, ntmps117
    go_wp2_with fail
    go_at_call 156
    refine cN.mono ?_
    rintro e w1 ⟨rfl, hk⟩
    go_wp2_with (first | (go_at_call 113; refine (cW _).mono ?_; rintro e w' ⟨rfl, rfl⟩) | fail)
    go_ret
    exact ⟨rfl, hk⟩
  | false =>
    rw [h] at cN
    have cW := when_w true 8
    clear h
    go_enter func117, ntmps117
    go_wp2_with fail
    go_at_call 156
    refine cN.mono ?_
    rintro e w1 ⟨rfl, hk⟩
    go_wp2_with (first | (go_at_call 113; refine (cW _).mono ?_; rintro e w' ⟨rfl, rfl⟩) | fail)
    go_ret
    exact ⟨rfl, hk⟩
theorem nameE_w (l : List UInt8) (w : World) : Calls prog 48 #[.string (bA l)] w fun e w' => e = .returned (.int .i64 (nmE l)) ∧ w' = w := by
  have cN := nameR_w l w
  unfold nmE
  cases h : isNm l with
  | true =>
    rw [h] at cN
    clear h
    go_enter func48, ntmps48
    go_wp2_with fail
    go_at_call 119
    refine cN.mono ?_
    rintro e w1 ⟨rfl, rfl⟩
    go_wp2
    go_ret
    exact ⟨rfl, rfl⟩
  | false =>
    rw [h] at cN
    clear h
    go_enter func48, ntmps48
    go_wp2_with fail
    go_at_call 119
    refine cN.mono ?_
    rintro e w1 ⟨rfl, rfl⟩
    go_wp2
    go_ret
    exact ⟨rfl, rfl⟩
theorem fst_drop {es : List Int} {i : Nat} {z : Int} (h : es[i]? = some z) : fstE (es.drop i) = if z = 0 then fstE (es.drop (i + 1)) else z := by
  have hi := (List.getElem?_eq_some_iff.1 h).1
  rw [List.drop_eq_getElem_cons hi, fstE, (List.getElem?_eq_some_iff.1 h).2]
theorem first_w (es : List Int) (b c : Nat) (w : World) (hl : es.length ≤ 1000) (hc : ∀ j z, es[j]? = some z → w.cell? ⟨b, j, none⟩ = some (.int .i64 z)) :
    Calls prog 88 #[.slice (some ⟨b, 0, none⟩) es.length c] w fun e w' => e = .returned (.int .i64 (fstE es)) ∧ w' = w := by
  have H0 : Hid (fstE es = fstE (es.drop 0)) := Lib.hid rfl
  obtain ⟨n, hn⟩ : ∃ n, es.length = n := ⟨_, rfl⟩
  have HL := Lib.hid hn
  rw [hn] at hl ⊢
  clear hn
  go_enter func88, ntmps88
  go_wp2_with fail
  go_loopw [7] (fun s wr => ∃ i : Nat, i ≤ n ∧ s = .int .i64 i ∧ Hid (fstE es = fstE (es.drop i)) ∧ wr = w) (fun s _ => n - (numOf' s).toNat)
  case atStart => exact ⟨0, Nat.zero_le _, rfl, H0, rfl⟩
  case round =>
    clear H0
    obtain ⟨i, hi, rfl, hE, rfl⟩ := hrel
    by_cases hin : i < n
    · obtain ⟨z, hz⟩ : ∃ z, es[i]? = some z := ⟨_, List.getElem?_eq_getElem (by rw [HL.out]; exact hin)⟩
      have ci := hc i z hz
      have hs := fst_drop hz
      have hii : (i : Int) < (n : Int) := by omega
      by_cases h0 : z = 0
      · subst h0
        have hE2 : Hid (fstE es = fstE (es.drop (i + 1))) := Lib.hid (by rw [hE.out, hs, if_pos rfl])
        clear hE hs hc hz
        go_wp2_with fail
        go_roundw
        case rel => exact ⟨i + 1, by omega, by go_num, hE2, by first | trivial | rfl⟩
        case measure => simp [numOf'] <;> omega
      · have hE2 : Hid (fstE es = z) := Lib.hid (by rw [hE.out, hs, if_neg h0])
        have h0' : (z != 0) = true := by simpa using h0
        clear hE hs hc hz
        go_wp2_with fail
        go_ret
        exact ⟨by rw [hE2.out]; try rfl, rfl⟩
    · obtain rfl : i = n := by omega
      have hE2 : Hid (fstE es = 0) := Lib.hid (by rw [hE.out, List.drop_of_length_le (by rw [HL.out]; exact Nat.le_refl _)]; rfl)
      clear hE hc HL
      go_wp2_with fail
      go_ret
      exact ⟨by rw [hE2.out]; try rfl, rfl⟩
theorem firstR_w (es : List Int) (b c : Nat) (w : World) (hl : es.length ≤ 1000) (hc : ∀ j z, es[j]? = some z → w.cell? ⟨b, j, none⟩ = some (.int .i64 z)) :
    Calls prog 22 #[.slice (some ⟨b, 0, none⟩) es.length c] w fun e w' => e = .returned (.int .i64 (fstE es)) ∧ w' = w := by
  have H0 : Hid (fstE es = fstE (es.drop 0)) := Lib.hid rfl
  obtain ⟨n, hn⟩ : ∃ n, es.length = n := ⟨_, rfl⟩
  have HL := Lib.hid hn
  rw [hn] at hl ⊢
  clear hn
  go_enter func22, ntmps22
  go_wp2_with fail
  go_loopw [3] (fun s wr => ∃ i : Nat, i ≤ n ∧ s = .int .i64 i ∧ Hid (fstE es = fstE (es.drop i)) ∧ wr = w) (fun s _ => n - (numOf' s).toNat)
  case atStart => exact ⟨0, Nat.zero_le _, rfl, H0, rfl⟩
  case round =>
    clear H0
    obtain ⟨i, hi, rfl, hE, rfl⟩ := hrel
    by_cases hin : i < n
    · obtain ⟨z, hz⟩ : ∃ z, es[i]? = some z := ⟨_, List.getElem?_eq_getElem (by rw [HL.out]; exact hin)⟩
      have ci := hc i z hz
      have hs := fst_drop hz
      have hii : (i : Int) < (n : Int) := by omega
      by_cases h0 : z = 0
      · subst h0
        have hE2 : Hid (fstE es = fstE (es.drop (i + 1))) := Lib.hid (by rw [hE.out, hs, if_pos rfl])
        clear hE hs hc hz
        go_wp2_with fail
        go_roundw
        case rel => exact ⟨i + 1, by omega, by go_num, hE2, by first | trivial | rfl⟩
        case measure => simp [numOf'] <;> omega
      · have hE2 : Hid (fstE es = z) := Lib.hid (by rw [hE.out, hs, if_neg h0])
        have h0' : (z != 0) = true := by simpa using h0
        clear hE hs hc hz
        go_wp2_with fail
        go_ret
        exact ⟨by rw [hE2.out]; try rfl, rfl⟩
    · obtain rfl : i = n := by omega
      have hE2 : Hid (fstE es = 0) := Lib.hid (by rw [hE.out, List.drop_of_length_le (by rw [HL.out]; exact Nat.le_refl _)]; rfl)
      clear hE hc HL
      go_wp2_with fail
      go_ret
      exact ⟨by rw [hE2.out]; try rfl, rfl⟩
end Go.Proofs.Tryz

namespace Go.Proofs.Tryz
open Go Go.Am Go.RowKit Go.Op
set_option maxRecDepth 100000

/-! ### comparisons -/
def cmpI (a b : Int) : Int := if a < b then -1 else if b < a then 1 else 0
def cmpS (a b : List UInt8) : Int := if bytesLess a b = true then -1 else if (bytesLess a b || a == b) = false then 1 else 0
theorem cmpI_w (a b : Int) (w : World) : Calls prog 101 #[.int .i64 a, .int .i64 b] w fun e w' => e = .returned (.int .i64 (cmpI a b)) ∧ w' = w := by
  unfold cmpI
  by_cases h1 : a < b
  · rw [if_pos h1]
    go_enter func101, ntmps101
    go_wp2
    go_ret
    exact ⟨rfl, rfl⟩
  · rw [if_neg h1]
    by_cases h2 : b < a
    · rw [if_pos h2]
      go_enter func101, ntmps101
      go_wp2
      go_ret
      exact ⟨rfl, rfl⟩
    · rw [if_neg h2]
      go_enter func101, ntmps101
      go_wp2
      go_ret
      exact ⟨rfl, rfl⟩
theorem cmpS_w (a b : List UInt8) (w : World) : Calls prog 105 #[.string (bA a), .string (bA b)] w fun e w' => e = .returned (.int .i64 (cmpS a b)) ∧ w' = w := by
  have l1 : (bA a).toList = a := bA_list a
  have l2 : (bA b).toList = b := bA_list b
  unfold cmpS
  cases h1 : bytesLess a b with
  | true =>
    rw [if_pos rfl]
    go_enter func105, ntmps105
    go_wp2
    go_ret
    exact ⟨rfl, rfl⟩
  | false =>
    rw [if_neg (by decide)]
    by_cases h2 : a = b
    · subst h2
      have h3 : (a == a) = true := by simp
      rw [h3, if_neg (show ¬ (false || true) = false by decide)]
      go_enter func105, ntmps105
      go_wp2
      go_ret
      exact ⟨rfl, rfl⟩
    · have h3 : (a == b) = false := by simpa using h2
      rw [h3, if_pos (show (false || false) = false from rfl)]
      go_enter func105, ntmps105
      go_wp2
      go_ret
      exact ⟨rfl, rfl⟩
theorem or2_w (x y : Int) (b c : Nat) (w : World) (h0 : w.cell? ⟨b, 0, none⟩ = some (.int .i64 x)) (h1 : w.cell? ⟨b, 1, none⟩ = some (.int .i64 y)) :
    Calls prog 104 #[.slice (some ⟨b, 0, none⟩) 2 c] w fun e w' => e = .returned (.int .i64 (fstE [x, y])) ∧ w' = w := by
  have e : fstE [x, y] = if x = 0 then y else x := by
    unfold fstE fstE fstE
    by_cases hx : x = 0
    · rw [if_pos hx, if_pos hx]
      by_cases hy : y = 0
      · rw [if_pos hy, hy]
      · rw [if_neg hy]
    · rw [if_neg hx, if_neg hx]
  have H0 : Hid (x ≠ 0 → fstE [x, y] = x) := Lib.hid fun h => by rw [e, if_neg h]
  have H1 : Hid (x = 0 → fstE [x, y] = y) := Lib.hid fun h => by rw [e, if_pos h]
  clear e
  go_enter func104, ntmps104
  go_wp2_with fail
  go_loopw [8] (fun s wr => ∃ i : Nat, i ≤ 2 ∧ s = .int .i64 i ∧ Hid (0 < i → x = 0) ∧ Hid (1 < i → y = 0) ∧ wr = w) (fun s _ => 2 - (numOf' s).toNat)
  case atStart => exact ⟨0, Nat.zero_le _, rfl, Lib.hid (fun h => absurd h (Nat.not_lt_zero _)), Lib.hid (fun h => absurd h (by omega)), rfl⟩
  case round =>
    obtain ⟨i, hi, rfl, g0, g1, rfl⟩ := hrel
    match i, hi with
    | 0, _ =>
      by_cases hx : x = 0
      · subst hx
        clear g0 g1
        go_wp2_with fail
        go_roundw
        case rel => exact ⟨1, by omega, by go_num, Lib.hid (by first | exact fun _ => rfl | simp), Lib.hid (fun h => absurd h (by omega)), by first | trivial | rfl⟩
        case measure => simp [numOf'] <;> omega
      · have hx' : (x != 0) = true := by simpa using hx
        have HE := Lib.hid (H0.out hx)
        clear g0 g1 H0 H1 hx
        go_wp2_with fail
        go_ret
        exact ⟨by rw [HE.out]; try rfl, rfl⟩
    | 1, _ =>
      have hx := g0.out (by omega)
      subst hx
      by_cases hy : y = 0
      · subst hy
        clear g0 g1
        go_wp2_with fail
        go_roundw
        case rel => exact ⟨2, by omega, by go_num, Lib.hid (by first | exact fun _ => rfl | simp), Lib.hid (by first | exact fun _ => rfl | simp), by first | trivial | rfl⟩
        case measure => simp [numOf'] <;> omega
      · have hy' : (y != 0) = true := by simpa using hy
        have HE := Lib.hid (H1.out rfl)
        clear g0 g1 H0 H1 hy
        go_wp2_with fail
        go_ret
        exact ⟨by rw [HE.out]; try rfl, rfl⟩
    | 2, _ =>
      have hx := g0.out (by omega)
      have hy := g1.out (by omega)
      subst hx hy
      have HE := Lib.hid (H1.out rfl)
      clear g0 g1 H0 H1
      go_wp2_with fail
      go_ret
      exact ⟨by rw [HE.out]; try rfl, rfl⟩
    | i + 3, h => omega
end Go.Proofs.Tryz

namespace Go.Proofs.Tryz
open Go Go.Am Go.RowKit Go.Op
set_option maxRecDepth 100000

theorem belowN {B : Nat} {a w : World} (h : Below B a w) (n : Nat) : Below B a (w.drewN n) := ⟨h.os, h.tape, h.output, h.size, h.block⟩
end Go.Proofs.Tryz

namespace Go.Proofs.Tryz
open Go Go.Am Go.RowKit Go.Op
set_option maxRecDepth 100000

theorem info_more {e : TypeId} {z : Value} {s b : Nat} (h : (prog.info? e).map (fun i => (i.zero, i.size, i.bytes)) = some (some z, s, b)) : ∃ i, prog.info? e = some i ∧ i.zero = some z ∧ i.size = s ∧ i.bytes = b := by
  cases hi : prog.info? e with
  | none => rw [hi] at h; cases h
  | some i => rw [hi] at h; simp only [Option.map_some, Option.some.injEq, Prod.mk.injEq] at h; exact ⟨i, rfl, h.1, h.2.1, h.2.2⟩
end Go.Proofs.Tryz

namespace Go.Proofs.Tryz
open Go Go.Am Go.ChangeShapes Go.WideShapes Go.ChangeAt Go.RowKit
set_option maxRecDepth 100000

theorem x9 : prog.underlying 9 = some .string := by kernel_rfl
theorem x3 : prog.underlying 3 = some (.int .i64) := by kernel_rfl
theorem x54 : prog.underlying 54 = some (.array 12 3) := by kernel_rfl
theorem xc9 : prog.cellsOf 9 = 1 := by kernel_rfl
theorem xc3 : prog.cellsOf 3 = 1 := by kernel_rfl
theorem xc54 : prog.cellsOf 54 = 12 := by kernel_rfl
section
variable {H : Type} {enc : TypeId × Value → H} {w : World} {base : Nat} {spare : Nat → Bool} {held : Bool}
variable {d : DataW H} {ps : List MemPlace}
/-- A structure's value is its cells. -/
theorem agg_of {W : World} {r : Reach} {b0 : Nat} {t : TypeId} {fs : Array Field} (ht : prog.underlying t = some (.struct fs)) {v : Value} (h : Value.okWide prog W r b0 t v) : ∃ cs : Array Value, v = .agg cs := by
  simp only [Value.okWide, ht] at h
  obtain ⟨cs, e, _⟩ := h
  exact ⟨cs, e⟩
end
end Go.Proofs.Tryz

namespace Go.Gcx

/-- 'for b != 0 { a, b = b, a%b }': what a holds at the end; the first number bounds the rounds. -/
def eu : Nat → Int → Int → Int
  | 0, a, _ => a
  | f + 1, a, b => if b = 0 then a else eu f b (a.tmod b)
def euc (a b : Int) : Int := eu (b.natAbs + 1) a b

theorem tmod_lt (a b : Int) (hb : b ≠ 0) : (a.tmod b).natAbs < b.natAbs := by
  rw [Int.natAbs_tmod]; exact Nat.mod_lt _ (by omega)
theorem eu_more : ∀ (f : Nat) (a b : Int), b.natAbs < f → eu f a b = euc a b
  | 0, _, _, h => by omega
  | f + 1, a, b, h => by
    by_cases hb : b = 0
    · subst hb; simp [eu, euc]
    · have h1 := tmod_lt a b hb
      have e1 : eu (f + 1) a b = eu f b (a.tmod b) := by simp [eu, hb]
      have e2 : euc a b = eu b.natAbs b (a.tmod b) := by simp [eu, euc, hb]
      rw [e1, e2, eu_more f b (a.tmod b) (by omega), eu_more b.natAbs b (a.tmod b) h1]
theorem euc_zero (a : Int) : euc a 0 = a := by simp [euc, eu]
theorem euc_step (a b : Int) (hb : b ≠ 0) : euc a b = euc b (a.tmod b) := by
  have h1 := tmod_lt a b hb
  have e2 : euc a b = eu b.natAbs b (a.tmod b) := by simp [eu, euc, hb]
  rw [e2, eu_more _ _ _ h1]

theorem euc_abs (a b : Int) : (euc a b).natAbs = Nat.gcd a.natAbs b.natAbs := by
  by_cases hb : b = 0
  · subst hb; rw [euc_zero]; simp
  · rw [euc_step a b hb, euc_abs b (a.tmod b), Int.natAbs_tmod, Nat.gcd_comm a.natAbs b.natAbs, Nat.gcd_rec b.natAbs a.natAbs, Nat.gcd_comm b.natAbs]
termination_by b.natAbs
decreasing_by exact tmod_lt a b hb

theorem euc_nonneg (a b : Int) (ha : 0 ≤ a) (hb : 0 ≤ b) : 0 ≤ euc a b := by
  by_cases h : b = 0
  · subst h; rw [euc_zero]; exact ha
  · rw [euc_step a b h]; exact euc_nonneg b (a.tmod b) hb (Int.tmod_nonneg _ ha)
termination_by b.natAbs
decreasing_by exact tmod_lt a b h

theorem euc_gcd (a b : Int) (ha : 0 ≤ a) (hb : 0 ≤ b) : euc a b = Nat.gcd a.natAbs b.natAbs := by
  have h := euc_abs a b
  have h2 := euc_nonneg a b ha hb
  omega

theorem wrap_id {x : Int} (h0 : -9223372036854775808 ≤ x) (h1 : x ≤ 9223372036854775807) : IntKind.wrap .i64 x = x := by
  have h : IntKind.wrap .i64 x = (if (true && decide (x % (2 : Int) ^ 64 ≥ 2 ^ 63)) = true then x % (2 : Int) ^ 64 - 2 ^ 64 else x % (2 : Int) ^ 64) := rfl
  rw [h]
  by_cases hx : 0 ≤ x
  · have e : x % (2 : Int) ^ 64 = x := Int.emod_eq_of_lt hx (by omega)
    rw [e, if_neg]; simp; omega
  · have e : x % (2 : Int) ^ 64 = x + 2 ^ 64 := by
      rw [← Int.add_emod_right]; exact Int.emod_eq_of_lt (by omega) (by omega)
    rw [e, if_pos]; omega
    simp; omega

/-- 'divisor' of the program: the greater of what is left and its opposite -/
def divI (a b : Int) : Int := max (euc a b) (IntKind.wrap .i64 (-(euc a b)))

theorem gcd_le (a b : Int) (h : b ≠ 0) : Nat.gcd a.natAbs b.natAbs ≤ b.natAbs := Nat.le_of_dvd (by omega) (Nat.gcd_dvd_right _ _)
theorem gcd_pos (a b : Int) (h : b ≠ 0) : 0 < Nat.gcd a.natAbs b.natAbs := Nat.gcd_pos_of_pos_right _ (by omega)

theorem divI_gcd (a b : Int) (hb : b ≠ 0) (hb1 : b.natAbs ≤ 1000000000000) : divI a b = Nat.gcd a.natAbs b.natAbs := by
  have h := euc_abs a b
  have h2 := gcd_le a b hb
  unfold divI
  rw [wrap_id (by omega) (by omega)]
  omega
end Go.Gcx

namespace Go.Proofs.Tryz
open Go Go.Am Go.RowKit Go.Op
set_option maxRecDepth 100000

/-! ### bytes in order -/
theorem bl_irrefl : ∀ a : List UInt8, bytesLess a a = false
  | [] => rfl
  | x :: a => by simp [bytesLess, bl_irrefl a]
theorem bl_trans : ∀ {a b c : List UInt8}, bytesLess a b = true → bytesLess b c = true → bytesLess a c = true
  | _, [], _, h, _ => by simp [bytesLess] at h
  | _, _ :: _, [], _, h => by simp [bytesLess] at h
  | [], _ :: _, _ :: _, _, _ => rfl
  | x :: a, y :: b, z :: c, h1, h2 => by
    simp only [bytesLess, Bool.or_eq_true, decide_eq_true_eq, Bool.and_eq_true, beq_iff_eq] at *
    rcases h1 with h1 | ⟨rfl, h1⟩
    · rcases h2 with h2 | ⟨rfl, -⟩
      · exact .inl (UInt8.lt_trans h1 h2)
      · exact .inl h1
    · rcases h2 with h2 | ⟨rfl, h2⟩
      · exact .inl h2
      · exact .inr ⟨rfl, bl_trans h1 h2⟩
theorem bl_tri : ∀ {a b : List UInt8}, bytesLess a b = false → bytesLess b a = false → a = b
  | [], [], _, _ => rfl
  | [], _ :: _, h, _ => by simp [bytesLess] at h
  | _ :: _, [], _, h => by simp [bytesLess] at h
  | x :: a, y :: b, h1, h2 => by
    simp only [bytesLess, Bool.or_eq_false_iff, decide_eq_false_iff_not, Bool.and_eq_false_iff] at *
    have e : x = y := by
      apply UInt8.toNat_inj.1
      have := h1.1; have := h2.1
      simp only [UInt8.lt_iff_toNat_lt] at *
      omega
    subst e
    rw [bl_tri (a := a) (b := b) (by rcases h1.2 with h | h; simp at h; exact h) (by rcases h2.2 with h | h; simp at h; exact h)]
theorem bl_asymm {a b : List UInt8} (h : bytesLess a b = true) : bytesLess b a = false := by
  cases h2 : bytesLess b a with
  | false => rfl
  | true => have := bl_trans h h2; rw [bl_irrefl] at this; cases this
theorem bl_ne {a b : List UInt8} (h : bytesLess a b = true) : a ≠ b := fun e => by subst e; rw [bl_irrefl] at h; cases h

/-! ### totals -/
structure Tot where
  p : List UInt8
  gm : Int
  c : Nat → Int
def SortT (l : List Tot) : Prop := l.Pairwise fun a b => bytesLess a.p b.p = true
/-- Counts alike from the place i on. -/
def allEq (c d : Nat → Int) : Nat → Nat → Bool
  | _, 0 => true
  | i, n + 1 => (c i == d i) && allEq c d (i + 1) n
/-- A total of nothing. -/
def nzT (t : Tot) : Bool := !((t.gm == 0) && allEq t.c (fun _ => 0) 0 12)
end Go.Proofs.Tryz

namespace Go.Proofs.Tryz
open Go Go.Am Go.RowKit Go.Op
set_option maxRecDepth 100000

end Go.Proofs.Tryz
