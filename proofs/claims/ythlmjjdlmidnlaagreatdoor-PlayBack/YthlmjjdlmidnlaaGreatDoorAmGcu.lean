/- Greatest common divisors as the programs compute them: plain laws, no program in sight. Ratios in lowest terms: plain laws of their products and of their multiples. Ratios as the programs compute them: errors, quotients, comparisons: plain laws, no program in sight. Plain: the count of a batter's balls and strikes, pitch by pitch. -/
import Derived.Test.YthlmjjdlmidnlaaGreatDoorAmA
namespace Go.Gc

theorem wrap_id {x : Int} (h0 : -9223372036854775808 ≤ x) (h1 : x ≤ 9223372036854775807) : IntKind.wrap .i64 x = x := by
  have h : IntKind.wrap .i64 x = (if (true && decide (x % (2 : Int) ^ 64 ≥ 2 ^ 63)) = true then x % (2 : Int) ^ 64 - 2 ^ 64 else x % (2 : Int) ^ 64) := rfl
  rw [h]
  by_cases hx : 0 ≤ x
  · have e : x % (2 : Int) ^ 64 = x := Int.emod_eq_of_lt hx (by omega)
    rw [e, if_neg]; simp; omega
  · have e : x % (2 : Int) ^ 64 = x + 2 ^ 64 := by
      rw [← Int.add_emod_right]; exact Int.emod_eq_of_lt (by omega) (by omega)
    rw [e, if_pos]; omega
    simp; omega

end Go.Gc

namespace Go.Gc

end Go.Gc

namespace Go.Gc

abbrev w64 (x : Int) : Int := IntKind.wrap .i64 x

/-- The first error of a ratio. -/
def chk (n d : Int) : Int := if -999999999 ≤ n then if n ≤ 999999999 then if 1 ≤ d then if d ≤ 999999999 then if Nat.gcd n.natAbs d.natAbs = 1 then 0 else 1 else 3 else 3 else 3 else 3

end Go.Gc

namespace Go.Pc
open Go Go.Gc

structure Q where
  b : Int
  s : Int
  ov : Int
  go : Int

def foulI (s : Int) : Int := if (if 2 < w64 (s + 1) then 2 else w64 (s + 1)) > s then (if 2 < w64 (s + 1) then 2 else w64 (s + 1)) else s
def nb (c b : Int) : Int := if c = 66 then w64 (b + 1) else b
def ns (c s : Int) : Int := if c = 66 then s else if c = 67 then w64 (s + 1) else if c = 83 then w64 (s + 1) else if c = 70 then foulI s else s
def o3 (b s : Int) : Int := if b = 4 then 1 else if s = 3 then 1 else 0
def nov (c b s : Int) : Int := if c = 66 then o3 (w64 (b + 1)) s else if c = 67 then o3 b (w64 (s + 1)) else if c = 83 then o3 b (w64 (s + 1)) else if c = 70 then o3 b (foulI s) else 1
def ngo (c ov go : Int) : Int := if go = 1 then (if ov = 0 then (if c = 66 then 1 else if c = 67 then 1 else if c = 83 then 1 else if c = 70 then 1 else if c = 88 then 1 else if c = 72 then 1 else 0) else 0) else 0
/-- Where the count stands before pitch i: balls, strikes, over, and whether all pitches so far were allowed. -/
def stp (y : Int → Int) (b s o : Int) : Nat → Q
  | 0 => ⟨b, s, 0, 1⟩
  | i + 1 => ⟨nb (y (o + i)) (stp y b s o i).b, ns (y (o + i)) (stp y b s o i).s, nov (y (o + i)) (stp y b s o i).b (stp y b s o i).s, ngo (y (o + i)) (stp y b s o i).ov (stp y b s o i).go⟩

def fin (x : Nat → Int) (n : Int) : Nat → Int
  | 0 => x 24
  | m + 1 => if n ≤ ((24 - (m + 1) : Nat) : Int) then x (24 - (m + 1)) else fin x n m
def err (g : Nat → Int) (n : Int) : Nat → Int
  | 0 => 0
  | m + 1 => if n ≤ ((24 - (m + 1) : Nat) : Int) then 0 else if g (24 - m) = 1 then err g n m else 1
def idx (g : Nat → Int) (n : Int) : Nat → Int
  | 0 => 0
  | m + 1 => if n ≤ ((24 - (m + 1) : Nat) : Int) then 0 else if g (24 - m) = 1 then idx g n m else ((24 - (m + 1) : Nat) : Int)

theorem err_zero (g : Nat → Int) {n : Nat} : ∀ m, m ≤ 24 → n ≤ 24 → (∀ i, 24 - m ≤ i → i ≤ n → g i = 1) → err g n m = 0
  | 0, _, _, _ => rfl
  | m + 1, hm, hn, h => by
    simp only [err]
    by_cases h1 : (n : Int) ≤ ((24 - (m + 1) : Nat) : Int)
    · rw [if_pos h1]
    · rw [if_neg h1, if_pos (h _ (by omega) (by omega))]
      exact err_zero g m (by omega) hn fun i h2 h3 => h i (by omega) h3
theorem err_idx (g : Nat → Int) {n : Nat} : ∀ m, m ≤ 24 → n ≤ 24 → g (24 - m) = 1 → err g n m ≠ 0 → ∃ i : Nat, idx g n m = i ∧ i < n ∧ g i = 1 ∧ g (i + 1) ≠ 1
  | 0, _, _, _, h => absurd rfl h
  | m + 1, hm, hn, h0, h => by
    simp only [err] at h
    by_cases h1 : (n : Int) ≤ ((24 - (m + 1) : Nat) : Int)
    · rw [if_pos h1] at h; exact absurd rfl h
    · rw [if_neg h1] at h
      simp only [idx]; rw [if_neg h1]
      by_cases h4 : g (24 - m) = 1
      · rw [if_pos h4] at h ⊢
        exact err_idx g m (by omega) hn h4 h
      · rw [if_neg h4]
        exact ⟨24 - (m + 1), rfl, by omega, h0, by rw [show 24 - (m + 1) + 1 = 24 - m by omega]; exact h4⟩

section
variable (y : Int → Int) (b s o n : Int)
def inR : Prop := 0 ≤ b ∧ b ≤ 3 ∧ 0 ≤ s ∧ s ≤ 2
instance : Decidable (inR b s) := inferInstanceAs (Decidable (_ ∧ _))
def goP (i : Nat) : Int := (stp y b s o i).go
def cE : Int := if inR b s then (if n ≤ 24 then (if err (goP y b s o) n 24 = 0 then 0 else 14) else 5) else 3
def cB : Int := if cE y b s o n = 0 then fin (fun i => (stp y b s o i).b) n 24 else 0
def cS : Int := if cE y b s o n = 0 then fin (fun i => (stp y b s o i).s) n 24 else 0
def cI : Int := if cE y b s o n = 14 then idx (goP y b s o) n 24 else 0
end

section
variable {y : Int → Int} {b s o : Int}

/-- A pitch that counts. -/
def good (c : Int) : Prop := c = 66 ∨ c = 67 ∨ c = 83 ∨ c = 70 ∨ c = 88 ∨ c = 72
theorem ngo_one {c ov go : Int} (h : ngo c ov go = 1) : go = 1 ∧ ov = 0 ∧ good c := by
  unfold ngo at h; unfold good
  by_cases h1 : go = 1
  · rw [if_pos h1] at h
    by_cases h2 : ov = 0
    · rw [if_pos h2] at h
      refine ⟨h1, h2, ?_⟩
      by_cases c1 : c = 66
      · exact .inl c1
      by_cases c2 : c = 67
      · exact .inr (.inl c2)
      by_cases c3 : c = 83
      · exact .inr (.inr (.inl c3))
      by_cases c4 : c = 70
      · exact .inr (.inr (.inr (.inl c4)))
      by_cases c5 : c = 88
      · exact .inr (.inr (.inr (.inr (.inl c5))))
      by_cases c6 : c = 72
      · exact .inr (.inr (.inr (.inr (.inr c6))))
      rw [if_neg c1, if_neg c2, if_neg c3, if_neg c4, if_neg c5, if_neg c6] at h; cases h
    · rw [if_neg h2] at h; cases h
  · rw [if_neg h1] at h; cases h
theorem ngo_of {c ov go : Int} (h1 : go = 1) (h2 : ov = 0) (h3 : good c) : ngo c ov go = 1 := by
  unfold ngo; rw [if_pos h1, if_pos h2]
  rcases h3 with h | h | h | h | h | h <;> subst h <;> decide

theorem go_down {i : Nat} (h : goP y b s o (i + 1) = 1) : goP y b s o i = 1 ∧ (stp y b s o i).ov = 0 ∧ good (y (o + i)) := ngo_one h
theorem w_id {x : Int} (h0 : 0 ≤ x) (h1 : x ≤ 100) : w64 x = x := wrap_id (by omega) (by omega)
theorem foulI_eq {s : Int} (h0 : 0 ≤ s) (h1 : s ≤ 3) : foulI s = if s ≤ 1 then s + 1 else s := by
  unfold foulI; rw [w_id (by omega) (by omega)]
  by_cases h : s ≤ 1
  · rw [if_neg (show ¬ 2 < s + 1 by omega), if_pos (show s + 1 > s by omega), if_pos h]
  · by_cases h2 : 2 < s + 1
    · rw [if_pos h2, if_neg (show ¬ (2 : Int) > s by omega), if_neg h]
    · omega

theorem o3_zero {b s : Int} (h : o3 b s = 0) : b ≠ 4 ∧ s ≠ 3 := by
  unfold o3 at h
  by_cases h1 : b = 4
  · rw [if_pos h1] at h; cases h
  · by_cases h2 : s = 3
    · rw [if_neg h1, if_pos h2] at h; cases h
    · exact ⟨h1, h2⟩
theorem inv (hr : inR b s) : ∀ i, goP y b s o i = 1 → 0 ≤ (stp y b s o i).b ∧ (stp y b s o i).b ≤ 4 ∧ 0 ≤ (stp y b s o i).s ∧ (stp y b s o i).s ≤ 3 ∧ ((stp y b s o i).ov = 0 → (stp y b s o i).b ≤ 3 ∧ (stp y b s o i).s ≤ 2)
  | 0, _ => ⟨hr.1, by have := hr.2.1; show b ≤ 4; omega, hr.2.2.1, by have := hr.2.2.2; show s ≤ 3; omega, fun _ => ⟨hr.2.1, hr.2.2.2⟩⟩
  | i + 1, h => by
    obtain ⟨g1, g2, g3⟩ := go_down h
    obtain ⟨a1, a2, a3, a4, a5⟩ := inv hr i g1
    obtain ⟨a6, a7⟩ := a5 g2
    have wb := w_id (x := (stp y b s o i).b + 1) (by omega) (by omega)
    have ws := w_id (x := (stp y b s o i).s + 1) (by omega) (by omega)
    have wf := foulI_eq a3 (by omega)
    simp only [stp, nb, ns, nov]
    rcases g3 with c | c | c | c | c | c <;> rw [c] <;> simp only [Int.reduceEq, if_true, if_false, wb, ws, wf]
    · refine ⟨by omega, by omega, by omega, by omega, fun h => ?_⟩
      have := o3_zero h; omega
    · refine ⟨by omega, by omega, by omega, by omega, fun h => ?_⟩
      have := o3_zero h; omega
    · refine ⟨by omega, by omega, by omega, by omega, fun h => ?_⟩
      have := o3_zero h; omega
    · split
      · refine ⟨by omega, by omega, by omega, by omega, fun h => ?_⟩
        have := o3_zero h; omega
      · refine ⟨by omega, by omega, by omega, by omega, fun h => ?_⟩
        have := o3_zero h; omega
    · exact ⟨by omega, by omega, by omega, by omega, fun h => by cases h⟩
    · exact ⟨by omega, by omega, by omega, by omega, fun h => by cases h⟩

/-- The pitch that is too many, or none at all. -/
theorem bad {n : Nat} (hr : inR b s) (hn : n ≤ 24) (h : cE y b s o n ≠ 0) : cE y b s o n = 14 ∧ cB y b s o n = 0 ∧ cS y b s o n = 0 ∧ ∃ i : Nat, cI y b s o n = i ∧ i < n ∧ goP y b s o i = 1 ∧ goP y b s o (i + 1) ≠ 1 := by
  have e : cE y b s o n = if err (goP y b s o) n 24 = 0 then 0 else 14 := by rw [cE, if_pos hr, if_pos (by omega)]
  by_cases h1 : err (goP y b s o) n 24 = 0
  · rw [e, if_pos h1] at h; exact absurd rfl h
  · rw [if_neg h1] at e
    refine ⟨e, by rw [cB, if_neg h], by rw [cS, if_neg h], ?_⟩
    rw [cI, if_pos e]
    exact err_idx _ 24 (Nat.le_refl _) hn rfl h1

/-! ### the law's own count -/
def ts (c s : Int) : Int := if c = 66 then s else if c = 67 then w64 (s + 1) else if c = 83 then w64 (s + 1) else if c = 70 then (if 2 ≤ s then s else w64 (s + 1)) else s
/-! ### counted in two parts -/
theorem parts (k : Nat) : ∀ j, (stp y (stp y b s o k).b (stp y b s o k).s (o + k) j).b = (stp y b s o (k + j)).b ∧ (stp y (stp y b s o k).b (stp y b s o k).s (o + k) j).s = (stp y b s o (k + j)).s ∧ (1 ≤ j → (stp y (stp y b s o k).b (stp y b s o k).s (o + k) j).ov = (stp y b s o (k + j)).ov) ∧ (goP y b s o (k + j) = 1 → goP y (stp y b s o k).b (stp y b s o k).s (o + k) j = 1)
  | 0 => ⟨rfl, rfl, fun h => absurd h (by omega), fun _ => rfl⟩
  | j + 1 => by
    obtain ⟨i1, i2, i3, i4⟩ := parts k j
    have e : o + (k : Int) + (j : Int) = o + ((k + j : Nat) : Int) := by omega
    refine ⟨?_, ?_, fun _ => ?_, fun h => ?_⟩
    · simp only [stp, i1, e]; rfl
    · simp only [stp, i2, e]; rfl
    · simp only [stp, i1, i2, e]; rfl
    · obtain ⟨g1, g2, g3⟩ := go_down (i := k + j) h
      refine ngo_of (i4 g1) ?_ (by rw [e]; exact g3)
      by_cases hj : 1 ≤ j
      · rw [i3 hj]; exact g2
      · rw [show j = 0 by omega]; rfl
end
end Go.Pc
