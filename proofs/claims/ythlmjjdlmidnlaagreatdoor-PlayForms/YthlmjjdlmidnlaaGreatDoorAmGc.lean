/- Greatest common divisors as the programs compute them: plain laws, no program in sight. Ratios in lowest terms: plain laws of their products and of their multiples. -/
import Derived.Test.YthlmjjdlmidnlaaGreatDoorAmA
namespace Go.Gc

/-- 'for b != 0 { a, b = b, a%b }': what a holds at the end; the first number bounds the rounds. -/
def eu : Nat → Int → Int → Int
  | 0, a, _ => a
  | f + 1, a, b => if b = 0 then a else eu f b (a.tmod b)
def euc (a b : Int) : Int := eu (b.natAbs + 1) a b

theorem tmod_lt (a b : Int) (hb : b ≠ 0) : (a.tmod b).natAbs < b.natAbs := by
  rw [Int.natAbs_tmod]; exact Nat.mod_lt _ (by omega)
theorem eu_more : ∀ (f : Nat) (a b : Int), b.natAbs < f → eu f a b = euc a b
  | 0, _, _, h => by omega
  | f + 1, a, b, h => by
    by_cases hb : b = 0
    · subst hb; simp [eu, euc]
    · have h1 := tmod_lt a b hb
      have e1 : eu (f + 1) a b = eu f b (a.tmod b) := by simp [eu, hb]
      have e2 : euc a b = eu b.natAbs b (a.tmod b) := by simp [eu, euc, hb]
      rw [e1, e2, eu_more f b (a.tmod b) (by omega), eu_more b.natAbs b (a.tmod b) h1]
theorem euc_zero (a : Int) : euc a 0 = a := by simp [euc, eu]
theorem euc_step (a b : Int) (hb : b ≠ 0) : euc a b = euc b (a.tmod b) := by
  have h1 := tmod_lt a b hb
  have e2 : euc a b = eu b.natAbs b (a.tmod b) := by simp [eu, euc, hb]
  rw [e2, eu_more _ _ _ h1]

theorem euc_abs (a b : Int) : (euc a b).natAbs = Nat.gcd a.natAbs b.natAbs := by
  by_cases hb : b = 0
  · subst hb; rw [euc_zero]; simp
  · rw [euc_step a b hb, euc_abs b (a.tmod b), Int.natAbs_tmod, Nat.gcd_comm a.natAbs b.natAbs, Nat.gcd_rec b.natAbs a.natAbs, Nat.gcd_comm b.natAbs]
termination_by b.natAbs
decreasing_by exact tmod_lt a b hb

theorem euc_nonneg (a b : Int) (ha : 0 ≤ a) (hb : 0 ≤ b) : 0 ≤ euc a b := by
  by_cases h : b = 0
  · subst h; rw [euc_zero]; exact ha
  · rw [euc_step a b h]; exact euc_nonneg b (a.tmod b) hb (Int.tmod_nonneg _ ha)
termination_by b.natAbs
decreasing_by exact tmod_lt a b h

theorem euc_gcd (a b : Int) (ha : 0 ≤ a) (hb : 0 ≤ b) : euc a b = Nat.gcd a.natAbs b.natAbs := by
  have h := euc_abs a b
  have h2 := euc_nonneg a b ha hb
  omega

theorem wrap_id {x : Int} (h0 : -9223372036854775808 ≤ x) (h1 : x ≤ 9223372036854775807) : IntKind.wrap .i64 x = x := by
  have h : IntKind.wrap .i64 x = (if (true && decide (x % (2 : Int) ^ 64 ≥ 2 ^ 63)) = true then x % (2 : Int) ^ 64 - 2 ^ 64 else x % (2 : Int) ^ 64) := rfl
  rw [h]
  by_cases hx : 0 ≤ x
  · have e : x % (2 : Int) ^ 64 = x := Int.emod_eq_of_lt hx (by omega)
    rw [e, if_neg]; simp; omega
  · have e : x % (2 : Int) ^ 64 = x + 2 ^ 64 := by
      rw [← Int.add_emod_right]; exact Int.emod_eq_of_lt (by omega) (by omega)
    rw [e, if_pos]; omega
    simp; omega

/-- 'divisor' of the program: the greater of what is left and its opposite -/
def divI (a b : Int) : Int := max (euc a b) (IntKind.wrap .i64 (-(euc a b)))

theorem gcd_le (a b : Int) (h : b ≠ 0) : Nat.gcd a.natAbs b.natAbs ≤ b.natAbs := Nat.le_of_dvd (by omega) (Nat.gcd_dvd_right _ _)
theorem gcd_pos (a b : Int) (h : b ≠ 0) : 0 < Nat.gcd a.natAbs b.natAbs := Nat.gcd_pos_of_pos_right _ (by omega)

theorem divI_gcd (a b : Int) (hb : b ≠ 0) (hb1 : b.natAbs ≤ 1000000000000) : divI a b = Nat.gcd a.natAbs b.natAbs := by
  have h := euc_abs a b
  have h2 := gcd_le a b hb
  unfold divI
  rw [wrap_id (by omega) (by omega)]
  omega
end Go.Gc

namespace Go.Gc

theorem gcd_mul (n d k : Int) (h : Nat.gcd n.natAbs d.natAbs = 1) : Nat.gcd (n * k).natAbs (d * k).natAbs = k.natAbs := by
  rw [Int.natAbs_mul, Int.natAbs_mul, Nat.gcd_mul_right, h, Nat.one_mul]

theorem tdiv_pos {n k : Int} (h : 0 < k) : (n * k).tdiv k = n := Int.mul_tdiv_cancel _ (by omega)
theorem tdiv_neg {n k : Int} (h : k < 0) : (n * k).tdiv k = n := Int.mul_tdiv_cancel _ (by omega)

/-- the products of two ratios -/
def pr (a b : Int × Int) : Int := a.1 * b.2

def Low (a : Int × Int) : Prop := 0 < a.2 ∧ Nat.gcd a.1.natAbs a.2.natAbs = 1

theorem pr_eq {a b : Int × Int} (ha : Low a) (hb : Low b) (h : pr a b = pr b a) : a = b := by
  obtain ⟨n, d⟩ := a
  obtain ⟨m, e⟩ := b
  obtain ⟨hd, hg⟩ := ha
  obtain ⟨he, hk⟩ := hb
  simp only [pr] at h hd hg he hk
  have h2 : n.natAbs * e.natAbs = m.natAbs * d.natAbs := by rw [← Int.natAbs_mul, ← Int.natAbs_mul, h]
  have d1 : d.natAbs ∣ e.natAbs := by
    have : d.natAbs ∣ n.natAbs * e.natAbs := ⟨m.natAbs, by rw [h2, Nat.mul_comm]⟩
    exact (Nat.Coprime.dvd_of_dvd_mul_left (Nat.Coprime.symm hg) this)
  have d2 : e.natAbs ∣ d.natAbs := by
    have : e.natAbs ∣ m.natAbs * d.natAbs := ⟨n.natAbs, by rw [← h2, Nat.mul_comm]⟩
    exact (Nat.Coprime.dvd_of_dvd_mul_left (Nat.Coprime.symm hk) this)
  have d3 := Nat.dvd_antisymm d1 d2
  have hde : d = e := by omega
  subst hde
  have : n = m := Int.eq_of_mul_eq_mul_right (by omega) h
  rw [this]

theorem pr_self (a : Int × Int) : pr a a = pr a a := rfl

theorem pr_trans {a b c : Int × Int} (ha : 0 < a.2) (hb : 0 < b.2) (hc : 0 < c.2) (h1 : pr a b < pr b a) (h2 : pr b c < pr c b) : pr a c < pr c a := by
  obtain ⟨n, d⟩ := a
  obtain ⟨m, e⟩ := b
  obtain ⟨p, f⟩ := c
  simp only [pr] at *
  have k1 : n * e * f < m * d * f := Int.mul_lt_mul_of_pos_right h1 hc
  have k2 : m * f * d < p * e * d := Int.mul_lt_mul_of_pos_right h2 ha
  have e1 : m * d * f = m * f * d := by rw [Int.mul_right_comm]
  have e2 : n * e * f = n * f * e := by rw [Int.mul_right_comm]
  have e3 : p * e * d = p * d * e := by rw [Int.mul_right_comm]
  exact Int.lt_of_mul_lt_mul_right (a := e) (by omega) (by omega)

/-- which of two ratios is the greater one -/
def sg (a b : Int × Int) : Int := if pr a b < pr b a then -1 else if pr b a < pr a b then 1 else 0

theorem sg_neg (a b : Int × Int) : sg b a = - sg a b := by
  unfold sg; split <;> split <;> (try split) <;> omega

theorem sg_zero {a b : Int × Int} (ha : Low a) (hb : Low b) : sg a b = 0 ↔ a = b := by
  constructor
  · intro h
    apply pr_eq ha hb
    unfold sg at h
    split at h
    · omega
    · split at h <;> omega
  · rintro rfl; simp [sg]

theorem sg_trans {a b c : Int × Int} (ha : Low a) (hb : Low b) (hc : Low c) (h : sg a b = sg b c) : sg a c = sg a b := by
  by_cases h0 : sg a b = 0
  · have e1 := (sg_zero ha hb).1 h0
    have e2 := (sg_zero hb hc).1 (by omega)
    subst e1; subst e2; rfl
  · by_cases h1 : pr a b < pr b a
    · have s1 : sg a b = -1 := by simp [sg, h1]
      have h2 : pr b c < pr c b := by
        rw [s1] at h; unfold sg at h
        split at h
        · assumption
        · split at h <;> omega
      have := pr_trans ha.1 hb.1 hc.1 h1 h2
      rw [s1]; simp [sg, this]
    · have h1' : pr b a < pr a b := by
        unfold sg at h0; rw [if_neg h1] at h0
        split at h0
        · assumption
        · omega
      have s1 : sg a b = 1 := by simp [sg, h1, h1']
      have h2 : pr c b < pr b c := by
        rw [s1] at h; unfold sg at h
        split at h
        · omega
        · split at h
          · assumption
          · omega
      have := pr_trans hc.1 hb.1 ha.1 h2 h1'
      rw [s1]; unfold sg; rw [if_neg (by omega), if_pos this]

/-- the sum with 1 -/
theorem more_low {n d : Int} (h : Low (n, d)) : Low (n + d, d) := by
  obtain ⟨h1, h2⟩ := h
  refine ⟨h1, ?_⟩
  simp only at *
  have e : Nat.gcd (n + d).natAbs d.natAbs = Int.gcd (n + d) d := rfl
  have h3 : Int.gcd n d = 1 := h2
  rw [e]
  simpa using h3
theorem more_sg {n d : Int} (h : 0 < d) : sg (n, d) (n + d, d) = -1 := by
  have : pr (n, d) (n + d, d) < pr (n + d, d) (n, d) := by
    simp only [pr, Int.add_mul]
    have := Int.mul_pos h h
    omega
  unfold sg; rw [if_pos this]
end Go.Gc
