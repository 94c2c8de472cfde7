/- Greatest common divisors as the programs compute them: plain laws, no program in sight. Ratios in lowest terms: plain laws of their products and of their multiples. Ratios as the programs compute them: errors, quotients, comparisons: plain laws, no program in sight. Plain: the count of a batter's balls and strikes, pitch by pitch. -/
import Derived.Test.YthlmjjdlmidnlaaGreatDoorAmA
namespace Go.Gc

/-- 'for b != 0 { a, b = b, a%b }': what a holds at the end; the first number bounds the rounds. -/
def eu : Nat → Int → Int → Int
  | 0, a, _ => a
  | f + 1, a, b => if b = 0 then a else eu f b (a.tmod b)
def euc (a b : Int) : Int := eu (b.natAbs + 1) a b

theorem tmod_lt (a b : Int) (hb : b ≠ 0) : (a.tmod b).natAbs < b.natAbs := by
  rw [Int.natAbs_tmod]; exact Nat.mod_lt _ (by omega)
theorem eu_more : ∀ (f : Nat) (a b : Int), b.natAbs < f → eu f a b = euc a b
  | 0, _, _, h => by omega
  | f + 1, a, b, h => by
    by_cases hb : b = 0
    · subst hb; simp [eu, euc]
    · have h1 := tmod_lt a b hb
      have e1 : eu (f + 1) a b = eu f b (a.tmod b) := by simp [eu, hb]
      have e2 : euc a b = eu b.natAbs b (a.tmod b) := by simp [eu, euc, hb]
      rw [e1, e2, eu_more f b (a.tmod b) (by omega), eu_more b.natAbs b (a.tmod b) h1]
theorem euc_zero (a : Int) : euc a 0 = a := by simp [euc, eu]
theorem euc_step (a b : Int) (hb : b ≠ 0) : euc a b = euc b (a.tmod b) := by
  have h1 := tmod_lt a b hb
  have e2 : euc a b = eu b.natAbs b (a.tmod b) := by simp [eu, euc, hb]
  rw [e2, eu_more _ _ _ h1]

theorem euc_abs (a b : Int) : (euc a b).natAbs = Nat.gcd a.natAbs b.natAbs := by
  by_cases hb : b = 0
  · subst hb; rw [euc_zero]; simp
  · rw [euc_step a b hb, euc_abs b (a.tmod b), Int.natAbs_tmod, Nat.gcd_comm a.natAbs b.natAbs, Nat.gcd_rec b.natAbs a.natAbs, Nat.gcd_comm b.natAbs]
termination_by b.natAbs
decreasing_by exact tmod_lt a b hb

theorem euc_nonneg (a b : Int) (ha : 0 ≤ a) (hb : 0 ≤ b) : 0 ≤ euc a b := by
  by_cases h : b = 0
  · subst h; rw [euc_zero]; exact ha
  · rw [euc_step a b h]; exact euc_nonneg b (a.tmod b) hb (Int.tmod_nonneg _ ha)
termination_by b.natAbs
decreasing_by exact tmod_lt a b h

theorem euc_gcd (a b : Int) (ha : 0 ≤ a) (hb : 0 ≤ b) : euc a b = Nat.gcd a.natAbs b.natAbs := by
  have h := euc_abs a b
  have h2 := euc_nonneg a b ha hb
  omega

theorem wrap_id {x : Int} (h0 : -9223372036854775808 ≤ x) (h1 : x ≤ 9223372036854775807) : IntKind.wrap .i64 x = x := by
  have h : IntKind.wrap .i64 x = (if (true && decide (x % (2 : Int) ^ 64 ≥ 2 ^ 63)) = true then x % (2 : Int) ^ 64 - 2 ^ 64 else x % (2 : Int) ^ 64) := rfl
  rw [h]
  by_cases hx : 0 ≤ x
  · have e : x % (2 : Int) ^ 64 = x := Int.emod_eq_of_lt hx (by omega)
    rw [e, if_neg]; simp; omega
  · have e : x % (2 : Int) ^ 64 = x + 2 ^ 64 := by
      rw [← Int.add_emod_right]; exact Int.emod_eq_of_lt (by omega) (by omega)
    rw [e, if_pos]; omega
    simp; omega

/-- 'divisor' of the program: the greater of what is left and its opposite -/
def divI (a b : Int) : Int := max (euc a b) (IntKind.wrap .i64 (-(euc a b)))

theorem gcd_le (a b : Int) (h : b ≠ 0) : Nat.gcd a.natAbs b.natAbs ≤ b.natAbs := Nat.le_of_dvd (by omega) (Nat.gcd_dvd_right _ _)
theorem gcd_pos (a b : Int) (h : b ≠ 0) : 0 < Nat.gcd a.natAbs b.natAbs := Nat.gcd_pos_of_pos_right _ (by omega)

theorem divI_gcd (a b : Int) (hb : b ≠ 0) (hb1 : b.natAbs ≤ 1000000000000) : divI a b = Nat.gcd a.natAbs b.natAbs := by
  have h := euc_abs a b
  have h2 := gcd_le a b hb
  unfold divI
  rw [wrap_id (by omega) (by omega)]
  omega
end Go.Gc

namespace Go.Gc

theorem gcd_mul (n d k : Int) (h : Nat.gcd n.natAbs d.natAbs = 1) : Nat.gcd (n * k).natAbs (d * k).natAbs = k.natAbs := by
  rw [Int.natAbs_mul, Int.natAbs_mul, Nat.gcd_mul_right, h, Nat.one_mul]

theorem tdiv_pos {n k : Int} (h : 0 < k) : (n * k).tdiv k = n := Int.mul_tdiv_cancel _ (by omega)
theorem tdiv_neg {n k : Int} (h : k < 0) : (n * k).tdiv k = n := Int.mul_tdiv_cancel _ (by omega)

/-- the products of two ratios -/
def pr (a b : Int × Int) : Int := a.1 * b.2

def Low (a : Int × Int) : Prop := 0 < a.2 ∧ Nat.gcd a.1.natAbs a.2.natAbs = 1

theorem pr_eq {a b : Int × Int} (ha : Low a) (hb : Low b) (h : pr a b = pr b a) : a = b := by
  obtain ⟨n, d⟩ := a
  obtain ⟨m, e⟩ := b
  obtain ⟨hd, hg⟩ := ha
  obtain ⟨he, hk⟩ := hb
  simp only [pr] at h hd hg he hk
  have h2 : n.natAbs * e.natAbs = m.natAbs * d.natAbs := by rw [← Int.natAbs_mul, ← Int.natAbs_mul, h]
  have d1 : d.natAbs ∣ e.natAbs := by
    have : d.natAbs ∣ n.natAbs * e.natAbs := ⟨m.natAbs, by rw [h2, Nat.mul_comm]⟩
    exact (Nat.Coprime.dvd_of_dvd_mul_left (Nat.Coprime.symm hg) this)
  have d2 : e.natAbs ∣ d.natAbs := by
    have : e.natAbs ∣ m.natAbs * d.natAbs := ⟨n.natAbs, by rw [← h2, Nat.mul_comm]⟩
    exact (Nat.Coprime.dvd_of_dvd_mul_left (Nat.Coprime.symm hk) this)
  have d3 := Nat.dvd_antisymm d1 d2
  have hde : d = e := by omega
  subst hde
  have : n = m := Int.eq_of_mul_eq_mul_right (by omega) h
  rw [this]

theorem pr_self (a : Int × Int) : pr a a = pr a a := rfl

theorem pr_trans {a b c : Int × Int} (ha : 0 < a.2) (hb : 0 < b.2) (hc : 0 < c.2) (h1 : pr a b < pr b a) (h2 : pr b c < pr c b) : pr a c < pr c a := by
  obtain ⟨n, d⟩ := a
  obtain ⟨m, e⟩ := b
  obtain ⟨p, f⟩ := c
  simp only [pr] at *
  have k1 : n * e * f < m * d * f := Int.mul_lt_mul_of_pos_right h1 hc
  have k2 : m * f * d < p * e * d := Int.mul_lt_mul_of_pos_right h2 ha
  have e1 : m * d * f = m * f * d := by rw [Int.mul_right_comm]
  have e2 : n * e * f = n * f * e := by rw [Int.mul_right_comm]
  have e3 : p * e * d = p * d * e := by rw [Int.mul_right_comm]
  exact Int.lt_of_mul_lt_mul_right (a := e) (by omega) (by omega)

/-- which of two ratios is the greater one -/
def sg (a b : Int × Int) : Int := if pr a b < pr b a then -1 else if pr b a < pr a b then 1 else 0

theorem sg_neg (a b : Int × Int) : sg b a = - sg a b := by
  unfold sg; split <;> split <;> (try split) <;> omega

theorem sg_zero {a b : Int × Int} (ha : Low a) (hb : Low b) : sg a b = 0 ↔ a = b := by
  constructor
  · intro h
    apply pr_eq ha hb
    unfold sg at h
    split at h
    · omega
    · split at h <;> omega
  · rintro rfl; simp [sg]

theorem sg_trans {a b c : Int × Int} (ha : Low a) (hb : Low b) (hc : Low c) (h : sg a b = sg b c) : sg a c = sg a b := by
  by_cases h0 : sg a b = 0
  · have e1 := (sg_zero ha hb).1 h0
    have e2 := (sg_zero hb hc).1 (by omega)
    subst e1; subst e2; rfl
  · by_cases h1 : pr a b < pr b a
    · have s1 : sg a b = -1 := by simp [sg, h1]
      have h2 : pr b c < pr c b := by
        rw [s1] at h; unfold sg at h
        split at h
        · assumption
        · split at h <;> omega
      have := pr_trans ha.1 hb.1 hc.1 h1 h2
      rw [s1]; simp [sg, this]
    · have h1' : pr b a < pr a b := by
        unfold sg at h0; rw [if_neg h1] at h0
        split at h0
        · assumption
        · omega
      have s1 : sg a b = 1 := by simp [sg, h1, h1']
      have h2 : pr c b < pr b c := by
        rw [s1] at h; unfold sg at h
        split at h
        · omega
        · split at h
          · assumption
          · omega
      have := pr_trans hc.1 hb.1 ha.1 h2 h1'
      rw [s1]; unfold sg; rw [if_neg (by omega), if_pos this]

/-- the sum with 1 -/
theorem more_low {n d : Int} (h : Low (n, d)) : Low (n + d, d) := by
  obtain ⟨h1, h2⟩ := h
  refine ⟨h1, ?_⟩
  simp only at *
  have e : Nat.gcd (n + d).natAbs d.natAbs = Int.gcd (n + d) d := rfl
  have h3 : Int.gcd n d = 1 := h2
  rw [e]
  simpa using h3
theorem more_sg {n d : Int} (h : 0 < d) : sg (n, d) (n + d, d) = -1 := by
  have : pr (n, d) (n + d, d) < pr (n + d, d) (n, d) := by
    simp only [pr, Int.add_mul]
    have := Int.mul_pos h h
    omega
  unfold sg; rw [if_pos this]
end Go.Gc

namespace Go.Gc

abbrev w64 (x : Int) : Int := IntKind.wrap .i64 x

/-- The first error of a ratio. -/
def chk (n d : Int) : Int := if -999999999 ≤ n then if n ≤ 999999999 then if 1 ≤ d then if d ≤ 999999999 then if Nat.gcd n.natAbs d.natAbs = 1 then 0 else 1 else 3 else 3 else 3 else 3

theorem chk_zero {n d : Int} (h : chk n d = 0) : -999999999 ≤ n ∧ n ≤ 999999999 ∧ 1 ≤ d ∧ d ≤ 999999999 ∧ Low (n, d) := by
  unfold chk at h
  split at h
  · split at h
    · split at h
      · split at h
        · split at h
          · exact ⟨by assumption, by assumption, by assumption, by assumption, by simp only; omega, by assumption⟩
          · omega
        · omega
      · omega
    · omega
  · omega

theorem chk_low {n d : Int} (h1 : -999999999 ≤ n) (h2 : n ≤ 999999999) (h3 : d ≤ 999999999) (h : Low (n, d)) : chk n d = 0 := by
  have h4 : 1 ≤ d := by have := h.1; simp only at this; omega
  have h5 := h.2
  simp only at h5
  simp only [chk, if_pos h1, if_pos h2, if_pos h3, if_pos h4, if_pos h5]

theorem chk_cases (n d : Int) : chk n d = 0 ∨ chk n d = 1 ∨ chk n d = 3 := by
  unfold chk
  repeat' split
  all_goals simp

/-- The error of the arguments of Rate. -/
def rtE (n d : Int) : Int := if -999999999 ≤ n then if n ≤ 999999999 then if -999999999 ≤ d then if d ≤ 999999999 then if d = 0 then 6 else 0 else 3 else 3 else 3 else 3
/-- Rate's numbers. -/
def rtN (n d : Int) : Int := if rtE n d = 0 then (if d < 0 then (-n).tdiv (Nat.gcd n.natAbs d.natAbs) else n.tdiv (Nat.gcd n.natAbs d.natAbs)) else 0
def rtD (n d : Int) : Int := if rtE n d = 0 then (if d < 0 then (-d).tdiv (Nat.gcd n.natAbs d.natAbs) else d.tdiv (Nat.gcd n.natAbs d.natAbs)) else 0

theorem rtE_zero {n d : Int} (h : rtE n d = 0) : -999999999 ≤ n ∧ n ≤ 999999999 ∧ -999999999 ≤ d ∧ d ≤ 999999999 ∧ d ≠ 0 := by
  unfold rtE at h
  split at h
  · split at h
    · split at h
      · split at h
        · split at h
          · omega
          · exact ⟨by assumption, by assumption, by assumption, by assumption, by assumption⟩
        · omega
      · omega
    · omega
  · omega

theorem rtE_of {n d : Int} (h1 : -999999999 ≤ n) (h2 : n ≤ 999999999) (h3 : -999999999 ≤ d) (h4 : d ≤ 999999999) (h5 : d ≠ 0) : rtE n d = 0 := by
  simp only [rtE, if_pos h1, if_pos h2, if_pos h3, if_pos h4, if_neg h5]

theorem rtE_cases (n d : Int) : rtE n d = 0 ∨ rtE n d = 3 ∨ rtE n d = 6 := by
  unfold rtE
  repeat' split
  all_goals simp

theorem tdiv_bound (n : Int) (g : Nat) : (n.tdiv g).natAbs ≤ n.natAbs := by
  rw [Int.natAbs_tdiv]; exact Nat.div_le_self _ _

theorem quo_pos (x n d : Int) (hb : -999999999 ≤ x ∧ x ≤ 999999999) (hd : d ≠ 0) (h1 : d.natAbs ≤ 999999999) : w64 (x.tdiv (divI n d)) = x.tdiv (Nat.gcd n.natAbs d.natAbs) := by
  rw [divI_gcd n d hd (by omega)]
  have := tdiv_bound x (Nat.gcd n.natAbs d.natAbs)
  exact wrap_id (by omega) (by omega)

theorem quo_neg (x n d : Int) (hb : -999999999 ≤ x ∧ x ≤ 999999999) (hd : d ≠ 0) (h1 : d.natAbs ≤ 999999999) : w64 (x.tdiv (w64 (0 - divI n d))) = (-x).tdiv (Nat.gcd n.natAbs d.natAbs) := by
  have h2 := gcd_le n d hd
  rw [divI_gcd n d hd (by omega)]
  have e : w64 (0 - (Nat.gcd n.natAbs d.natAbs : Int)) = -(Nat.gcd n.natAbs d.natAbs : Int) := by
    rw [show w64 (0 - (Nat.gcd n.natAbs d.natAbs : Int)) = 0 - (Nat.gcd n.natAbs d.natAbs : Int) from wrap_id (by omega) (by omega)]; omega
  rw [e, Int.tdiv_neg, ← Int.neg_tdiv]
  have := tdiv_bound (-x) (Nat.gcd n.natAbs d.natAbs)
  exact wrap_id (by omega) (by omega)

/-- The reference's divisor of the numbers without their signs. -/
theorem euc_abs' (a b : Int) (ha : 0 ≤ a) (hb : 0 ≤ b) {n d : Int} (h1 : a.natAbs = n.natAbs) (h2 : b.natAbs = d.natAbs) : euc a b = Nat.gcd n.natAbs d.natAbs := by
  rw [euc_gcd a b ha hb, h1, h2]

/-- Compare's error and answer. -/
def cmE (a b c d : Int) : Int := if chk a b = 0 then chk c d else chk a b
def cmV (a b c d : Int) : Int := if cmE a b c d = 0 then sg (a, b) (c, d) else 0

/-- The reference's Compare. -/
def sgw (a b c d : Int) : Int := if w64 (a * d) < w64 (c * b) then -1 else if w64 (c * b) < w64 (a * d) then 1 else 0

theorem mul_bound {a b : Int} (h1 : a.natAbs ≤ 999999999) (h2 : b.natAbs ≤ 999999999) : w64 (a * b) = a * b := by
  have h : (a * b).natAbs ≤ 999999999 * 999999999 := by
    rw [Int.natAbs_mul]; exact Nat.mul_le_mul h1 h2
  exact wrap_id (by omega) (by omega)

theorem sgw_sg {a b c d : Int} (h1 : chk a b = 0) (h2 : chk c d = 0) : sgw a b c d = sg (a, b) (c, d) := by
  obtain ⟨a1, a2, a3, a4, _⟩ := chk_zero h1
  obtain ⟨b1, b2, b3, b4, _⟩ := chk_zero h2
  unfold sgw sg pr
  rw [mul_bound (by omega) (by omega), mul_bound (by omega) (by omega)]

theorem sg_cases (a b : Int × Int) : sg a b = 0 ∨ sg a b = 1 ∨ sg a b = -1 := by
  unfold sg
  repeat' split
  all_goals simp

/-- A ratio is that of any multiple of its numbers. -/
theorem rt_mul {n d k : Int} (h : Low (n, d)) (hn : n.natAbs ≤ 30000) (hd : d.natAbs ≤ 30000) (hk : k.natAbs ≤ 100) (hk0 : k ≠ 0) :
    rtE (n * k) (d * k) = 0 ∧ rtN (n * k) (d * k) = n ∧ rtD (n * k) (d * k) = d := by
  have h1 : (n * k).natAbs ≤ 30000 * 100 := by rw [Int.natAbs_mul]; exact Nat.mul_le_mul hn hk
  have h2 : (d * k).natAbs ≤ 30000 * 100 := by rw [Int.natAbs_mul]; exact Nat.mul_le_mul hd hk
  have hp := h.1
  simp only at hp
  have hdk : d * k ≠ 0 := by
    intro e
    rcases Int.mul_eq_zero.1 e with e | e <;> omega
  have hE : rtE (n * k) (d * k) = 0 := rtE_of (by omega) (by omega) (by omega) (by omega) hdk
  have hg := gcd_mul n d k h.2
  refine ⟨hE, ?_, ?_⟩
  · unfold rtN
    rw [if_pos hE, hg]
    split
    · rename_i hneg
      have hk : k < 0 := by
        rcases Int.lt_or_gt_of_ne hk0 with q | q
        · exact q
        · have := Int.mul_pos hp q; omega
      have e1 : (k.natAbs : Int) = -k := by omega
      rw [e1, Int.tdiv_neg, Int.neg_tdiv, Int.neg_neg]
      exact tdiv_neg hk
    · rename_i hpos
      have hk : 0 < k := by
        rcases Int.lt_or_gt_of_ne hk0 with q | q
        · have := Int.mul_neg_of_pos_of_neg hp q; omega
        · exact q
      have e1 : (k.natAbs : Int) = k := by omega
      rw [e1]
      exact tdiv_pos hk
  · unfold rtD
    rw [if_pos hE, hg]
    split
    · rename_i hneg
      have hk : k < 0 := by
        rcases Int.lt_or_gt_of_ne hk0 with q | q
        · exact q
        · have := Int.mul_pos hp q; omega
      have e1 : (k.natAbs : Int) = -k := by omega
      rw [e1, Int.tdiv_neg, Int.neg_tdiv, Int.neg_neg]
      exact tdiv_neg hk
    · rename_i hpos
      have hk : 0 < k := by
        rcases Int.lt_or_gt_of_ne hk0 with q | q
        · have := Int.mul_neg_of_pos_of_neg hp q; omega
        · exact q
      have e1 : (k.natAbs : Int) = k := by omega
      rw [e1]
      exact tdiv_pos hk
end Go.Gc

namespace Go.Pc
open Go Go.Gc

structure Q where
  b : Int
  s : Int
  ov : Int
  go : Int

def foulI (s : Int) : Int := if (if 2 < w64 (s + 1) then 2 else w64 (s + 1)) > s then (if 2 < w64 (s + 1) then 2 else w64 (s + 1)) else s
def nb (c b : Int) : Int := if c = 66 then w64 (b + 1) else b
def ns (c s : Int) : Int := if c = 66 then s else if c = 67 then w64 (s + 1) else if c = 83 then w64 (s + 1) else if c = 70 then foulI s else s
def o3 (b s : Int) : Int := if b = 4 then 1 else if s = 3 then 1 else 0
def nov (c b s : Int) : Int := if c = 66 then o3 (w64 (b + 1)) s else if c = 67 then o3 b (w64 (s + 1)) else if c = 83 then o3 b (w64 (s + 1)) else if c = 70 then o3 b (foulI s) else 1
def ngo (c ov go : Int) : Int := if go = 1 then (if ov = 0 then (if c = 66 then 1 else if c = 67 then 1 else if c = 83 then 1 else if c = 70 then 1 else if c = 88 then 1 else if c = 72 then 1 else 0) else 0) else 0
/-- Where the count stands before pitch i: balls, strikes, over, and whether all pitches so far were allowed. -/
def stp (y : Int → Int) (b s o : Int) : Nat → Q
  | 0 => ⟨b, s, 0, 1⟩
  | i + 1 => ⟨nb (y (o + i)) (stp y b s o i).b, ns (y (o + i)) (stp y b s o i).s, nov (y (o + i)) (stp y b s o i).b (stp y b s o i).s, ngo (y (o + i)) (stp y b s o i).ov (stp y b s o i).go⟩

def fin (x : Nat → Int) (n : Int) : Nat → Int
  | 0 => x 24
  | m + 1 => if n ≤ ((24 - (m + 1) : Nat) : Int) then x (24 - (m + 1)) else fin x n m
def err (g : Nat → Int) (n : Int) : Nat → Int
  | 0 => 0
  | m + 1 => if n ≤ ((24 - (m + 1) : Nat) : Int) then 0 else if g (24 - m) = 1 then err g n m else 1
def idx (g : Nat → Int) (n : Int) : Nat → Int
  | 0 => 0
  | m + 1 => if n ≤ ((24 - (m + 1) : Nat) : Int) then 0 else if g (24 - m) = 1 then idx g n m else ((24 - (m + 1) : Nat) : Int)

theorem fin_eq (x : Nat → Int) {n : Nat} (hn : n ≤ 24) : ∀ m, m ≤ 24 → 24 - m ≤ n → fin x n m = x n
  | 0, _, h => by rw [show n = 24 by omega]; rfl
  | m + 1, hm, h => by
    simp only [fin]
    by_cases h1 : (n : Int) ≤ ((24 - (m + 1) : Nat) : Int)
    · rw [if_pos h1, show 24 - (m + 1) = n by omega]
    · rw [if_neg h1]; exact fin_eq x hn m (by omega) (by omega)

theorem err_zero (g : Nat → Int) {n : Nat} : ∀ m, m ≤ 24 → n ≤ 24 → (∀ i, 24 - m ≤ i → i ≤ n → g i = 1) → err g n m = 0
  | 0, _, _, _ => rfl
  | m + 1, hm, hn, h => by
    simp only [err]
    by_cases h1 : (n : Int) ≤ ((24 - (m + 1) : Nat) : Int)
    · rw [if_pos h1]
    · rw [if_neg h1, if_pos (h _ (by omega) (by omega))]
      exact err_zero g m (by omega) hn fun i h2 h3 => h i (by omega) h3
theorem err_all (g : Nat → Int) {n : Nat} : ∀ m, m ≤ 24 → n ≤ 24 → g (24 - m) = 1 → err g n m = 0 → ∀ i, 24 - m ≤ i → i ≤ n → g i = 1
  | 0, _, _, h0, _, i, h2, h3 => by rw [show i = 24 - 0 by omega]; exact h0
  | m + 1, hm, hn, h0, h, i, h2, h3 => by
    by_cases he : i = 24 - (m + 1)
    · rw [he]; exact h0
    · simp only [err] at h
      rw [if_neg (show ¬ (n : Int) ≤ ((24 - (m + 1) : Nat) : Int) by omega)] at h
      by_cases h4 : g (24 - m) = 1
      · rw [if_pos h4] at h
        exact err_all g m (by omega) hn h4 h i (by omega) h3
      · rw [if_neg h4] at h; cases h
theorem err_idx (g : Nat → Int) {n : Nat} : ∀ m, m ≤ 24 → n ≤ 24 → g (24 - m) = 1 → err g n m ≠ 0 → ∃ i : Nat, idx g n m = i ∧ i < n ∧ g i = 1 ∧ g (i + 1) ≠ 1
  | 0, _, _, _, h => absurd rfl h
  | m + 1, hm, hn, h0, h => by
    simp only [err] at h
    by_cases h1 : (n : Int) ≤ ((24 - (m + 1) : Nat) : Int)
    · rw [if_pos h1] at h; exact absurd rfl h
    · rw [if_neg h1] at h
      simp only [idx]; rw [if_neg h1]
      by_cases h4 : g (24 - m) = 1
      · rw [if_pos h4] at h ⊢
        exact err_idx g m (by omega) hn h4 h
      · rw [if_neg h4]
        exact ⟨24 - (m + 1), rfl, by omega, h0, by rw [show 24 - (m + 1) + 1 = 24 - m by omega]; exact h4⟩

section
variable (y : Int → Int) (b s o n : Int)
def inR : Prop := 0 ≤ b ∧ b ≤ 3 ∧ 0 ≤ s ∧ s ≤ 2
instance : Decidable (inR b s) := inferInstanceAs (Decidable (_ ∧ _))
def goP (i : Nat) : Int := (stp y b s o i).go
def cE : Int := if inR b s then (if n ≤ 24 then (if err (goP y b s o) n 24 = 0 then 0 else 14) else 5) else 3
def cB : Int := if cE y b s o n = 0 then fin (fun i => (stp y b s o i).b) n 24 else 0
def cS : Int := if cE y b s o n = 0 then fin (fun i => (stp y b s o i).s) n 24 else 0
def cI : Int := if cE y b s o n = 14 then idx (goP y b s o) n 24 else 0
end

section
variable {y : Int → Int} {b s o : Int}

/-- A pitch that counts. -/
def good (c : Int) : Prop := c = 66 ∨ c = 67 ∨ c = 83 ∨ c = 70 ∨ c = 88 ∨ c = 72
theorem ngo_one {c ov go : Int} (h : ngo c ov go = 1) : go = 1 ∧ ov = 0 ∧ good c := by
  unfold ngo at h; unfold good
  by_cases h1 : go = 1
  · rw [if_pos h1] at h
    by_cases h2 : ov = 0
    · rw [if_pos h2] at h
      refine ⟨h1, h2, ?_⟩
      by_cases c1 : c = 66
      · exact .inl c1
      by_cases c2 : c = 67
      · exact .inr (.inl c2)
      by_cases c3 : c = 83
      · exact .inr (.inr (.inl c3))
      by_cases c4 : c = 70
      · exact .inr (.inr (.inr (.inl c4)))
      by_cases c5 : c = 88
      · exact .inr (.inr (.inr (.inr (.inl c5))))
      by_cases c6 : c = 72
      · exact .inr (.inr (.inr (.inr (.inr c6))))
      rw [if_neg c1, if_neg c2, if_neg c3, if_neg c4, if_neg c5, if_neg c6] at h; cases h
    · rw [if_neg h2] at h; cases h
  · rw [if_neg h1] at h; cases h
theorem ngo_of {c ov go : Int} (h1 : go = 1) (h2 : ov = 0) (h3 : good c) : ngo c ov go = 1 := by
  unfold ngo; rw [if_pos h1, if_pos h2]
  rcases h3 with h | h | h | h | h | h <;> subst h <;> decide

theorem go_down {i : Nat} (h : goP y b s o (i + 1) = 1) : goP y b s o i = 1 ∧ (stp y b s o i).ov = 0 ∧ good (y (o + i)) := ngo_one h
theorem go_le {n : Nat} (h : goP y b s o n = 1) : ∀ {i : Nat}, i ≤ n → goP y b s o i = 1 := by
  intro i hi
  induction n with
  | zero => rw [show i = 0 by omega]; rfl
  | succ n ih =>
    by_cases he : i = n + 1
    · rw [he]; exact h
    · exact ih (go_down h).1 (by omega)

theorem w_id {x : Int} (h0 : 0 ≤ x) (h1 : x ≤ 100) : w64 x = x := wrap_id (by omega) (by omega)
theorem foulI_eq {s : Int} (h0 : 0 ≤ s) (h1 : s ≤ 3) : foulI s = if s ≤ 1 then s + 1 else s := by
  unfold foulI; rw [w_id (by omega) (by omega)]
  by_cases h : s ≤ 1
  · rw [if_neg (show ¬ 2 < s + 1 by omega), if_pos (show s + 1 > s by omega), if_pos h]
  · by_cases h2 : 2 < s + 1
    · rw [if_pos h2, if_neg (show ¬ (2 : Int) > s by omega), if_neg h]
    · omega

theorem o3_zero {b s : Int} (h : o3 b s = 0) : b ≠ 4 ∧ s ≠ 3 := by
  unfold o3 at h
  by_cases h1 : b = 4
  · rw [if_pos h1] at h; cases h
  · by_cases h2 : s = 3
    · rw [if_neg h1, if_pos h2] at h; cases h
    · exact ⟨h1, h2⟩
theorem o3_one {b s : Int} (h : o3 b s ≠ 0) : b = 4 ∨ s = 3 := by
  unfold o3 at h
  by_cases h1 : b = 4
  · exact .inl h1
  · by_cases h2 : s = 3
    · exact .inr h2
    · rw [if_neg h1, if_neg h2] at h; exact absurd rfl h

theorem inv (hr : inR b s) : ∀ i, goP y b s o i = 1 → 0 ≤ (stp y b s o i).b ∧ (stp y b s o i).b ≤ 4 ∧ 0 ≤ (stp y b s o i).s ∧ (stp y b s o i).s ≤ 3 ∧ ((stp y b s o i).ov = 0 → (stp y b s o i).b ≤ 3 ∧ (stp y b s o i).s ≤ 2)
  | 0, _ => ⟨hr.1, by have := hr.2.1; show b ≤ 4; omega, hr.2.2.1, by have := hr.2.2.2; show s ≤ 3; omega, fun _ => ⟨hr.2.1, hr.2.2.2⟩⟩
  | i + 1, h => by
    obtain ⟨g1, g2, g3⟩ := go_down h
    obtain ⟨a1, a2, a3, a4, a5⟩ := inv hr i g1
    obtain ⟨a6, a7⟩ := a5 g2
    have wb := w_id (x := (stp y b s o i).b + 1) (by omega) (by omega)
    have ws := w_id (x := (stp y b s o i).s + 1) (by omega) (by omega)
    have wf := foulI_eq a3 (by omega)
    simp only [stp, nb, ns, nov]
    rcases g3 with c | c | c | c | c | c <;> rw [c] <;> simp only [Int.reduceEq, if_true, if_false, wb, ws, wf]
    · refine ⟨by omega, by omega, by omega, by omega, fun h => ?_⟩
      have := o3_zero h; omega
    · refine ⟨by omega, by omega, by omega, by omega, fun h => ?_⟩
      have := o3_zero h; omega
    · refine ⟨by omega, by omega, by omega, by omega, fun h => ?_⟩
      have := o3_zero h; omega
    · split
      · refine ⟨by omega, by omega, by omega, by omega, fun h => ?_⟩
        have := o3_zero h; omega
      · refine ⟨by omega, by omega, by omega, by omega, fun h => ?_⟩
        have := o3_zero h; omega
    · exact ⟨by omega, by omega, by omega, by omega, fun h => by cases h⟩
    · exact ⟨by omega, by omega, by omega, by omega, fun h => by cases h⟩

theorem cE_zero {n : Nat} (hr : inR b s) (hn : n ≤ 24) (h : goP y b s o n = 1) : cE y b s o n = 0 := by
  rw [cE, if_pos hr, if_pos (by omega), if_pos (err_zero _ 24 (Nat.le_refl _) hn fun i _ hi => go_le h hi)]
theorem cE_go {n : Nat} (hr : inR b s) (hn : n ≤ 24) (h : cE y b s o n = 0) : goP y b s o n = 1 := by
  rw [cE, if_pos hr, if_pos (by omega)] at h
  by_cases h1 : err (goP y b s o) n 24 = 0
  · exact err_all _ 24 (Nat.le_refl _) hn rfl h1 n (by omega) (Nat.le_refl _)
  · rw [if_neg h1] at h; cases h
theorem cB_eq {n : Nat} (hn : n ≤ 24) (h : cE y b s o n = 0) : cB y b s o n = (stp y b s o n).b := by
  rw [cB, if_pos h, fin_eq _ hn 24 (Nat.le_refl _) (by omega)]
theorem cS_eq {n : Nat} (hn : n ≤ 24) (h : cE y b s o n = 0) : cS y b s o n = (stp y b s o n).s := by
  rw [cS, if_pos h, fin_eq _ hn 24 (Nat.le_refl _) (by omega)]
theorem cI_zero {n : Nat} (h : cE y b s o n = 0) : cI y b s o n = 0 := by
  rw [cI, if_neg (by omega)]

/-- The pitch that is too many, or none at all. -/
theorem bad {n : Nat} (hr : inR b s) (hn : n ≤ 24) (h : cE y b s o n ≠ 0) : cE y b s o n = 14 ∧ cB y b s o n = 0 ∧ cS y b s o n = 0 ∧ ∃ i : Nat, cI y b s o n = i ∧ i < n ∧ goP y b s o i = 1 ∧ goP y b s o (i + 1) ≠ 1 := by
  have e : cE y b s o n = if err (goP y b s o) n 24 = 0 then 0 else 14 := by rw [cE, if_pos hr, if_pos (by omega)]
  by_cases h1 : err (goP y b s o) n 24 = 0
  · rw [e, if_pos h1] at h; exact absurd rfl h
  · rw [if_neg h1] at e
    refine ⟨e, by rw [cB, if_neg h], by rw [cS, if_neg h], ?_⟩
    rw [cI, if_pos e]
    exact err_idx _ 24 (Nat.le_refl _) hn rfl h1

theorem why {i : Nat} (h1 : goP y b s o i = 1) (h2 : goP y b s o (i + 1) ≠ 1) : ¬ good (y (o + i)) ∨ ∃ j, i = j + 1 ∧ ((stp y b s o i).b = 4 ∨ (stp y b s o i).s = 3 ∨ y (o + j) = 88 ∨ y (o + j) = 72) := by
  by_cases h3 : good (y (o + i))
  · right
    have h4 : (stp y b s o i).ov ≠ 0 := fun h => h2 (ngo_of h1 h h3)
    cases i with
    | zero => exact absurd rfl h4
    | succ j =>
      refine ⟨j, rfl, ?_⟩
      obtain ⟨-, -, g3⟩ := go_down h1
      simp only [stp, nb, ns, nov] at h4 ⊢
      rcases g3 with c | c | c | c | c | c <;> rw [c] at h4 ⊢ <;> simp only [Int.reduceEq, if_true, if_false] at h4 ⊢
      · have := o3_one h4; omega
      · have := o3_one h4; omega
      · have := o3_one h4; omega
      · have := o3_one h4; omega
      · exact .inr (.inr (.inl trivial))
      · exact .inr (.inr (.inr trivial))
  · exact .inl h3

/-! ### the law's own count -/
def ts (c s : Int) : Int := if c = 66 then s else if c = 67 then w64 (s + 1) else if c = 83 then w64 (s + 1) else if c = 70 then (if 2 ≤ s then s else w64 (s + 1)) else s
def tot (y : Int → Int) (b s : Int) : Nat → Int × Int
  | 0 => (b, s)
  | i + 1 => (nb (y (0 + i)) (tot y b s i).1, ts (y (0 + i)) (tot y b s i).2)

theorem tot_eq (hr : inR b s) : ∀ {i : Nat}, goP y b s 0 i = 1 → tot y b s i = ((stp y b s 0 i).b, (stp y b s 0 i).s)
  | 0, _ => rfl
  | i + 1, h => by
    obtain ⟨g1, g2, g3⟩ := go_down h
    obtain ⟨a1, a2, a3, a4, a5⟩ := inv hr i g1
    obtain ⟨a6, a7⟩ := a5 g2
    have ih := tot_eq hr g1
    simp only [tot, ih, stp]
    congr 1
    simp only [ts, ns]
    rcases g3 with c | c | c | c | c | c <;> rw [c] <;> simp only [Int.reduceEq, if_true, if_false]
    rw [foulI_eq a3 (by omega), w_id (by omega) (by omega)]
    by_cases h2 : 2 ≤ (stp y b s 0 i).s
    · rw [if_pos h2, if_neg (by omega)]
    · rw [if_neg h2, if_pos (by omega)]

/-! ### counted in two parts -/
theorem parts (k : Nat) : ∀ j, (stp y (stp y b s o k).b (stp y b s o k).s (o + k) j).b = (stp y b s o (k + j)).b ∧ (stp y (stp y b s o k).b (stp y b s o k).s (o + k) j).s = (stp y b s o (k + j)).s ∧ (1 ≤ j → (stp y (stp y b s o k).b (stp y b s o k).s (o + k) j).ov = (stp y b s o (k + j)).ov) ∧ (goP y b s o (k + j) = 1 → goP y (stp y b s o k).b (stp y b s o k).s (o + k) j = 1)
  | 0 => ⟨rfl, rfl, fun h => absurd h (by omega), fun _ => rfl⟩
  | j + 1 => by
    obtain ⟨i1, i2, i3, i4⟩ := parts k j
    have e : o + (k : Int) + (j : Int) = o + ((k + j : Nat) : Int) := by omega
    refine ⟨?_, ?_, fun _ => ?_, fun h => ?_⟩
    · simp only [stp, i1, e]; rfl
    · simp only [stp, i2, e]; rfl
    · simp only [stp, i1, i2, e]; rfl
    · obtain ⟨g1, g2, g3⟩ := go_down (i := k + j) h
      refine ngo_of (i4 g1) ?_ (by rw [e]; exact g3)
      by_cases hj : 1 ≤ j
      · rw [i3 hj]; exact g2
      · rw [show j = 0 by omega]; rfl
end
end Go.Pc
