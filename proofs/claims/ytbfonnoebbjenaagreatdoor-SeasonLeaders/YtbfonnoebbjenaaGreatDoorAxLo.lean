/- Leaders: rates in lowest terms compared; one more laid into a sorted list. -/
import Derived.Test.YtbfonnoebbjenaaGreatDoorAxLk
namespace Go.Proofs.Tryz
open Go Go.Am Go.RowKit Go.Gcx Go.Op
set_option maxRecDepth 100000

theorem rt_mul {n d : Int} (hd : 0 < d) : rtN n d * gcdI n d = n ∧ rtD n d * gcdI n d = d ∧ 0 < gcdI n d := by
  have h1 : (gcdI n d) ∣ n := by unfold gcdI; exact Int.ofNat_dvd_left.2 (Nat.gcd_dvd_left _ _)
  have h2 : (gcdI n d) ∣ d := by unfold gcdI; exact Int.ofNat_dvd_left.2 (Nat.gcd_dvd_right _ _)
  have h3 : 0 < gcdI n d := by
    have := gcd_pos n d (by omega)
    unfold gcdI
    omega
  unfold rtN rtD
  rw [if_neg (by omega), if_neg (by omega)]
  exact ⟨Int.tdiv_mul_cancel h1, Int.tdiv_mul_cancel h2, h3⟩
theorem cmp_low {i k : Nat} {x a : Tot} (hx : 0 < x.c k) (ha : 0 < a.c k) :
    0 < cmpI (rtN (x.c i) (x.c k) * rtD (a.c i) (a.c k)) (rtN (a.c i) (a.c k) * rtD (x.c i) (x.c k)) ↔ ¬ leR i k x a := by
  obtain ⟨x1, x2, x3⟩ := rt_mul (n := x.c i) hx
  obtain ⟨a1, a2, a3⟩ := rt_mul (n := a.c i) ha
  unfold leR
  generalize x.c i = xn at *
  generalize x.c k = xd at *
  generalize a.c i = an at *
  generalize a.c k = ad at *
  generalize rtN xn xd = P at *
  generalize rtD xn xd = Q at *
  generalize rtN an ad = R at *
  generalize rtD an ad = T at *
  generalize gcdI xn xd = g at *
  generalize gcdI an ad = h at *
  subst x1 x2 a1 a2
  have e1 : P * g * (T * h) = P * T * (g * h) := by rw [Int.mul_assoc, Int.mul_assoc, Int.mul_left_comm g T h]
  have e2 : R * h * (Q * g) = R * Q * (g * h) := by rw [Int.mul_assoc, Int.mul_assoc, Int.mul_left_comm h Q g, Int.mul_comm h g]
  have hgh : 0 < g * h := Int.mul_pos x3 a3
  rw [e1, e2]
  have hm : P * T * (g * h) ≤ R * Q * (g * h) ↔ P * T ≤ R * Q := ⟨fun q => Int.le_of_mul_le_mul_right q hgh, fun q => Int.mul_le_mul_of_nonneg_right q (by omega)⟩
  rw [hm]
  unfold cmpI
  by_cases h1 : P * T < R * Q
  · rw [if_pos h1]
    exact ⟨fun q => absurd q (by decide), fun q => by omega⟩
  · rw [if_neg h1]
    by_cases h2 : R * Q < P * T
    · rw [if_pos h2]
      exact ⟨fun _ => by omega, fun _ => by decide⟩
    · rw [if_neg h2]
      exact ⟨fun q => absurd q (by decide), fun q => by omega⟩
theorem mul_rB {a b : Int} (ha : rB a) (hb : rB b) : -1000000000000000000 ≤ a * b ∧ a * b ≤ 1000000000000000000 := by
  have h1 : (a * b).natAbs ≤ 999999999 * 999999999 := by
    rw [Int.natAbs_mul]
    unfold rB at ha hb
    exact Nat.mul_le_mul (by omega) (by omega)
  omega
theorem PosB.low {i k : Nat} {x : Tot} (h : PosB i k x) : rB (rtN (x.c i) (x.c k)) ∧ rB (rtD (x.c i) (x.c k)) := by
  have h1 : rB (x.c i) := by unfold rB; have := h.1; omega
  have h2 : rB (x.c k) := by unfold rB; have := h.2; omega
  unfold rtN rtD
  rw [if_neg (by have := h.2; omega), if_neg (by have := h.2; omega)]
  exact ⟨tdiv_in h1, tdiv_in h2⟩
theorem ins_ok {i k : Nat} {F S : List Tot} {p q : Nat} {x : Tot} (hF : SortT F) (hpos : ∀ t ∈ F, PosB i k t) (hSp : S.Perm (F.take p)) (hSs : SortL i k S) (hx : F[p]? = some x) (hq : q ≤ S.length)
    (hA : ∀ a, 0 < q → S[q - 1]? = some a → leR i k x a) (hB : ∀ r y, q ≤ r → S[r]? = some y → ¬ leR i k x y) : (S.take q ++ x :: S.drop q).Perm (F.take (p + 1)) ∧ SortL i k (S.take q ++ x :: S.drop q) := by
  refine ⟨?_, ?_⟩
  · rw [take_snoc hx]
    refine List.perm_middle.trans ?_
    rw [List.take_append_drop]
    refine (List.Perm.cons x hSp).trans ?_
    exact (List.perm_append_singleton x _).symm
  · have hmem : ∀ t ∈ S, t ∈ F.take p := fun t ht => hSp.subset ht
    have hF1 : ∀ t ∈ F.take p, bytesLess t.p x.p = true := by
      intro t ht
      have h2 : SortT (F.take p ++ [x]) := by
        rw [← take_snoc hx]
        exact List.Pairwise.sublist (List.take_sublist _ _) hF
      exact (List.pairwise_append.1 h2).2.2 t ht x (by simp)
    refine sortL_ins (by rw [List.take_append_drop]; exact hSs) (fun t ht => ?_) (hpos x (List.mem_of_getElem? hx)).pos (fun t ht => ?_) (fun a ha => ?_) (fun b hb => ?_)
    · rw [List.take_append_drop] at ht
      exact (hpos t (List.mem_of_mem_take (hmem t ht))).pos
    · rw [List.take_append_drop] at ht
      exact hF1 t (hmem t ht)
    · rcases Nat.eq_zero_or_pos q with rfl | h0
      · simp at ha
      · refine hA a h0 ?_
        rw [List.getLast?_eq_getElem?, List.length_take, Nat.min_eq_left hq, List.getElem?_take, if_pos (by omega)] at ha
        exact ha
    · obtain ⟨r, hr⟩ := List.getElem?_of_mem hb
      rw [List.getElem?_drop] at hr
      exact hB (q + r) b (Nat.le_add_right _ _) hr
end Go.Proofs.Tryz
