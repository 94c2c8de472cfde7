/- On the season seat's program: SeasonMonoid's run, for every cut of at most twelve answers. -/
import Derived.Test.YtbfonnoebbjenaaGreatDoorAmMr1
import Derived.Test.YtbfonnoebbjenaaGreatDoorAmMr2
import Derived.Test.YtbfonnoebbjenaaGreatDoorAmMr3
import Derived.Test.YtbfonnoebbjenaaGreatDoorAmMr4
import Derived.Test.YtbfonnoebbjenaaGreatDoorAmMr5
import Derived.Test.YtbfonnoebbjenaaGreatDoorAmMr6
namespace Go.Proofs.Tryz
open Go Go.Am
set_option maxRecDepth 100000
theorem runM_all {n i m : Nat} (hn : n ≤ 12) (hi : i ≤ n) (hm : m ≤ n - i) : runM (.osl 0 0 n) n (sOf n i m) i m = true := by
  have hs : sOf n i m < 4 := by
    unfold sOf b2n
    cases Nat.blt 0 i <;> cases Nat.blt 0 m <;> cases Nat.blt (i + m) n <;> decide
  have pick : ∀ (s lo hi' : Nat), runC n s lo hi' = true → s = sOf n i m → lo ≤ i → i < hi' → runM (.osl 0 0 n) n (sOf n i m) i m = true := by
    intro s lo hi' h hse h1 h2
    subst hse
    have a := List.all_eq_true.1 h i (mem_nats.2 h2)
    have hb : Nat.ble lo i = true := Nat.ble_eq_true_of_le h1
    rw [hb] at a
    simp only [cond_true] at a
    have c := List.all_eq_true.1 a m (mem_nats.2 (by omega))
    rw [T.beq_true rfl] at c
    exact c
  by_cases h7 : n < 7
  · by_cases h5 : n < 5
    · have a := List.all_eq_true.1 (List.all_eq_true.1 m_small n (mem_nats.2 h5)) (sOf n i m) (mem_nats.2 hs)
      exact pick _ _ _ a rfl (by omega) (by omega)
    · have h56 : n = 5 ∨ n = 6 := by omega
      rcases h56 with rfl | rfl
      · exact pick _ _ _ (List.all_eq_true.1 m_5 (sOf 5 i m) (mem_nats.2 hs)) rfl (by omega) (by omega)
      · exact pick _ _ _ (List.all_eq_true.1 m_6 (sOf 6 i m) (mem_nats.2 hs)) rfl (by omega) (by omega)
  · have hn' : n = 7 ∨ n = 8 ∨ n = 9 ∨ n = 10 ∨ n = 11 ∨ n = 12 := by omega
    have hs' : sOf n i m = 0 ∨ sOf n i m = 1 ∨ sOf n i m = 2 ∨ sOf n i m = 3 := by omega
    have hv := sOf_val n i m
    rcases hn' with rfl | rfl | rfl | rfl | rfl | rfl <;> rcases hs' with hs' | hs' | hs' | hs'
    · exfalso; rw [sOf_val] at hs'; split at hs' <;> split at hs' <;> split at hs' <;> omega
    · exact pick 1 0 8 m_7_1_0 hs'.symm (by omega) (by omega)
    · exact pick 2 0 8 m_7_2_0 hs'.symm (by omega) (by omega)
    · exact pick 3 0 8 m_7_3_0 hs'.symm (by omega) (by omega)
    · exfalso; rw [sOf_val] at hs'; split at hs' <;> split at hs' <;> split at hs' <;> omega
    · exact pick 1 0 9 m_8_1_0 hs'.symm (by omega) (by omega)
    · exact pick 2 0 9 m_8_2_0 hs'.symm (by omega) (by omega)
    · exact pick 3 0 9 m_8_3_0 hs'.symm (by omega) (by omega)
    · exfalso; rw [sOf_val] at hs'; split at hs' <;> split at hs' <;> split at hs' <;> omega
    · exact pick 1 0 10 m_9_1_0 hs'.symm (by omega) (by omega)
    · have hc : (0 ≤ i ∧ i < 8) ∨ (8 ≤ i ∧ i < 10) := by omega
      rcases hc with hc | hc
      · exact pick 2 0 8 m_9_2_0 hs'.symm hc.1 hc.2
      · exact pick 2 8 10 m_9_2_8 hs'.symm hc.1 hc.2
    · have hc : (0 ≤ i ∧ i < 5) ∨ (5 ≤ i ∧ i < 10) := by omega
      rcases hc with hc | hc
      · exact pick 3 0 5 m_9_3_0 hs'.symm hc.1 hc.2
      · exact pick 3 5 10 m_9_3_5 hs'.symm hc.1 hc.2
    · exfalso; rw [sOf_val] at hs'; split at hs' <;> split at hs' <;> split at hs' <;> omega
    · exact pick 1 0 11 m_10_1_0 hs'.symm (by omega) (by omega)
    · have hc : (0 ≤ i ∧ i < 5) ∨ (5 ≤ i ∧ i < 11) := by omega
      rcases hc with hc | hc
      · exact pick 2 0 5 m_10_2_0 hs'.symm hc.1 hc.2
      · exact pick 2 5 11 m_10_2_5 hs'.symm hc.1 hc.2
    · have hc : (0 ≤ i ∧ i < 3) ∨ (3 ≤ i ∧ i < 6) ∨ (6 ≤ i ∧ i < 11) := by omega
      rcases hc with hc | hc | hc
      · exact pick 3 0 3 m_10_3_0 hs'.symm hc.1 hc.2
      · exact pick 3 3 6 m_10_3_3 hs'.symm hc.1 hc.2
      · exact pick 3 6 11 m_10_3_6 hs'.symm hc.1 hc.2
    · exfalso; rw [sOf_val] at hs'; split at hs' <;> split at hs' <;> split at hs' <;> omega
    · exact pick 1 0 12 m_11_1_0 hs'.symm (by omega) (by omega)
    · have hc : (0 ≤ i ∧ i < 3) ∨ (3 ≤ i ∧ i < 10) ∨ (10 ≤ i ∧ i < 12) := by omega
      rcases hc with hc | hc | hc
      · exact pick 2 0 3 m_11_2_0 hs'.symm hc.1 hc.2
      · exact pick 2 3 10 m_11_2_3 hs'.symm hc.1 hc.2
      · exact pick 2 10 12 m_11_2_10 hs'.symm hc.1 hc.2
    · have hc : (0 ≤ i ∧ i < 2) ∨ (2 ≤ i ∧ i < 3) ∨ (3 ≤ i ∧ i < 5) ∨ (5 ≤ i ∧ i < 9) ∨ (9 ≤ i ∧ i < 12) := by omega
      rcases hc with hc | hc | hc | hc | hc
      · exact pick 3 0 2 m_11_3_0 hs'.symm hc.1 hc.2
      · exact pick 3 2 3 m_11_3_2 hs'.symm hc.1 hc.2
      · exact pick 3 3 5 m_11_3_3 hs'.symm hc.1 hc.2
      · exact pick 3 5 9 m_11_3_5 hs'.symm hc.1 hc.2
      · exact pick 3 9 12 m_11_3_9 hs'.symm hc.1 hc.2
    · exfalso; rw [sOf_val] at hs'; split at hs' <;> split at hs' <;> split at hs' <;> omega
    · exact pick 1 0 13 m_12_1_0 hs'.symm (by omega) (by omega)
    · have hc : (0 ≤ i ∧ i < 1) ∨ (1 ≤ i ∧ i < 7) ∨ (7 ≤ i ∧ i < 13) := by omega
      rcases hc with hc | hc | hc
      · exact pick 2 0 1 m_12_2_0 hs'.symm hc.1 hc.2
      · exact pick 2 1 7 m_12_2_1 hs'.symm hc.1 hc.2
      · exact pick 2 7 13 m_12_2_7 hs'.symm hc.1 hc.2
    · have hc : (0 ≤ i ∧ i < 2) ∨ (2 ≤ i ∧ i < 3) ∨ (3 ≤ i ∧ i < 4) ∨ (4 ≤ i ∧ i < 5) ∨ (5 ≤ i ∧ i < 7) ∨ (7 ≤ i ∧ i < 13) := by omega
      rcases hc with hc | hc | hc | hc | hc | hc
      · exact pick 3 0 2 m_12_3_0 hs'.symm hc.1 hc.2
      · exact pick 3 2 3 m_12_3_2 hs'.symm hc.1 hc.2
      · exact pick 3 3 4 m_12_3_3 hs'.symm hc.1 hc.2
      · exact pick 3 4 5 m_12_3_4 hs'.symm hc.1 hc.2
      · exact pick 3 5 7 m_12_3_5 hs'.symm hc.1 hc.2
      · exact pick 3 7 13 m_12_3_7 hs'.symm hc.1 hc.2
end Go.Proofs.Tryz
