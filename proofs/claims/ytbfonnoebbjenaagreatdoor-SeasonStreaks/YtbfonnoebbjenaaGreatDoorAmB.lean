/- The abstract machine: its trees. -/
import Derived.Test.YtbfonnoebbjenaaGreatDoorAmA
namespace Go.Am
namespace T
variable {α : Type}
theorem beq_true {a b : Nat} (h : a = b) : Nat.beq a b = true := by subst h; exact Nat.beq_refl a
theorem beq_false {a b : Nat} (h : a ≠ b) : Nat.beq a b = false := by
  cases e : Nat.beq a b
  · rfl
  · exact absurd (Nat.eq_of_beq_eq_true e) h
theorem get0 (v : Option α) (l r : T α) : (node v l r).get 0 = v := rfl
theorem get1 (v : Option α) (l r : T α) (k : Nat) : (node v l r).get (2 * k + 1) = l.get k := by
  show (bif Nat.beq (2 * k + 1) 0 then v else bif Nat.beq ((2 * k + 1) % 2) 1 then l.get ((2 * k + 1) / 2) else r.get ((2 * k + 1) / 2 - 1)) = _
  rw [beq_false (by omega), beq_true (by omega : (2 * k + 1) % 2 = 1), show (2 * k + 1) / 2 = k by omega]; rfl
theorem get2 (v : Option α) (l r : T α) (k : Nat) : (node v l r).get (2 * k + 2) = r.get k := by
  show (bif Nat.beq (2 * k + 2) 0 then v else bif Nat.beq ((2 * k + 2) % 2) 1 then l.get ((2 * k + 2) / 2) else r.get ((2 * k + 2) / 2 - 1)) = _
  rw [beq_false (by omega), beq_false (by omega : (2 * k + 2) % 2 ≠ 1), show (2 * k + 2) / 2 - 1 = k by omega]; rfl
def kids : T α → Option α × T α × T α
  | .nil => (none, .nil, .nil)
  | .node v l r => (v, l, r)
theorem put0 (f : Nat) (t : T α) (o : Option α) : put (f + 1) t 0 o = .node o t.kids.2.1 t.kids.2.2 := by cases t <;> rfl
theorem put1 (f : Nat) (t : T α) (o : Option α) (k : Nat) : put (f + 1) t (2 * k + 1) o = .node t.kids.1 (put f t.kids.2.1 k o) t.kids.2.2 := by
  cases t <;> simp only [put, kids] <;> rw [beq_false (by omega), beq_true (by omega : (2 * k + 1) % 2 = 1), show (2 * k + 1) / 2 = k by omega] <;> rfl
theorem put2 (f : Nat) (t : T α) (o : Option α) (k : Nat) : put (f + 1) t (2 * k + 2) o = .node t.kids.1 t.kids.2.1 (put f t.kids.2.2 k o) := by
  cases t <;> simp only [put, kids] <;> rw [beq_false (by omega), beq_false (by omega : (2 * k + 2) % 2 ≠ 1), show (2 * k + 2) / 2 - 1 = k by omega] <;> rfl
theorem kids0 (t : T α) : t.get 0 = t.kids.1 := by cases t <;> rfl
theorem kids1 (t : T α) (k : Nat) : t.get (2 * k + 1) = t.kids.2.1.get k := by
  cases t
  · rfl
  · exact get1 _ _ _ _
theorem kids2 (t : T α) (k : Nat) : t.get (2 * k + 2) = t.kids.2.2.get k := by
  cases t
  · rfl
  · exact get2 _ _ _ _
theorem form (n : Nat) : n = 0 ∨ (∃ k, n = 2 * k + 1) ∨ ∃ k, n = 2 * k + 2 := by
  rcases Nat.mod_two_eq_zero_or_one n with h | h
  · by_cases h0 : n = 0
    · exact .inl h0
    · exact .inr (.inr ⟨n / 2 - 1, by omega⟩)
  · exact .inr (.inl ⟨n / 2, by omega⟩)
theorem get_put : ∀ (f : Nat) (t : T α) (n m : Nat) (o : Option α), n < f → (put f t n o).get m = if m = n then o else t.get m := by
  intro f
  induction f with
  | zero => intro t n m o h; omega
  | succ f ih =>
    intro t n m o h
    rcases form n with rfl | ⟨k, rfl⟩ | ⟨k, rfl⟩ <;> rcases form m with rfl | ⟨j, rfl⟩ | ⟨j, rfl⟩
    · rw [put0, get0, if_pos rfl]
    · rw [put0, get1, kids1, if_neg (by omega)]
    · rw [put0, get2, kids2, if_neg (by omega)]
    · rw [put1, get0, kids0, if_neg (by omega)]
    · rw [put1, get1, kids1, ih _ _ _ _ (by omega)]
      by_cases e : j = k
      · rw [if_pos e, if_pos (by omega)]
      · rw [if_neg e, if_neg (by omega)]
    · rw [put1, get2, kids2, if_neg (by omega)]
    · rw [put2, get0, kids0, if_neg (by omega)]
    · rw [put2, get1, kids1, if_neg (by omega)]
    · rw [put2, get2, kids2, ih _ _ _ _ (by omega)]
      by_cases e : j = k
      · rw [if_pos e, if_pos (by omega)]
      · rw [if_neg e, if_neg (by omega)]
theorem get_set (t : T α) (n m : Nat) (o : Option α) : (t.set n o).get m = if m = n then o else t.get m := get_put _ _ _ _ _ (by omega)
theorem get_set_same (t : T α) (n : Nat) (o : Option α) : (t.set n o).get n = o := by rw [get_set, if_pos rfl]
theorem get_set_other (t : T α) {n m : Nat} (o : Option α) (h : m ≠ n) : (t.set n o).get m = t.get m := by rw [get_set, if_neg h]
end T
end Go.Am
