/- The streak of a list of answers: how many, the first run, the last run, the longest run; the streak of two lists joined. -/
namespace Go.Stk

def lead : List Bool → Nat
  | true :: l => lead l + 1
  | _ => 0

def long : List Bool → Nat
  | [] => 0
  | b :: l => max (lead (b :: l)) (long l)

def trail (l : List Bool) : Nat := lead l.reverse

theorem lead_le : ∀ l : List Bool, lead l ≤ l.length
  | [] => Nat.le_refl _
  | true :: l => by simp only [lead, List.length_cons]; have := lead_le l; omega
  | false :: l => by simp [lead]

theorem lead_append : ∀ l m : List Bool, lead (l ++ m) = if lead l = l.length then l.length + lead m else lead l
  | [], m => by simp [lead]
  | true :: l, m => by
    simp only [List.cons_append, lead, List.length_cons, lead_append l m]
    by_cases h : lead l = l.length
    · simp [h]; omega
    · have : lead l + 1 ≠ l.length + 1 := by omega
      simp [h]
  | false :: l, m => by simp [lead]

theorem lead_all : ∀ {l : List Bool}, lead l = l.length → ∀ b ∈ l, b = true
  | [], _, b, hb => by cases hb
  | true :: l, h, b, hb => by
    simp only [lead, List.length_cons] at h
    rcases List.mem_cons.1 hb with rfl | hb
    · rfl
    · exact lead_all (by omega) b hb
  | false :: l, h, _, _ => by simp [lead] at h

theorem lead_of_all : ∀ {l : List Bool}, (∀ b ∈ l, b = true) → lead l = l.length
  | [], _ => rfl
  | b :: l, h => by
    have := h b (by simp); subst this
    simp only [lead, List.length_cons]
    rw [lead_of_all fun b hb => h b (by simp [hb])]

theorem trail_all {l : List Bool} : trail l = l.length ↔ lead l = l.length := by
  unfold trail
  constructor
  · intro h
    refine lead_of_all fun b hb => lead_all (l := l.reverse) (by simpa using h) b (by simpa using hb)
  · intro h
    have := lead_of_all (l := l.reverse) fun b hb => lead_all h b (by simpa using hb)
    simpa using this

theorem trail_le (l : List Bool) : trail l ≤ l.length := by
  have := lead_le l.reverse; simpa [trail] using this

theorem trail_append (l m : List Bool) : trail (l ++ m) = if trail m = m.length then m.length + trail l else trail m := by
  unfold trail
  rw [List.reverse_append, lead_append]; simp

theorem lead_le_long : ∀ l : List Bool, lead l ≤ long l
  | [] => Nat.le_refl _
  | b :: l => by simp only [long]; omega

theorem long_le : ∀ l : List Bool, long l ≤ l.length
  | [] => Nat.le_refl _
  | b :: l => by
    have h1 := long_le l
    have h2 := lead_le (b :: l)
    simp only [long, List.length_cons] at h2 ⊢; omega

theorem trail_cons (b : Bool) (l : List Bool) : trail (b :: l) = if trail l = l.length then l.length + (if b then 1 else 0) else trail l := by
  have := trail_append [b] l
  simp only [List.singleton_append] at this
  rw [this]
  cases b <;> simp [trail, lead]

theorem long_append : ∀ l m : List Bool, long (l ++ m) = max (max (long l) (long m)) (trail l + lead m)
  | [], m => by
    have := lead_le_long m
    simp only [List.nil_append, long, trail, List.reverse_nil, lead]; omega
  | b :: l, m => by
    simp only [List.cons_append, long]
    rw [long_append l m]
    have h1 : lead (b :: (l ++ m)) = lead ((b :: l) ++ m) := rfl
    rw [h1, lead_append, trail_cons]
    have h2 := lead_le l
    have h3 := trail_le l
    have h5 := trail_all (l := l)
    have h6 := lead_le_long l
    by_cases ha : lead (b :: l) = (b :: l).length
    · have hl : lead l = l.length := by
        cases b
        · simp [lead] at ha
        · simpa [lead] using ha
      have ht := h5.2 hl
      have hb : b = true := lead_all ha b (by simp)
      subst hb
      simp only [ha, if_true, ht, List.length_cons]
      have := long_le l
      omega
    · rw [if_neg ha]
      cases b with
      | false =>
        have e0 : lead (false :: l) = 0 := rfl
        rw [e0]
        by_cases ht : trail l = l.length
        · simp only [ht, if_true, Bool.false_eq_true, if_false]; omega
        · simp only [if_neg ht]; omega
      | true =>
        have hl : lead l ≠ l.length := fun h => ha (by simp [lead, h])
        have ht : trail l ≠ l.length := fun h => hl (h5.1 h)
        simp only [if_neg ht]
        omega
end Go.Stk
