/- The streak of a list of answers: how many, the first run, the last run, the longest run; the streak of two lists joined. The streak of a list of answers: its numbers fit together; read backwards; one yes more; the longest run counted from every place. -/

namespace Go.Stk

def lead : List Bool → Nat
  | true :: l => lead l + 1
  | _ => 0

def long : List Bool → Nat
  | [] => 0
  | b :: l => max (lead (b :: l)) (long l)

def trail (l : List Bool) : Nat := lead l.reverse

theorem lead_le : ∀ l : List Bool, lead l ≤ l.length
  | [] => Nat.le_refl _
  | true :: l => by simp only [lead, List.length_cons]; have := lead_le l; omega
  | false :: l => by simp [lead]

theorem lead_append : ∀ l m : List Bool, lead (l ++ m) = if lead l = l.length then l.length + lead m else lead l
  | [], m => by simp [lead]
  | true :: l, m => by
    simp only [List.cons_append, lead, List.length_cons, lead_append l m]
    by_cases h : lead l = l.length
    · simp [h]; omega
    · have : lead l + 1 ≠ l.length + 1 := by omega
      simp [h]
  | false :: l, m => by simp [lead]

theorem lead_all : ∀ {l : List Bool}, lead l = l.length → ∀ b ∈ l, b = true
  | [], _, b, hb => by cases hb
  | true :: l, h, b, hb => by
    simp only [lead, List.length_cons] at h
    rcases List.mem_cons.1 hb with rfl | hb
    · rfl
    · exact lead_all (by omega) b hb
  | false :: l, h, _, _ => by simp [lead] at h

theorem lead_of_all : ∀ {l : List Bool}, (∀ b ∈ l, b = true) → lead l = l.length
  | [], _ => rfl
  | b :: l, h => by
    have := h b (by simp); subst this
    simp only [lead, List.length_cons]
    rw [lead_of_all fun b hb => h b (by simp [hb])]

theorem trail_all {l : List Bool} : trail l = l.length ↔ lead l = l.length := by
  unfold trail
  constructor
  · intro h
    refine lead_of_all fun b hb => lead_all (l := l.reverse) (by simpa using h) b (by simpa using hb)
  · intro h
    have := lead_of_all (l := l.reverse) fun b hb => lead_all h b (by simpa using hb)
    simpa using this

theorem trail_le (l : List Bool) : trail l ≤ l.length := by
  have := lead_le l.reverse; simpa [trail] using this

theorem trail_append (l m : List Bool) : trail (l ++ m) = if trail m = m.length then m.length + trail l else trail m := by
  unfold trail
  rw [List.reverse_append, lead_append]; simp

theorem lead_le_long : ∀ l : List Bool, lead l ≤ long l
  | [] => Nat.le_refl _
  | b :: l => by simp only [long]; omega

theorem long_le : ∀ l : List Bool, long l ≤ l.length
  | [] => Nat.le_refl _
  | b :: l => by
    have h1 := long_le l
    have h2 := lead_le (b :: l)
    simp only [long, List.length_cons] at h2 ⊢; omega

theorem trail_cons (b : Bool) (l : List Bool) : trail (b :: l) = if trail l = l.length then l.length + (if b then 1 else 0) else trail l := by
  have := trail_append [b] l
  simp only [List.singleton_append] at this
  rw [this]
  cases b <;> simp [trail, lead]

theorem long_append : ∀ l m : List Bool, long (l ++ m) = max (max (long l) (long m)) (trail l + lead m)
  | [], m => by
    have := lead_le_long m
    simp only [List.nil_append, long, trail, List.reverse_nil, lead]; omega
  | b :: l, m => by
    simp only [List.cons_append, long]
    rw [long_append l m]
    have h1 : lead (b :: (l ++ m)) = lead ((b :: l) ++ m) := rfl
    rw [h1, lead_append, trail_cons]
    have h2 := lead_le l
    have h3 := trail_le l
    have h5 := trail_all (l := l)
    have h6 := lead_le_long l
    by_cases ha : lead (b :: l) = (b :: l).length
    · have hl : lead l = l.length := by
        cases b
        · simp [lead] at ha
        · simpa [lead] using ha
      have ht := h5.2 hl
      have hb : b = true := lead_all ha b (by simp)
      subst hb
      simp only [ha, if_true, ht, List.length_cons]
      have := long_le l
      omega
    · rw [if_neg ha]
      cases b with
      | false =>
        have e0 : lead (false :: l) = 0 := rfl
        rw [e0]
        by_cases ht : trail l = l.length
        · simp only [ht, if_true, Bool.false_eq_true, if_false]; omega
        · simp only [if_neg ht]; omega
      | true =>
        have hl : lead l ≠ l.length := fun h => ha (by simp [lead, h])
        have ht : trail l ≠ l.length := fun h => hl (h5.1 h)
        simp only [if_neg ht]
        omega
end Go.Stk

namespace Go.Stk

theorem trail_long (l : List Bool) : trail l ≤ long l := by
  have := long_append l []
  simp only [List.append_nil, long, lead] at this
  omega

theorem lead_reverse (l : List Bool) : lead l.reverse = trail l := rfl
theorem trail_reverse (l : List Bool) : trail l.reverse = lead l := by simp [trail]

theorem long_reverse : ∀ l : List Bool, long l.reverse = long l
  | [] => rfl
  | b :: l => by
    have h1 := lead_le_long l
    rw [List.reverse_cons, long_append, long_reverse l, trail_reverse]
    cases b <;> simp only [long, lead] <;> omega

theorem from_left : ∀ l : List Bool, (∀ b ∈ l, b = true) ∨ ∃ k r, l = List.replicate k true ++ false :: r
  | [] => .inl fun b hb => by cases hb
  | false :: l => .inr ⟨0, l, rfl⟩
  | true :: l => by
    rcases from_left l with h | ⟨k, r, h⟩
    · refine .inl fun b hb => ?_
      rcases List.mem_cons.1 hb with rfl | hb
      · rfl
      · exact h b hb
    · exact .inr ⟨k + 1, r, by rw [h]; rfl⟩

theorem from_right (l : List Bool) : (∀ b ∈ l, b = true) ∨ ∃ r k, l = r ++ false :: List.replicate k true := by
  rcases from_left l.reverse with h | ⟨k, r, h⟩
  · exact .inl fun b hb => h b (by simpa using hb)
  · refine .inr ⟨r.reverse, k, ?_⟩
    have := congrArg List.reverse h
    simpa using this

theorem lead_rep (k : Nat) (r : List Bool) : lead (List.replicate k true ++ false :: r) = k := by
  induction k with
  | zero => rfl
  | succ k ih => simp only [List.replicate_succ, List.cons_append, lead, ih]

theorem trail_rep (k : Nat) (r : List Bool) : trail (r ++ false :: List.replicate k true) = k := by
  have : (r ++ false :: List.replicate k true).reverse = List.replicate k true ++ false :: r.reverse := by simp
  unfold trail
  rw [this, lead_rep]

theorem long_all {l : List Bool} (h : ∀ b ∈ l, b = true) : long l = l.length := by
  have h1 := lead_of_all h
  have h2 := lead_le_long l
  have h3 := long_le l
  omega

theorem long_rep (k : Nat) : long (List.replicate k true) = k := by
  rw [long_all fun b hb => (List.mem_replicate.1 hb).2, List.length_replicate]

/-- Where the longest run is not the last one, it lies before it. -/
theorem long_apart {l : List Bool} (h : trail l < long l) : trail l + long l + 1 ≤ l.length := by
  rcases from_right l with ha | ⟨r, k, rfl⟩
  · have h1 := trail_all.2 (lead_of_all ha)
    have h2 := long_le l
    omega
  · rw [trail_rep] at h ⊢
    rw [long_append] at h ⊢
    have h1 := trail_long r
    have h2 := long_le r
    have h3 : long (false :: List.replicate k true) = k := by simp only [long, lead, long_rep]; omega
    have h4 : lead (false :: List.replicate k true) = 0 := rfl
    rw [h3, h4] at h ⊢
    simp only [List.length_append, List.length_cons, List.length_replicate]
    omega

/-- A streak's numbers. -/
theorem fits (l : List Bool) : (long l = l.length → lead l = l.length ∧ trail l = l.length) ∧
    (long l ≠ l.length → lead l + trail l + 1 ≤ l.length ∧ (long l ≤ max (lead l) (trail l) ∨ lead l + trail l + long l + 2 ≤ l.length)) := by
  rcases from_left l with ha | ⟨k, r, rfl⟩
  · have h1 := lead_of_all ha
    have h2 := trail_all.2 h1
    have h3 := long_all ha
    exact ⟨fun _ => ⟨h1, h2⟩, fun h => absurd h3 h⟩
  · have e1 := lead_rep k r
    have e2 : trail (List.replicate k true ++ false :: r) = trail r := by
      rw [trail_append, trail_cons]
      have := trail_le r
      by_cases h : trail r = r.length
      · rw [if_pos h]
        simp only [Bool.false_eq_true, if_false, List.length_cons]
        rw [if_neg (by omega)]; omega
      · rw [if_neg h]
        simp only [List.length_cons]
        rw [if_neg (by omega)]
    have e3 : long (List.replicate k true ++ false :: r) = max k (long r) := by
      rw [long_append]
      have h1 : long (false :: r) = long r := by simp only [long, lead]; omega
      have h2 : lead (false :: r) = 0 := rfl
      have h3 := trail_long (List.replicate k true)
      rw [long_rep] at h3
      rw [h1, h2, long_rep]; omega
    have h1 := trail_le r
    have h2 := long_le r
    have h4 := @long_apart r
    have h5 := trail_long r
    rw [e1, e2, e3]
    simp only [List.length_append, List.length_replicate, List.length_cons]
    refine ⟨fun h => by omega, fun _ => ⟨by omega, ?_⟩⟩
    by_cases hk : max k (long r) ≤ max k (trail r)
    · exact .inl hk
    · have h6 : trail r < long r := by omega
      have h7 := h4 h6
      exact .inr (by omega)

/-- The longest run, counted from every place below 'i'. -/
def upto (l : List Bool) : Nat → Nat
  | 0 => 0
  | i + 1 => max (upto l i) (lead (l.drop i))

theorem upto_cons (b : Bool) (l : List Bool) : ∀ i, upto (b :: l) (i + 1) = max (lead (b :: l)) (upto l i)
  | 0 => by simp only [upto, List.drop_zero]; omega
  | i + 1 => by
    rw [upto, upto_cons b l i, upto, List.drop_succ_cons]; omega

theorem upto_all : ∀ l : List Bool, upto l l.length = long l
  | [] => rfl
  | b :: l => by rw [List.length_cons, upto_cons, upto_all l]; rfl
end Go.Stk
