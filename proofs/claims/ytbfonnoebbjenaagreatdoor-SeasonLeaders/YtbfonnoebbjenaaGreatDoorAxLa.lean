/- Plain: leaders, as sorted lists of totals. -/
import Derived.Test.YtbfonnoebbjenaaGreatDoorAxD
namespace Go.Proofs.Tryz
open Go Go.Am Go.RowKit Go.Op
set_option maxRecDepth 100000

/-- One rate is at most the other one. -/
def leR (i k : Nat) (a b : Tot) : Prop := a.c i * b.c k ≤ b.c i * a.c k
instance (i k : Nat) (a b : Tot) : Decidable (leR i k a b) := inferInstanceAs (Decidable (_ ≤ _))
theorem leR_refl (i k : Nat) (a : Tot) : leR i k a a := Int.le_refl _
theorem leR_total (i k : Nat) (a b : Tot) : leR i k a b ∨ leR i k b a := by unfold leR; omega
theorem leR_trans {i k : Nat} {a b c : Tot} (ha : 0 < a.c k) (hb : 0 < b.c k) (hc : 0 < c.c k) (h1 : leR i k a b) (h2 : leR i k b c) : leR i k a c := by
  unfold leR at *
  have k1 : a.c i * b.c k * c.c k ≤ b.c i * a.c k * c.c k := Int.mul_le_mul_of_nonneg_right h1 (by omega)
  have k2 : b.c i * c.c k * a.c k ≤ c.c i * b.c k * a.c k := Int.mul_le_mul_of_nonneg_right h2 (by omega)
  have e1 : b.c i * a.c k * c.c k = b.c i * c.c k * a.c k := Int.mul_right_comm ..
  have e2 : a.c i * b.c k * c.c k = a.c i * c.c k * b.c k := Int.mul_right_comm ..
  have e3 : c.c i * b.c k * a.c k = c.c i * a.c k * b.c k := Int.mul_right_comm ..
  exact Int.le_of_mul_le_mul_right (a := b.c k) (by omega) hb
/-- The first one has the greater rate. -/
def betR (i k : Nat) (a b : Tot) : Bool := !decide (leR i k a b)
theorem betR_iff {i k : Nat} {a b : Tot} : betR i k a b = true ↔ ¬ leR i k a b := by simp [betR]
theorem betR_no {i k : Nat} {a b : Tot} : betR i k a b = false ↔ leR i k a b := by simp [betR]
/-- The order of leaders: the greater rate first, then the name. -/
def ltL (i k : Nat) (a b : Tot) : Bool := betR i k a b || (decide (leR i k b a) && bytesLess a.p b.p)
theorem ltL_iff {i k : Nat} {a b : Tot} : ltL i k a b = true ↔ ¬ leR i k a b ∨ leR i k b a ∧ bytesLess a.p b.p = true := by simp [ltL, betR]
theorem ltL_no {i k : Nat} {a b : Tot} : ltL i k a b = false ↔ leR i k a b ∧ (leR i k b a → bytesLess a.p b.p = false) := by
  simp [ltL, betR]
theorem ltL_irrefl (i k : Nat) (a : Tot) : ltL i k a a = false := ltL_no.2 ⟨leR_refl _ _ _, fun _ => bl_irrefl _⟩
theorem ltL_asymm {i k : Nat} {a b : Tot} (h : ltL i k a b = true) (h2 : ltL i k b a = true) : False := by
  rcases ltL_iff.1 h with q | ⟨q, r⟩
  · rcases ltL_iff.1 h2 with q2 | ⟨q2, -⟩
    · rcases leR_total i k a b with t | t
      · exact q t
      · exact q2 t
    · exact q q2
  · rcases ltL_iff.1 h2 with q2 | ⟨-, r2⟩
    · exact q2 q
    · rw [bl_asymm r] at r2; cases r2
theorem ltL_ntrans {i k : Nat} {a b c : Tot} (ha : 0 < a.c k) (hb : 0 < b.c k) (hc : 0 < c.c k) (h1 : ltL i k a b = false) (h2 : ltL i k b c = false) : ltL i k a c = false := by
  obtain ⟨p1, p2⟩ := ltL_no.1 h1
  obtain ⟨q1, q2⟩ := ltL_no.1 h2
  refine ltL_no.2 ⟨leR_trans ha hb hc p1 q1, fun h => ?_⟩
  have r1 := p2 (leR_trans hb hc ha q1 h)
  have r2 := q2 (leR_trans hc ha hb h p1)
  cases h : bytesLess a.p c.p with
  | false => rfl
  | true =>
    cases h3 : bytesLess b.p a.p with
    | true => have := bl_trans h3 h; rw [r2] at this; cases this
    | false => have e := bl_tri r1 h3; rw [← e, h] at r2; cases r2
theorem ltL_trans {i k : Nat} {a b c : Tot} (ha : 0 < a.c k) (hb : 0 < b.c k) (hc : 0 < c.c k) (h1 : ltL i k a b = true) (h2 : ltL i k b c = true) : ltL i k a c = true := by
  cases h : ltL i k a c with
  | true => rfl
  | false =>
    have q : ltL i k c b = false := by
      cases q : ltL i k c b with
      | false => rfl
      | true => exact (ltL_asymm h2 q).elim
    have := ltL_ntrans ha hc hb h q
    rw [h1] at this; cases this
/-- Two sorted lists of the same elements. -/
theorem sorted_one {α : Type} {lt : α → α → Bool} (has : ∀ a b, lt a b = true → lt b a = true → False) : ∀ {l m : List α}, l.Perm m → (l.Pairwise fun a b => lt a b = true) → (m.Pairwise fun a b => lt a b = true) → l = m
  | [], m, h, _, _ => h.nil_eq
  | a :: l, [], h, _, _ => absurd h.length_eq (by simp)
  | a :: l, b :: m, h, h1, h2 => by
    obtain ⟨p1, p2⟩ := List.pairwise_cons.1 h1
    obtain ⟨q1, q2⟩ := List.pairwise_cons.1 h2
    by_cases e : a = b
    · subst e
      rw [sorted_one has (List.perm_cons a |>.1 h) p2 q2]
    · have m1 : a ∈ m := by
        have := h.subset (List.mem_cons_self (a := a) (l := l))
        rcases List.mem_cons.1 this with q | q
        · exact absurd q e
        · exact q
      have m2 : b ∈ l := by
        have := h.symm.subset (List.mem_cons_self (a := b) (l := m))
        rcases List.mem_cons.1 this with q | q
        · exact absurd q.symm e
        · exact q
      exact (has a b (p1 b m2) (q1 a m1)).elim
def SortL (i k : Nat) (l : List Tot) : Prop := l.Pairwise fun a b => ltL i k a b = true
theorem sortL_one {i k : Nat} {l m : List Tot} (h : l.Perm m) (h1 : SortL i k l) (h2 : SortL i k m) : l = m := sorted_one (fun _ _ h h2 => ltL_asymm h h2) h h1 h2
/-- One more laid in where no greater rate stands behind it. -/
theorem sortL_ins {i k : Nat} {A B : List Tot} {x : Tot} (h : SortL i k (A ++ B)) (hp : ∀ t ∈ A ++ B, 0 < t.c k) (hx : 0 < x.c k) (hn : ∀ t ∈ A ++ B, bytesLess t.p x.p = true)
    (hA : ∀ a, A.getLast? = some a → leR i k x a) (hB : ∀ b ∈ B, ¬ leR i k x b) : SortL i k (A ++ x :: B) := by
  unfold SortL at *
  obtain ⟨h1, h2, h3⟩ := List.pairwise_append.1 h
  have hAx : ∀ a ∈ A, ltL i k a x = true := by
    intro a ha
    rcases List.eq_nil_or_concat A with rfl | ⟨A', z, rfl⟩
    · cases ha
    · have hz := hA z (by simp)
      have haz : leR i k z a := by
        rw [List.concat_eq_append] at ha h1
        rcases List.mem_append.1 ha with q | q
        · have := (List.pairwise_append.1 h1).2.2 a q z (by simp)
          rcases ltL_iff.1 this with r | ⟨r, -⟩
          · exact (leR_total i k a z).resolve_left r
          · exact r
        · rw [List.mem_singleton.1 q]; exact leR_refl _ _ _
      have hxa : leR i k x a := leR_trans hx (hp z (by simp)) (hp a (List.mem_append_left _ ha)) hz haz
      exact ltL_iff.2 (.inr ⟨hxa, hn a (List.mem_append_left _ ha)⟩)
  refine List.pairwise_append.2 ⟨h1, List.pairwise_cons.2 ⟨fun b hb => ltL_iff.2 (.inl (hB b hb)), h2⟩, fun a ha b hb => ?_⟩
  rcases List.mem_cons.1 hb with rfl | hb
  · exact hAx a ha
  · exact h3 a ha b hb

/-! ### places -/
def atL (S : List Tot) (j : Nat) : Tot := S[j]?.getD ⟨[], 0, fun _ => 0⟩
/-- The place of the one at j, as the season counts. -/
def plP (i k : Nat) (S : List Tot) : Nat → Nat
  | 0 => 1
  | j + 1 => if leR i k (atL S (j + 1)) (atL S j) ∧ leR i k (atL S j) (atL S (j + 1)) then plP i k S j else j + 2
theorem plP_le (i k : Nat) (S : List Tot) : ∀ j, plP i k S j ≤ j + 1
  | 0 => Nat.le_refl _
  | j + 1 => by
    unfold plP
    have := plP_le i k S j
    split <;> omega
theorem plP_mono (i k : Nat) (S : List Tot) (j : Nat) : plP i k S j ≤ plP i k S (j + 1) := by
  have := plP_le i k S j
  conv => rhs; unfold plP
  split <;> omega
theorem plP_mono' (i k : Nat) (S : List Tot) {j m : Nat} (h : j ≤ m) : plP i k S j ≤ plP i k S m := by
  obtain ⟨d, rfl⟩ : ∃ d, m = j + d := ⟨m - j, by omega⟩
  clear h
  induction d with
  | zero => exact Nat.le_refl _
  | succ d ih => exact Nat.le_trans ih (plP_mono i k S (j + d))
/-- How many of the first m are better. -/
def cntB (i k : Nat) (S : List Tot) (x : Tot) : Nat → Nat
  | 0 => 0
  | m + 1 => cntB i k S x m + if betR i k (atL S m) x = true then 1 else 0
theorem cntB_none {i k : Nat} {S : List Tot} {x : Tot} {j : Nat} : ∀ {m : Nat}, (∀ r, j ≤ r → r < j + m → betR i k (atL S r) x = false) → cntB i k S x (j + m) = cntB i k S x j
  | 0, _ => rfl
  | m + 1, h => by
    rw [show j + (m + 1) = (j + m) + 1 from rfl, cntB, h (j + m) (by omega) (by omega), cntB_none fun r h1 h2 => h r h1 (by omega)]
    simp
theorem cntB_all {i k : Nat} {S : List Tot} {x : Tot} : ∀ {m : Nat}, (∀ r, r < m → betR i k (atL S r) x = true) → cntB i k S x m = m
  | 0, _ => rfl
  | m + 1, h => by
    rw [cntB, h m (by omega), if_pos rfl, cntB_all fun r h1 => h r (by omega)]
theorem cntB_same {i k : Nat} {S : List Tot} {x y : Tot} : ∀ {m : Nat}, (∀ r, r < m → betR i k (atL S r) x = betR i k (atL S r) y) → cntB i k S x m = cntB i k S y m
  | 0, _ => rfl
  | m + 1, h => by
    rw [cntB, cntB, h m (by omega), cntB_same fun r h1 => h r (by omega)]
theorem atL_lt {i k : Nat} {S : List Tot} (h : SortL i k S) {a b : Nat} (hab : a < b) (hb : b < S.length) : ltL i k (atL S a) (atL S b) = true := by
  have ha : a < S.length := by omega
  have := (List.pairwise_iff_getElem.1 h) a b ha hb hab
  unfold atL
  rw [List.getElem?_eq_getElem ha, List.getElem?_eq_getElem hb]
  exact this
theorem atL_mem {S : List Tot} {j : Nat} (h : j < S.length) : atL S j ∈ S := by
  unfold atL; rw [List.getElem?_eq_getElem h]; exact List.getElem_mem h
theorem atL_le {i k : Nat} {S : List Tot} (h : SortL i k S) {a b : Nat} (hab : a ≤ b) (hb : b < S.length) : leR i k (atL S b) (atL S a) := by
  rcases Nat.eq_or_lt_of_le hab with rfl | hab
  · exact leR_refl _ _ _
  · rcases ltL_iff.1 (atL_lt h hab hb) with r | ⟨r, -⟩
    · exact (leR_total i k _ _).resolve_left r
    · exact r
/-- The place is one more than the number of those that are better. -/
theorem plP_cnt {i k : Nat} {S : List Tot} (h : SortL i k S) (hp : ∀ t ∈ S, 0 < t.c k) : ∀ {j : Nat}, j < S.length → plP i k S j = cntB i k S (atL S j) S.length + 1 := by
  have hrest : ∀ {j : Nat}, j < S.length → cntB i k S (atL S j) S.length = cntB i k S (atL S j) j := fun {j} hj => by
    have := cntB_none (i := i) (k := k) (S := S) (x := atL S j) (j := j) (m := S.length - j) fun r h1 h2 => betR_no.2 (atL_le h h1 (by omega))
    rwa [show j + (S.length - j) = S.length by omega] at this
  intro j
  induction j with
  | zero => intro hj; rw [hrest hj]; rfl
  | succ j ih =>
    intro hj
    rw [hrest hj]
    have ih := ih (by omega)
    rw [hrest (by omega)] at ih
    have pj := hp _ (atL_mem (S := S) (j := j) (by omega))
    have pj1 := hp _ (atL_mem hj)
    unfold plP
    split
    · rename_i hs
      rw [ih, cntB, betR_no.2 hs.2, if_neg (by decide)]
      congr 1
      refine cntB_same fun r hr => ?_
      have pr := hp _ (atL_mem (S := S) (j := r) (by omega))
      cases h1 : betR i k (atL S r) (atL S (j + 1)) with
      | false => exact betR_no.2 (leR_trans pr pj1 pj (betR_no.1 h1) hs.1)
      | true =>
        refine betR_iff.2 fun hle => betR_iff.1 h1 (leR_trans pr pj pj1 hle hs.2)
    · rename_i hs
      rw [cntB_all fun r hr => ?_]
      refine betR_iff.2 fun hle => hs ⟨atL_le h (by omega) hj, ?_⟩
      have pr := hp _ (atL_mem (S := S) (j := r) (by omega))
      exact leR_trans pj pr pj1 (atL_le h (by omega) (by omega)) hle

/-! ### what is handed back -/
/-- The leaders among the first m. -/
def outL (i k n : Nat) (S : List Tot) : Nat → List (Tot × Nat)
  | 0 => []
  | m + 1 => if plP i k S m ≤ n then outL i k n S m ++ [(atL S m, plP i k S m)] else outL i k n S m
theorem outL_stop {i k n : Nat} {S : List Tot} {j : Nat} (h : n < plP i k S j) : ∀ m, outL i k n S (j + m) = outL i k n S j
  | 0 => rfl
  | m + 1 => by
    rw [show j + (m + 1) = (j + m) + 1 from rfl, outL, if_neg (by have := plP_mono' i k S (show j ≤ j + m by omega); omega), outL_stop h m]
theorem outL_full {i k n : Nat} {S : List Tot} : ∀ {m : Nat}, (∀ j, j < m → plP i k S j ≤ n) → outL i k n S m = (List.range m).map fun j => (atL S j, plP i k S j)
  | 0, _ => rfl
  | m + 1, h => by
    rw [outL, if_pos (h m (by omega)), outL_full fun j hj => h j (by omega), List.range_succ, List.map_append]; rfl
theorem outL_len {i k n : Nat} {S : List Tot} : ∀ {m : Nat}, (outL i k n S m).length ≤ m
  | 0 => Nat.le_refl _
  | m + 1 => by
    have := outL_len (i := i) (k := k) (n := n) (S := S) (m := m)
    unfold outL
    split
    · simp; omega
    · omega
end Go.Proofs.Tryz
