/- A region that draws its order: what is quiet in a class of worlds goes by one walk in the text's order, up to a place; what stands behind that place is walked on. -/
import Derived.Deep.Quiet
import Derived.OrdersHeld
namespace Go.Proofs.Tryz
open Go

section
variable {P : Program} {ops : Array Oper} {md : Region.Mode} {C : World → Prop} {m : Nat}

/-- The operations below m come up in whatever order, till all have. -/
def wpTo (P : Program) (md : Region.Mode) (ops : Array Oper) (C : World → Prop) (m : Nat) (Q : Act → Prop) : Nat → Array Bool → Act → Prop
  | 0, listed, a => (∀ k, k < m → listed.getD k true = true) ∧ Q a
  | n + 1, listed, a => (∃ k, k ∈ Region.ready md ops listed ∧ k < m) ∧ ∀ i ∈ Region.ready md ops listed, i < m → qOp P ops C i (wpTo P md ops C m Q n (listed.setIfInBounds i true)) a

/-- What is listed has what it waits for listed; nothing from m on is listed. -/
def Closed (md : Region.Mode) (ops : Array Oper) (m : Nat) (listed : Array Bool) : Prop :=
  listed.size = ops.size ∧ (∀ j o, j < m → ops[j]? = some o → listed.getD j true = true → ∀ e ∈ o.after, Region.binds md e = true → listed.getD e.on false = true) ∧
  ∀ j, m ≤ j → j < ops.size → listed.getD j true = false

theorem gd_false {listed : Array Bool} {i : Nat} (h : listed.getD i true = false) (h2 : listed.getD i false = true) : False := by
  rcases Nat.lt_or_ge i listed.size with h' | h'
  · simp [h'] at h h2; rw [h] at h2; cases h2
  · simp [Array.getElem?_eq_none h'] at h2

theorem Closed.step {listed : Array Bool} {i : Nat} (h : Closed md ops m listed) (hi : i ∈ Region.ready md ops listed) (him : i < m) : Closed md ops m (listed.setIfInBounds i true) := by
  obtain ⟨h1, h2, h3⟩ := h
  refine ⟨by simp [h1], fun j o hjm ho hl e he hb => ?_, fun j hj hjs => ?_⟩
  · by_cases hij : i = j
    · subst hij
      obtain ⟨-, o', ho', hall⟩ := mem_ready.1 hi
      rw [ho] at ho'
      obtain rfl := Option.some.inj ho'
      exact getD_set_true (hall e he hb)
    · rw [getD_set_ne true hij] at hl
      exact getD_set_true (h2 j o hjm ho hl e he hb)
  · rw [getD_set_ne true (by omega)]; exact h3 j hj hjs

/-- Each operation below m is waited for by one behind it, m at the last; each behind m waits for one from m on. -/
def laidTo (md : Region.Mode) (ops : Array Oper) (m : Nat) : Bool :=
  ((List.range m).all fun i => (List.range (m + 1)).any fun k => decide (i < k) && match ops[k]? with
    | some o => o.after.any fun e => Region.binds md e && e.on == i
    | none => false) &&
  ((List.range ops.size).all fun j => decide (j ≤ m) || match ops[j]? with
    | some o => o.after.any fun e => Region.binds md e && decide (m ≤ e.on) && decide (e.on < ops.size)
    | none => false)

theorem not_yet {listed : Array Bool} (hl : laidTo md ops m = true) (hc : Closed md ops m listed) {i : Nat} (him : i < m) (hun : listed.getD i true = false) : ∀ j ∈ Region.ready md ops listed, j < m := by
  simp only [laidTo, Bool.and_eq_true, List.all_eq_true, List.mem_range, List.any_eq_true, Bool.or_eq_true, decide_eq_true_eq] at hl
  obtain ⟨hd, hu⟩ := hl
  have key : ∀ (n i : Nat), m - i ≤ n → i < m → listed.getD i true = false → ∃ o, ops[m]? = some o ∧ ∃ e ∈ o.after, Region.binds md e = true ∧ listed.getD e.on true = false := by
    intro n
    induction n with
    | zero => intro i h1 h2; omega
    | succ n ih =>
      intro i h1 h2 h3
      obtain ⟨k, hk1, hik, hk⟩ := hd i h2
      cases ho : ops[k]? with
      | none => rw [ho] at hk; cases hk
      | some o =>
        rw [ho] at hk
        obtain ⟨e, he, hb⟩ := Array.any_eq_true'.1 hk
        simp only [Bool.and_eq_true, beq_iff_eq] at hb
        by_cases hkm : k = m
        · subst hkm
          exact ⟨o, ho, e, he, hb.1, by rw [hb.2]; exact h3⟩
        · refine ih k (by omega) (by omega) ?_
          cases hx : listed.getD k true with
          | false => rfl
          | true =>
            have := hc.2.1 k o (by omega) ho hx e he hb.1
            rw [hb.2] at this
            exact (gd_false h3 this).elim
  intro j hj
  rcases Nat.lt_or_ge j m with h | h
  · exact h
  · exfalso
    obtain ⟨-, o, ho, hall⟩ := mem_ready.1 hj
    by_cases hjm : j = m
    · subst hjm
      obtain ⟨o', ho', e, he, hb, hx⟩ := key _ i (Nat.le_refl _) him hun
      rw [ho] at ho'
      obtain rfl := Option.some.inj ho'
      exact gd_false hx (hall e he hb)
    · have hjs : j < ops.size := (Array.getElem?_eq_some_iff.1 ho).1
      rcases hu j hjs with h1 | h1
      · omega
      · rw [ho] at h1
        obtain ⟨e, he, hb⟩ := Array.any_eq_true'.1 h1
        simp only [Bool.and_eq_true, decide_eq_true_eq] at hb
        exact gd_false (hc.2.2 e.on hb.1.2 hb.2) (hall e he hb.1.1)

theorem wpTo_first {Q : Act → Prop} {i : Nat} {oi : Oper} {v : Value} (hi : ops[i]? = some oi) (him : i < m) (hsel : ∀ (j : Nat) (o : Oper) cs b, ops[j]? = some o → o.op ≠ .select cs b) :
    ∀ (n : Nat) (listed : Array Bool) (a : Act),
      (∀ j oj, ops[j]? = some oj → j ≠ i → listed.getD j true = false → (∀ e ∈ oj.after, Region.binds md e = true → e.on ≠ i) → oi.apart ops oj = true) →
      i ∈ Region.ready md ops listed → YieldsIn P ops C oi v a →
      wpTo P md ops C m Q n (listed.setIfInBounds i true) (a.put oi.dst v) → wpTo P md ops C m Q (n + 1) listed a := by
  intro n
  induction n with
  | zero =>
    intro listed a _ hr hy H
    refine ⟨⟨i, hr, him⟩, fun j hj hjm => ?_⟩
    by_cases hji : j = i
    · subst hji; exact hy.qOp hi H
    · exfalso
      have := H.1 j hjm
      rw [getD_set_ne true (Ne.symm hji)] at this
      rw [(mem_ready.1 hj).1] at this
      cases this
  | succ n ih =>
    intro listed a hfree hr hy H
    refine ⟨⟨i, hr, him⟩, fun j hj hjm => ?_⟩
    by_cases hji : j = i
    · subst hji; exact hy.qOp hi H
    · have h1 := H.2 j (ready_mono hj hji) hjm
      obtain ⟨hjun, oj, hoj, hall⟩ := mem_ready.1 hj
      have hnot : ∀ e ∈ oj.after, Region.binds md e = true → e.on ≠ i := fun e he hb heq => by
        have h1 := hall e he hb
        rw [heq] at h1
        exact gd_false (mem_ready.1 hr).1 h1
      have h2 := qOp_put hoj (hfree j oj hoj hji hjun hnot) (fun cs b => hsel i oi cs b hi) (fun cs b => hsel j oj cs b hoj) hy h1
      have hfree' : ∀ k ok, ops[k]? = some ok → k ≠ i → (listed.setIfInBounds j true).getD k true = false →
          (∀ e ∈ ok.after, Region.binds md e = true → e.on ≠ i) → oi.apart ops ok = true := fun k ok hk hki hun hno => by
        refine hfree k ok hk hki ?_ hno
        by_cases hjk : j = k
        · subst hjk; exact hjun
        · rw [getD_set_ne true hjk] at hun; exact hun
      refine qOp_mono (fun a' h3 => ih (listed.setIfInBounds j true) a' hfree' (ready_mono hr (Ne.symm hji)) h3.1 ?_) h2
      rw [Array.setIfInBounds_comm _ _ hji]
      exact h3.2

def lexTo (md : Region.Mode) (ops : Array Oper) (m : Nat) : Nat → Nat → Array Bool → Bool
  | 0, _, listed => (List.range m).all fun k => listed.getD k true
  | n + 1, k, listed => (Region.ready md ops listed).contains k && Region.free md ops listed k && lexTo md ops m n (k + 1) (listed.setIfInBounds k true)

theorem wpTo_lex {Q : Act → Prop} (hs : Region.noSelect ops = true) : ∀ (l : List Oper) (k : Nat) (listed : Array Bool) (a : Act), (∀ j, j < l.length → l[j]? = ops[k + j]?) → k + l.length = m →
    lexTo md ops m l.length k listed = true → wpQuiet P ops C Q l a → wpTo P md ops C m Q l.length listed a
  | [], _, _, _, _, _, hB, h => ⟨by simpa only [List.length_nil, lexTo, List.all_eq_true, List.mem_range] using hB, h⟩
  | o :: l, k, listed, a, hl, hk, hB, h => by
    have h0 : ops[k]? = some o := by simpa using (hl 0 (by simp)).symm
    simp only [List.length_cons, lexTo, Bool.and_eq_true] at hB
    obtain ⟨⟨hr, hf⟩, hB'⟩ := hB
    have hst : qOp P ops C k (wpQuiet P ops C Q l) a := by unfold qOp; simp only [h0]; exact h
    obtain ⟨v, hy, hK⟩ := yieldsIn_of_qOp h0 hst
    have hkm : k < m := by simp only [List.length_cons] at hk; omega
    exact wpTo_first h0 hkm (Region.noSelect_spec hs) l.length listed a (Region.free_spec h0 hf) (by simpa using hr) hy
      (wpTo_lex hs l (k + 1) _ _ (fun j hj => by have := hl (j + 1) (by simp only [List.length_cons]; omega); simpa [Nat.add_assoc, Nat.add_comm 1 j] using this) (by simp only [List.length_cons] at hk; omega) hB' hK)

theorem wpAny_of_to {Qm : Act → Prop} {Q : Exit → Act → World → Prop} {f : Nat} {target : Array Bool} (hl : laidTo md ops m = true) (ht1 : target.size = ops.size) (ht2 : ∀ k, k < m → target.getD k true = true)
    (ht3 : ∀ j, m ≤ j → j < ops.size → target.getD j true = false) (hQ : ∀ a w, C w → Qm a → wpAny P md ops Q f target a w) : ∀ (n : Nat) (listed : Array Bool) (a : Act) (w : World), Closed md ops m listed → C w →
    wpTo P md ops C m Qm n listed a → wpAny P md ops Q (n + f) listed a w
  | 0, listed, a, w, hc, hw, h => by
    have e : listed = target := by
      refine Array.ext (by rw [hc.1, ht1]) fun i h1 h2 => ?_
      rcases Nat.lt_or_ge i m with h3 | h3
      · have x := h.1 i h3
        have y := ht2 i h3
        simp [h1] at x
        simp [h2] at y
        rw [x, y]
      · have x := hc.2.2 i h3 (by rw [← hc.1]; exact h1)
        have y := ht3 i h3 (by rw [← hc.1]; exact h1)
        simp [h1] at x
        simp [h2] at y
        rw [x, y]
    rw [Nat.zero_add, e]
    exact hQ a w hw h.2
  | n + 1, listed, a, w, hc, hw, h => by
    rw [Nat.add_right_comm]
    obtain ⟨⟨k, hk, hkm⟩, hstep⟩ := h
    refine ⟨fun h0 => (by rw [h0] at hk; cases hk), fun i hi => ?_⟩
    have him := not_yet hl hc hkm (mem_ready.1 hk).1 i hi
    exact wpOp_of_qOp hw (fun a' w' hw' h' => wpAny_of_to hl ht1 ht2 ht3 hQ n _ a' w' (hc.step hi him) hw' h') (hstep i hi him)

def checkTo (md : Region.Mode) (ops : Array Oper) (m n : Nat) (target : Array Bool) : Bool :=
  Region.noSelect ops && laidTo md ops m && lexTo md ops m m 0 (Array.replicate ops.size false) && decide (m + n = ops.size) && decide (target.size = ops.size) &&
  ((List.range m).all fun k => target.getD k true) && (List.range ops.size).all fun j => decide (j < m) || !target.getD j true

/-- One walk of the text's order up to the operation number m; the rest in the world at hand. -/
theorem wp_region_quiet_to {id : Nat} {Q : Exit → Act → World → Prop} {a : Act} {w : World} {l : List Oper} (m n : Nat) (target : Array Bool) (hm : P.follows .mixedOrders = true) (hB : checkTo .any l.toArray m n target = true) (hC : C w.drew)
    (h : wpQuiet P l.toArray C (fun a' => ∀ w', C w' → wpAny P .any l.toArray Q n target a' w') (l.take m) a) : (Code.region id l.toArray true).wp P Q a w := by
  simp only [checkTo, Bool.and_eq_true, decide_eq_true_eq, List.all_eq_true, List.mem_range, Bool.or_eq_true] at hB
  obtain ⟨⟨⟨⟨⟨⟨h1, h2⟩, h3⟩, h4⟩, h5⟩, h6⟩, h7⟩ := hB
  have h4' : m + n = l.length := by simpa using h4
  have hlen : (l.take m).length = m := by simp; omega
  refine wp_region_any hm ?_
  suffices hs : ∀ k, k = m + n → wpAny P .any l.toArray Q k (Array.replicate l.toArray.size false) a w.drew from hs _ h4.symm
  rintro k rfl
  have hto := wpTo_lex (C := C) (md := .any) (m := m) h1 (l.take m) 0 (Array.replicate l.toArray.size false) a (fun j hj => by rw [hlen] at hj; simp [hj]) (by rw [hlen]; omega) (by rw [hlen]; exact h3) h
  rw [hlen] at hto
  refine wpAny_of_to (Qm := fun a' => ∀ w', C w' → wpAny P .any l.toArray Q n target a' w') h2 h5 h6 (fun j hj hjs => by rcases h7 j hjs with q | q; omega; simpa using q) (fun a' w' hw' hq => hq w' hw') m _ a _ ⟨by simp, ?_, ?_⟩ hC hto
  · intro j o hjm ho hl
    have : j < l.length := by have := (Array.getElem?_eq_some_iff.1 ho).1; simpa using this
    simp [this] at hl
  · intro j hj hjs
    simp at hjs
    simp [hjs]

/-! ### the steps -/
theorem quiet_take {Q : Act → Prop} {a : Act} {o : Oper} {rest : List Oper} {v : Value} (hw : Region.wanted o (yielded ops a.tmps) = true) (hy : ∀ w, C w → (execOp a.eval o).run P w = .ok (.value v) w)
    (h : wpQuiet P ops C Q rest (a.put o.dst v)) : wpQuiet P ops C Q (o :: rest) a := by
  unfold wpQuiet
  rw [if_pos hw]
  exact ⟨v, fun w hC => by unfold Oper.quietAt; rw [hy w hC]; exact ⟨rfl, rfl⟩, h⟩
theorem quiet_skip {Q : Act → Prop} {a : Act} {o : Oper} {rest : List Oper} (hw : Region.wanted o (yielded ops a.tmps) = false) (h : wpQuiet P ops C Q rest (a.put o.dst undef)) : wpQuiet P ops C Q (o :: rest) a := by
  unfold wpQuiet
  rw [if_neg (by rw [hw]; decide)]
  exact h
theorem quiet_call {Q : Act → Prop} {a : Act} {o : Oper} {rest : List Oper} {v : Value} {f : FuncId} {args : Array Value} (hw : Region.wanted o (yielded ops a.tmps) = true) (he : ∀ w, C w → (execOp a.eval o).run P w = .ok (.enter f args) w)
    (hc : ∀ w, C w → Calls P f args w fun e w'' => e = .returned v ∧ C w'') (h : wpQuiet P ops C Q rest (a.put o.dst v)) : wpQuiet P ops C Q (o :: rest) a := by
  unfold wpQuiet
  rw [if_pos hw]
  exact ⟨v, fun w hC => by unfold Oper.quietAt; rw [he w hC]; exact ⟨rfl, hc w hC⟩, h⟩
end
end Go.Proofs.Tryz
