/- The abstract machine: what the check of a plan says. -/
import Derived.Test.YtbfonnoebbjenaaGreatDoorAmU
namespace Go.Am
open Go

theorem memN_iff {j : Nat} {l : List Nat} : memN j l = true ↔ j ∈ l := by rw [memN_eq]; simp

/-- what a heap holds once some of the pending blocks have been put in -/
def Src (pend : List (Nat × Nat × O)) (ls : List Nat) (st : St) (id : Nat) (o : O) : Prop := st.heap.get id = some o ∨ ∃ i, (i, id, o) ∈ pend ∧ i ∈ ls

theorem insertAs_next : ∀ (pend : List (Nat × Nat × O)) (as : List Nat) (st : St), (insertAs pend as st).next = st.next
  | [], _, _ => rfl
  | (i, id, o) :: pend, as, st => by
    simp only [insertAs]
    rw [insertAs_next]
    cases memN i as <;> rfl

theorem insertAs_get : ∀ (pend : List (Nat × Nat × O)) (as : List Nat) (st : St) (id : Nat) (o : O), (insertAs pend as st).heap.get id = some o → Src pend as st id o
  | [], _, _, _, _, h => .inl h
  | (i, id0, o0) :: pend, as, st, id, o, h => by
    simp only [insertAs] at h
    rcases insertAs_get pend as _ id o h with h1 | ⟨j, h1, h2⟩
    · cases hm : memN i as with
      | false => rw [hm] at h1; exact .inl h1
      | true =>
        rw [hm] at h1
        simp only [cond_true, St.put, T.get_set] at h1
        by_cases e : id = id0
        · rw [if_pos e] at h1; cases h1; subst e
          exact .inr ⟨i, by simp, memN_iff.1 hm⟩
        · rw [if_neg e] at h1; exact .inl h1
    · exact .inr ⟨j, by simp [h1], h2⟩

theorem insertAs_some : ∀ (pend : List (Nat × Nat × O)) (as : List Nat) (st : St) (id : Nat) (o : O), Src pend as st id o → ∃ o', (insertAs pend as st).heap.get id = some o'
  | [], _, _, _, o, h => by
    rcases h with h | ⟨i, h, _⟩
    · exact ⟨o, h⟩
    · cases h
  | (i, id0, o0) :: pend, as, st, id, o, h => by
    simp only [insertAs]
    have key : ∀ o, st.heap.get id = some o → ∃ o', (bif memN i as then st.put id0 (some o0) else st).heap.get id = some o' := fun o h1 => by
      cases memN i as with
      | false => exact ⟨o, h1⟩
      | true =>
        simp only [cond_true, St.put, T.get_set]
        by_cases e : id = id0
        · rw [if_pos e]; exact ⟨_, rfl⟩
        · rw [if_neg e]; exact ⟨o, h1⟩
    rcases h with h1 | ⟨j, h1, h2⟩
    · obtain ⟨o', ho'⟩ := key o h1
      exact insertAs_some pend as _ id o' (.inl ho')
    · rcases List.mem_cons.1 h1 with he | he
      · cases he
        refine insertAs_some pend as _ _ o0 (.inl ?_)
        rw [memN_iff.2 h2]
        simp [St.put, T.get_set]
      · exact insertAs_some pend as _ id o (.inr ⟨j, he, h2⟩)

/-- Where the sources agree, the heap holds just them. -/
theorem insertAs_iff {pend : List (Nat × Nat × O)} {as : List Nat} {st : St} (hc : ∀ id o o', Src pend as st id o → Src pend as st id o' → o = o') (id : Nat) (o : O) : (insertAs pend as st).heap.get id = some o ↔ Src pend as st id o := by
  refine ⟨insertAs_get pend as st id o, fun h => ?_⟩
  obtain ⟨o', ho'⟩ := insertAs_some pend as st id o h
  rw [ho', hc id o o' h (insertAs_get pend as st id o' ho')]

theorem insertAs_all : ∀ (pend : List (Nat × Nat × O)) (as : List Nat) (st : St), (∀ p ∈ pend, p.1 ∈ as) → insertAs pend as st = insertAll pend st
  | [], _, _, _ => rfl
  | (i, id, o) :: pend, as, st, h => by
    simp only [insertAs, insertAll]
    rw [memN_iff.2 (h (i, id, o) (by simp)), insertAs_all pend as _ fun p hp => h p (by simp [hp])]
    rfl

theorem insertAs_append : ∀ (pend p2 : List (Nat × Nat × O)) (as : List Nat) (st : St), insertAs (pend ++ p2) as st = insertAs p2 as (insertAs pend as st)
  | [], _, _, _ => rfl
  | (i, id, o) :: pend, p2, as, st => by simp only [List.cons_append, insertAs, insertAs_append pend p2]

/-- 'j' must have been done before 'i'. -/
inductive Anc (ops : List Oper) : Nat → Nat → Prop where
  | edge {i j : Nat} : edge ops i j = true → Anc ops i j
  | step {i k j : Nat} : Anc ops i k → Am.edge ops k j = true → Anc ops i j

theorem ancs_sound {ops : List Oper} {i : Nat} : ∀ (pre : List Step) (acc : List Nat), (∀ x ∈ acc, Anc ops i x) → ∀ j ∈ ancs ops i pre acc, Anc ops i j ∧ (j ∈ acc ∨ ∃ s ∈ pre, s.idx = j)
  | [], acc, h, j, hj => ⟨h j hj, .inl hj⟩
  | s :: pre, acc, h, j, hj => by
    simp only [ancs] at hj
    cases hc : (edge ops i s.idx || acc.any fun x => edge ops x s.idx) with
    | false =>
      rw [hc] at hj
      obtain ⟨h1, h2⟩ := ancs_sound pre acc h j hj
      refine ⟨h1, h2.imp_right fun ⟨q, hq, e⟩ => ⟨q, by simp [hq], e⟩⟩
    | true =>
      rw [hc] at hj
      have hs : Anc ops i s.idx := by
        simp only [Bool.or_eq_true] at hc
        rcases hc with hc | hc
        · exact .edge hc
        · obtain ⟨x, hx, he⟩ := List.any_eq_true.1 hc
          exact .step (h x hx) he
      obtain ⟨h1, h2⟩ := ancs_sound pre (s.idx :: acc) (fun x hx => by
        rcases List.mem_cons.1 hx with rfl | hx
        · exact hs
        · exact h x hx) j hj
      refine ⟨h1, ?_⟩
      rcases h2 with h2 | ⟨q, hq, e⟩
      · rcases List.mem_cons.1 h2 with rfl | h2
        · exact .inr ⟨s, by simp, rfl⟩
        · exact .inl h2
      · exact .inr ⟨q, by simp [hq], e⟩

theorem mem_nats : ∀ {n j : Nat}, j ∈ nats n ↔ j < n
  | 0, j => by simp [nats]
  | n + 1, j => by simp only [nats, List.mem_cons, mem_nats]; omega

theorem anc_listed {ops : List Oper} {ls : List Nat} (hid : ∀ j ∈ ls, ∀ x, edge ops j x = true → x ∈ ls) {i : Nat} (hs : ∀ x, edge ops i x = true → x ∈ ls) : ∀ {j : Nat}, Anc ops i j → j ∈ ls := by
  intro j h
  induction h with
  | edge h => exact hs _ h
  | step _ he ih => exact hid _ ih _ he

theorem edge_lt {ops : List Oper} {i : Nat} {o : Oper} (ho : ops[i]? = some o) (h : (o.after.toList.all fun e => bif Region.binds .any e then Nat.blt e.on i else true) = true) : ∀ x, edge ops i x = true → x < i := by
  intro x hx
  unfold edge at hx
  rw [ho] at hx
  simp only at hx
  obtain ⟨e, he, hb⟩ := List.any_eq_true.1 hx
  simp only [Bool.and_eq_true] at hb
  have h1 := List.all_eq_true.1 h e he
  rw [hb.1] at h1
  simp only [cond_true] at h1
  have := Nat.eq_of_beq_eq_true hb.2
  have h2 : e.on < i := by simpa [Nat.blt, Nat.ble_eq, Nat.succ_le_iff] using h1
  omega

/-- What the check of a plan says of its head. -/
structure HeadOk (ops : List Oper) (pre : List Step) (s : Step) (pl : List Step) (o : Oper) : Prop where
  op : ops[s.idx]? = some o
  look : ∀ j, looks ops o j = true → (Anc ops s.idx j ∧ ∃ q ∈ pre, q.idx = j) ∨ (j ≠ s.idx ∧ ∀ q ∈ pre, q.idx ≠ j)
  seen : ∀ q ∈ pre, ∀ oq, ops[q.idx]? = some oq → looks ops oq s.idx = true → s.chain = true ∧ Anc ops s.idx q.idx
  new : ∀ q ∈ pre, q.idx ≠ s.idx ∧ sameDst ops o q.idx = false
  down : ∀ x, edge ops s.idx x = true → x < s.idx
  rAs : ∀ as, s = .r s.idx as → ∀ j ∈ as, Anc ops s.idx j
  qAs : ∀ as, s = .q s.idx as → ∀ j ∈ as, Anc ops s.idx j
  wAll : s = .w s.idx → ∀ q ∈ pre, isBlock q = true → Anc ops s.idx q.idx
  wait : s.chain = true → allWait ops pl [s.idx] = true
  rest : planCheck ops (s :: pre) pl = true

theorem looks_lt {ops : List Oper} {o : Oper} {j : Nat} (h : looks ops o j = true) : j < ops.length := by
  unfold looks at h
  split at h
  · rename_i oj ho; exact (List.getElem?_eq_some_iff.1 ho).1
  · cases h

theorem planCheck_cons {ops : List Oper} {pre pl : List Step} {s : Step} (h : planCheck ops pre (s :: pl) = true) : ∃ o, HeadOk ops pre s pl o := by
  simp only [planCheck] at h
  split at h
  case h_2 => cases h
  rename_i o ho
  simp only [Bool.and_eq_true] at h
  obtain ⟨⟨⟨⟨⟨⟨h1, h0⟩, h2⟩, h3⟩, h4⟩, h5⟩, h6⟩ := h
  have an := fun j hj => ancs_sound (ops := ops) (i := s.idx) pre [] (fun x hx => by cases hx) j hj
  refine ⟨o, ho, fun j hj => ?_, fun q hq oq hoq hl => ?_, fun q hq => ?_, edge_lt ho h3, fun as hs j hj => ?_, fun as hs j hj => ?_, fun hs q hq hb => ?_, fun hc => ?_, h6⟩
  · have := List.all_eq_true.1 h1 j (mem_nats.2 (looks_lt hj))
    rw [hj] at this
    simp only [cond_true, Bool.or_eq_true, Bool.and_eq_true, Bool.not_eq_true'] at this
    rcases this with this | ⟨g1, g2⟩
    · obtain ⟨a1, a2⟩ := an j (memN_iff.1 this)
      exact .inl ⟨a1, a2.resolve_left (by simp)⟩
    · refine .inr ⟨fun e => ?_, fun q hq e => ?_⟩
      · rw [e, T.beq_true rfl] at g1; cases g1
      · have := List.all_eq_true.1 g2 q hq
        rw [e, T.beq_true rfl] at this; cases this
  · have := List.all_eq_true.1 h0 q hq
    rw [hoq] at this
    simp only [hl, cond_true, Bool.and_eq_true] at this
    exact ⟨this.1, (an _ (memN_iff.1 this.2)).1⟩
  · have := List.all_eq_true.1 h2 q hq
    simp only [Bool.and_eq_true, Bool.not_eq_true'] at this
    refine ⟨fun e => ?_, this.2⟩
    rw [e, T.beq_true rfl] at this; exact absurd this.1 (by simp)
  · cases s <;> cases hs
    exact (an j (memN_iff.1 (List.all_eq_true.1 h4 j hj))).1
  · cases s <;> cases hs
    exact (an j (memN_iff.1 (List.all_eq_true.1 h4 j hj))).1
  · cases s <;> cases hs
    have := List.all_eq_true.1 h4 q hq
    rw [hb] at this
    exact (an _ (memN_iff.1 this)).1
  · rw [hc] at h5; exact h5

/-- Every operation of the region is in the plan. -/
theorem planCheck_all {ops : List Oper} : ∀ {pl pre : List Step}, planCheck ops pre pl = true → ∀ j, j < ops.length → (∃ s ∈ pre, s.idx = j) ∨ ∃ s ∈ pl, s.idx = j
  | [], pre, h, j, hj => by
    simp only [planCheck] at h
    have := List.all_eq_true.1 h j (mem_nats.2 hj)
    obtain ⟨s, hs, he⟩ := List.any_eq_true.1 this
    exact .inl ⟨s, hs, Nat.eq_of_beq_eq_true he⟩
  | s :: pl, pre, h, j, hj => by
    obtain ⟨o, H⟩ := planCheck_cons h
    rcases planCheck_all H.rest j hj with ⟨q, hq, e⟩ | ⟨q, hq, e⟩
    · rcases List.mem_cons.1 hq with rfl | hq
      · exact .inr ⟨q, by simp, e⟩
      · exact .inl ⟨q, hq, e⟩
    · exact .inr ⟨q, by simp [hq], e⟩

theorem planCheck_new {ops : List Oper} : ∀ {pl pre : List Step}, planCheck ops pre pl = true → ∀ s ∈ pl, s.idx < ops.length ∧ (∀ x, edge ops s.idx x = true → x < s.idx) ∧ ∀ q ∈ pre, q.idx ≠ s.idx
  | [], _, _, _, hs => by cases hs
  | s0 :: pl, pre, h, s, hs => by
    obtain ⟨o, H⟩ := planCheck_cons h
    rcases List.mem_cons.1 hs with rfl | hs
    · exact ⟨(List.getElem?_eq_some_iff.1 H.op).1, H.down, fun q hq => (H.new q hq).1⟩
    · obtain ⟨h1, h2, h3⟩ := planCheck_new H.rest s hs
      exact ⟨h1, h2, fun q hq => h3 q (by simp [hq])⟩

/-- All that waits is not ready. -/
theorem allWait_edge {ops : List Oper} {ls : List Nat} : ∀ {pl : List Step} {d : List Nat}, allWait ops pl d = true → (∀ x ∈ d, x ∉ ls) → (∀ s ∈ pl, s.idx ∉ ls) → ∀ s ∈ pl, ∃ x, edge ops s.idx x = true ∧ x ∉ ls
  | [], _, _, _, _, _, hs => by cases hs
  | s0 :: pl, d, h, hd, hp, s, hs => by
    simp only [allWait, Bool.and_eq_true] at h
    obtain ⟨x, hx, he⟩ := List.any_eq_true.1 h.1
    rcases List.mem_cons.1 hs with rfl | hs
    · exact ⟨x, he, hd x hx⟩
    · exact allWait_edge h.2 (fun y hy => by
        rcases List.mem_cons.1 hy with rfl | hy
        · exact hp s0 (by simp)
        · exact hd y hy) (fun s hs => hp s (by simp [hs])) s hs
end Go.Am
