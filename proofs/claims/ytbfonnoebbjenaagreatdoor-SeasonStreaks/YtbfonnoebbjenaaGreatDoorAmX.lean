/- The abstract machine: a region whose order is drawn, explored: the steps of the plan. -/
import Derived.Test.YtbfonnoebbjenaaGreatDoorAmW
namespace Go.Am
open Go

variable {cx : Cx} {P : Program} {B fl : Nat} {ops : Array Oper} {R : RunT} {K : Exit → Fr → St → Bool} {β0 : Be} {st0 : St} {w0 : World}
variable {listed : Array Bool} {ls : List Nat} {E : List Pend} {pre pl : List Step} {pend : List (Nat × Nat × O)} {fr : Fr} {st : St} {β : Be} {a : Act} {w : World}

theorem put_get {fr fr' : Fr} {d : Option Tmp} {v : V} (h : fr.put d v = some fr') : fr'.n = fr.n ∧ (∀ t, d = some t → t < fr.n ∧ fr'.get t = some v) ∧ ∀ t, d ≠ some t → fr'.get t = fr.get t := by
  cases d with
  | none => simp only [Fr.put, Option.some.injEq] at h; subst h; exact ⟨rfl, by simp, fun _ _ => rfl⟩
  | some d =>
    simp only [Fr.put] at h
    cases hb : Nat.blt d fr.n with
    | false => rw [hb] at h; simp at h
    | true =>
      rw [hb] at h
      simp only [cond_true, Option.some.injEq] at h
      subst h
      have hlt : d < fr.n := by simpa [Nat.blt, Nat.ble_eq, Nat.succ_le_iff] using hb
      refine ⟨rfl, fun t ht => ?_, fun t ht => ?_⟩
      · cases ht; exact ⟨hlt, by simp [Fr.get, T.get_set]⟩
      · have : t ≠ d := fun e => ht (by rw [e])
        simp [Fr.get, T.get_set, this]

theorem Good.bump {β' : Be} {st' : St} {w' : World} (h : Good cx B fl β st w β' st' w') {n : Nat} (hn : st'.next ≤ n) : Good cx B fl β st w β' ⟨st'.heap, n⟩ w' where
  ext := h.ext
  old := h.old
  inv := h.inv.less hn fun _ _ ho => ho
  keep := h.keep
  next := Nat.le_trans h.next hn
  os := h.os
  tape := h.tape
  output := h.output
  size := h.size
  frame := h.frame
  fresh := h.fresh

theorem sameDst_false {ops : List Oper} {o oj : Oper} {j : Nat} (hj : ops[j]? = some oj) (h : sameDst ops o j = false) : ∀ d, o.dst = some d → oj.dst ≠ some d := by
  intro d hd hc
  unfold sameDst at h
  rw [hj, hd] at h
  simp only [hc] at h
  rw [T.beq_true rfl] at h; cases h

/-- What the frame's new entry leaves as it was, for the pending. -/
theorem XI.keeps (X : XI cx P B fl ops R K β0 st0 w0 listed ls E pre pl pend fr st β a w) {s : Step} {pl' : List Step} {o : Oper} (H : HeadOk ops.toList pre s pl' o) {v : V} {fr' : Fr} (hp : fr.put o.dst v = some fr') {e : Pend} (he : e ∈ E) (notLook : looks ops.toList e.o s.idx = true → False) :
    (∀ d, e.o.dst = some d → fr'.get d = some e.v ∧ d < fr'.n) ∧ (∀ x ∈ e.o.op.operands.toList, ev fr' x = ev e.fr x) ∧
    (∀ g want og d, e.o.guard = some (g, want) → ops.toList[g]? = some og → og.dst = some d → fr'.get d = e.fr.get d) ∧ (∀ d, o.dst = some d → e.o.dst ≠ some d) ∧ e.i ≠ s.idx := by
  have F := X.ef e he
  obtain ⟨hn, _, hg⟩ := put_get hp
  obtain ⟨q, hq, hqe⟩ := (X.preI e.i).2 (.inr ⟨e, he, rfl⟩)
  have hne : e.i ≠ s.idx := fun h => (H.new q hq).1 (hqe.trans h)
  have hdst := sameDst_false (o := o) F.op (by rw [← hqe]; exact (H.new q hq).2)
  refine ⟨fun d hd => ?_, fun x hx => ?_, fun g want og d h1 h2 h3 => ?_, hdst, hne⟩
  · obtain ⟨h1, h2⟩ := F.dst d hd
    rw [hg d (fun h => hdst d h hd), hn]; exact ⟨h1, h2⟩
  · rw [← F.ev x hx]
    cases x with
    | tmp t => exact hg t fun h => notLook (looks_operand H.op h hx)
    | _ => rfl
  · rw [← F.gd g want og d h1 h2 h3]
    exact hg d fun h => notLook (looks_guard H.op h h1 h2 h3)

/-- The plan goes past an operation that the run has yet to do. -/
theorem XI.push {s : Step} {pl' : List Step} (X : XI cx P B fl ops R K β0 st0 w0 listed ls E pre (s :: pl') pend fr st β a w) {o : Oper} (H : HeadOk ops.toList pre s pl' o) {e : Pend} (hei : e.i = s.idx) (heo : e.o = o) {fr' : Fr} (hp : fr.put o.dst e.v = some fr')
    (hch : s.chain = false) {pend' : List (Nat × Nat × O)} {st' : St} (hheap : st'.heap = st.heap) (hnext : st.next ≤ st'.next) (hpp : ∀ p ∈ pend, p ∈ pend')
    (hpn : ∀ p ∈ pend', p ∈ pend ∨ (p.1 = e.i ∧ e.k = .new p.2.1 p.2.2 ∧ p.2.1 = st.next ∧ st.next < st'.next)) (hefr : e.fr = fr)
    (hpure : ∀ h, e.k = .pure h → pureOp cx ops.toList e.o e.fr h = some e.v ∧ (∀ id o, h.get id = some o → st'.heap.get id = some o ∨ ∃ j, (j, id, o) ∈ pend' ∧ Anc ops.toList e.i j) ∧ pend' = pend)
    (hnew : ∀ n ob, e.k = .new n ob → newOp cx ops.toList e.o e.fr n = some (e.v, ob) ∧ n = st.next ∧ n < st'.next ∧ (e.i, n, ob) ∈ pend')
    (hblk : e.k = .pure .nil ∨ isBlock s = true) (hrun : runPlan cx R fl ops.toList pl' pend' fr' st' (K .normal) = true) :
    XI cx P B fl ops R K β0 st0 w0 listed ls (e :: E) (s :: pre) pl' pend' fr' st' β a w := by
  obtain ⟨hlt, hnls, hnE⟩ := X.plNot s (by simp)
  obtain ⟨hn, hg1, hg2⟩ := put_get hp
  have hlow : ∀ p ∈ pend, p.2.1 < st.next := fun p hp => (X.pf p hp).1
  have hsame : ∀ id o, Src pend' ls st' id o ↔ Src pend ls st id o := fun id o => by
    unfold Src
    rw [hheap]
    constructor
    · rintro (h | ⟨j, h1, h2⟩)
      · exact .inl h
      · rcases hpn _ h1 with h1 | ⟨h3, _⟩
        · exact .inr ⟨j, h1, h2⟩
        · simp only at h3; rw [h3, hei] at h2; exact absurd h2 hnls
    · rintro (h | ⟨j, h1, h2⟩)
      · exact .inl h
      · exact .inr ⟨j, hpp _ h1, h2⟩
  have hsrc' : ∀ id o o', Src pend' ls st' id o → Src pend' ls st' id o' → o = o' := fun id o o' s1 s2 => X.src id o o' ((hsame id o).1 s1) ((hsame id o').1 s2)
  have hfrno : ∀ q ∈ pre, q.idx ≠ s.idx := fun q hq => (H.new q hq).1
  have notLook : ∀ j, looks ops.toList o j = true → j ≠ s.idx := fun j hj he => by
    rcases H.look j hj with ⟨_, q, hq, h2⟩ | ⟨h2, _⟩
    · exact hfrno q hq (h2.trans he)
    · exact h2 he
  have hno : ∀ x ∈ E, looks ops.toList x.o s.idx = true → False := fun x hx h => by
    obtain ⟨q, hq, hqe⟩ := (X.preI x.i).2 (.inr ⟨x, hx, rfl⟩)
    have := (H.seen q hq x.o (by rw [hqe]; exact (X.ef x hx).op) h).1
    rw [hch] at this; cases this
  refine ⟨X.size, X.lst, X.lt, H.rest, hrun, fun j => ?_, fun x hx' => ?_, X.ideal, ?_, hsrc', by rw [hn]; exact X.frn, fun t v hv hno => ?_, X.dfr, fun x hx' => ?_, fun x hx' y hy' hne => ?_, fun p hp' => ?_, X.down⟩
  · constructor
    · rintro ⟨q, hq, rfl⟩
      rcases List.mem_cons.1 hq with rfl | hq
      · exact .inr ⟨e, by simp, hei⟩
      · rcases (X.preI q.idx).1 ⟨q, hq, rfl⟩ with h | ⟨x, h1, h2⟩
        · exact .inl h
        · exact .inr ⟨x, by simp [h1], h2⟩
    · rintro (h | ⟨x, h1, h2⟩)
      · obtain ⟨q, hq, h3⟩ := (X.preI j).2 (.inl h)
        exact ⟨q, by simp [hq], h3⟩
      · rcases List.mem_cons.1 h1 with rfl | h1
        · exact ⟨s, by simp, hei.symm.trans h2⟩
        · obtain ⟨q, hq, h3⟩ := (X.preI j).2 (.inr ⟨x, h1, h2⟩)
          exact ⟨q, by simp [hq], h3⟩
  · rcases List.mem_cons.1 hx' with rfl | hx'
    · rw [hei]; exact hnls
    · exact X.disj x hx'
  · have hb := X.good.bump (n := st'.next) (by rw [insertAs_next]; exact hnext)
    refine hb.congr (by rw [insertAs_next]) fun id => ?_
    apply Option.ext
    intro ob
    rw [insertAs_iff hsrc', hsame, ← X.get]
  · have h1 : o.dst ≠ some t := heo ▸ hno e (by simp)
    rw [hg2 t h1] at hv
    exact X.frv t v hv fun x hx' => hno x (by simp [hx'])
  · rcases List.mem_cons.1 hx' with rfl | hx'
    · refine ⟨by rw [hei, heo]; exact H.op, fun d hd => ?_, fun y hy => ?_, fun g want og d h1 h2 h3 => ?_, fun j hj => ?_, fun h hk => ?_, fun n ob hk => ?_, ?_⟩
      · obtain ⟨h1, h2⟩ := hg1 d (heo ▸ hd)
        exact ⟨h2, by rw [hn]; exact h1⟩
      · rw [hefr]
        cases y with
        | tmp t => exact hg2 t fun h => notLook s.idx (looks_operand H.op h (heo ▸ hy)) rfl
        | _ => rfl
      · rw [hefr]
        exact hg2 d fun h => notLook s.idx (looks_guard H.op h (heo ▸ h1) h2 h3) rfl
      · rcases H.look j (heo ▸ hj) with ⟨h1, q, hq, h2⟩ | ⟨h1, h2⟩
        · exact .inl ⟨hei ▸ h1, q, by simp [hq], h2⟩
        · refine .inr fun q hq => ?_
          rcases List.mem_cons.1 hq with rfl | hq
          · exact fun h => h1 h.symm
          · exact h2 q hq
      · obtain ⟨h1, h2, h3⟩ := hpure h hk
        refine ⟨h1, h2, fun p hp' hc => ?_⟩
        rw [h3] at hp'
        rcases (X.pf p hp').2 with h4 | ⟨y, hy, h4, _⟩
        · rw [hc, hei] at h4; exact hnls h4
        · exact hnE y hy (by rw [h4, hc, hei])
      · obtain ⟨h1, h2, h3, h4⟩ := hnew n ob hk
        refine ⟨h1, ?_, h3, ?_, h4, fun p hp' hc => ?_⟩
        · rw [h2]; have := X.good.next; rw [insertAs_next] at this; exact this
        · rw [h2]; have := X.good.inv.fresh (id := st.next); exact this (by rw [insertAs_next]; exact Nat.le_refl _)
        · rcases hpn p hp' with h5 | ⟨h5, h6, _⟩
          · rcases hc with hc | hc
            · rcases (X.pf p h5).2 with h4 | ⟨y, hy, h4, _⟩
              · rw [hc, hei] at h4; exact absurd h4 hnls
              · exact absurd (by rw [h4, hc, hei]) (hnE y hy)
            · have := hlow p h5; omega
          · rw [hk] at h6
            cases h6
            obtain ⟨p1, p2, p3⟩ := p
            simp only at h5 ⊢
            rw [h5]
      · rcases hblk with h | h
        · exact .inl h
        · exact .inr ⟨s, by simp, hei.symm, h⟩
    · have F := X.ef x hx'
      obtain ⟨k1, k2, k3, _, k5⟩ := X.keeps H hp hx' (hno x hx')
      refine ⟨F.op, k1, k2, k3, fun j hj => ?_, fun h hk => ?_, fun n ob hk => ?_, ?_⟩
      · rcases F.look j hj with ⟨h1, q, hq, h2⟩ | h2
        · exact .inl ⟨h1, q, by simp [hq], h2⟩
        · refine .inr fun q hq => ?_
          rcases List.mem_cons.1 hq with rfl | hq
          · exact fun h => hno x hx' (h ▸ hj)
          · exact h2 q hq
      · obtain ⟨h1, h2, h3⟩ := F.pure h hk
        refine ⟨h1, fun id ob hid => ?_, fun p hp' hc => ?_⟩
        · rw [hheap]
          exact (h2 id ob hid).imp_right fun ⟨j, g1, g2⟩ => ⟨j, hpp _ g1, g2⟩
        · rcases hpn p hp' with h5 | ⟨h5, _⟩
          · exact h3 p h5 hc
          · exact k5 (by rw [← hc, h5, hei])
      · obtain ⟨h1, h2, h3, h4, h5, h6⟩ := F.new n ob hk
        refine ⟨h1, h2, Nat.lt_of_lt_of_le h3 hnext, h4, hpp _ h5, fun p hp' hc => ?_⟩
        rcases hpn p hp' with g | ⟨g1, _, g3, _⟩
        · exact h6 p g hc
        · rcases hc with hc | hc
          · exact absurd (by rw [← hc, g1, hei]) k5
          · omega
      · rcases F.blk with h | ⟨q, hq, h1, h2⟩
        · exact .inl h
        · exact .inr ⟨q, by simp [hq], h1, h2⟩
  · rcases List.mem_cons.1 hx' with hxe | hxE <;> rcases List.mem_cons.1 hy' with hye | hyE
    · exact absurd (by rw [hxe, hye]) hne
    · subst hxe
      obtain ⟨_, _, _, k4, _⟩ := X.keeps H hp hyE (hno y hyE)
      refine ⟨fun d hd => k4 d (heo ▸ hd), fun n ob n' ob' h1 h2 => ?_⟩
      have h3 := (hnew n ob h1).2.1
      have h4 := ((X.ef y hyE).new n' ob' h2).2.2.1
      omega
    · subst hye
      obtain ⟨_, _, _, k4, _⟩ := X.keeps H hp hxE (hno x hxE)
      refine ⟨fun d hd hc => k4 d (heo ▸ hc) hd, fun n ob n' ob' h1 h2 => ?_⟩
      have h3 := (hnew n' ob' h2).2.1
      have h4 := ((X.ef x hxE).new n ob h1).2.2.1
      omega
    · exact X.dd x hxE y hyE hne
  · rcases hpn p hp' with h | ⟨h1, h2, h3, h4⟩
    · obtain ⟨g1, g2⟩ := X.pf p h
      refine ⟨Nat.lt_of_lt_of_le g1 hnext, g2.imp_right fun ⟨y, hy, g3, g4⟩ => ⟨y, by simp [hy], g3, g4⟩⟩
    · exact ⟨by omega, .inr ⟨e, by simp, h1.symm, h2⟩⟩

theorem ops_toList {i : Nat} {o : Oper} (h : ops.toList[i]? = some o) : (match ops.toList[i]? with | some o => some o | none => none) = some o := by rw [h]

theorem XI.advance {s : Step} {pl' : List Step} (X : XI cx P B fl ops R K β0 st0 w0 listed ls E pre (s :: pl') pend fr st β a w) (hc : s.chain = false) :
    ∃ e pend' fr' st', XI cx P B fl ops R K β0 st0 w0 listed ls (e :: E) (s :: pre) pl' pend' fr' st' β a w := by
  obtain ⟨o, H⟩ := planCheck_cons X.chk
  have hrun := X.run
  cases s with
  | q i as => cases hc
  | w i => cases hc
  | p i =>
    have hop : ops.toList[i]? = some o := H.op
    simp only [runPlan, hop] at hrun
    split at hrun
    case h_2 => cases hrun
    rename_i v hv
    obtain ⟨fr', hp, hk⟩ := putK_some hrun
    exact ⟨⟨i, o, fr, v, .pure .nil⟩, pend, fr', st, X.push H (e := ⟨i, o, fr, v, .pure .nil⟩) rfl rfl hp rfl rfl (Nat.le_refl _) (fun _ h => h) (fun _ h => .inl h) rfl
      (fun h hk => by cases hk; exact ⟨hv, fun id o ho => by simp [T.get] at ho, rfl⟩) (fun n ob hk => by cases hk) (.inl rfl) hk⟩
  | r i as =>
    have hop : ops.toList[i]? = some o := H.op
    simp only [runPlan, hop] at hrun
    split at hrun
    case h_2 => cases hrun
    rename_i v hv
    obtain ⟨fr', hp, hk⟩ := putK_some hrun
    refine ⟨⟨i, o, fr, v, .pure (insertAs pend as st).heap⟩, pend, fr', st, X.push H (e := ⟨i, o, fr, v, .pure (insertAs pend as st).heap⟩) rfl rfl hp rfl rfl (Nat.le_refl _) (fun _ h => h) (fun _ h => .inl h) rfl
      (fun h hk => ?_) (fun n ob hk => by cases hk) (.inr rfl) hk⟩
    cases hk
    refine ⟨hv, fun id ob hid => ?_, rfl⟩
    exact (insertAs_get pend as st id ob hid).imp_right fun ⟨j, h1, h2⟩ => ⟨j, h1, H.rAs as rfl j h2⟩
  | a i =>
    have hop : ops.toList[i]? = some o := H.op
    simp only [runPlan, hop] at hrun
    split at hrun
    · rename_i v ob hv
      obtain ⟨fr', hp, hk⟩ := putK_some hrun
      refine ⟨⟨i, o, fr, v, .new st.next ob⟩, pend ++ [(i, st.next, ob)], fr', ⟨st.heap, st.next + 1⟩, X.push H (e := ⟨i, o, fr, v, .new st.next ob⟩) rfl rfl hp rfl rfl (Nat.le_succ _) (fun p h => by simp [h]) (fun p h => ?_) rfl
        (fun h hk => by cases hk) (fun n ob' hk => ?_) (.inr rfl) hk⟩
      · rcases List.mem_append.1 h with h | h
        · exact .inl h
        · rw [List.mem_singleton] at h; subst h
          exact .inr ⟨rfl, rfl, rfl, Nat.lt_succ_self _⟩
      · cases hk
        exact ⟨hv, rfl, Nat.lt_succ_self _, by simp⟩
    · split at hrun
      case h_2 => cases hrun
      rename_i v hv
      obtain ⟨fr', hp, hk⟩ := putK_some hrun
      exact ⟨⟨i, o, fr, v, .pure .nil⟩, pend, fr', st, X.push H (e := ⟨i, o, fr, v, .pure .nil⟩) rfl rfl hp rfl rfl (Nat.le_refl _) (fun _ h => h) (fun _ h => .inl h) rfl
        (fun h hk => by cases hk; exact ⟨hv, fun id o ho => by simp [T.get] at ho, rfl⟩) (fun n ob hk => by cases hk) (.inl rfl) hk⟩
end Go.Am
