/- The abstract machine: a region whose order is drawn, explored to its end; the code's rules with nothing left open. -/
import Derived.Test.YtbfonnoebbjenaaGreatDoorAmW
namespace Go.Am
open Go

variable {cx : Cx} {P : Program} {B fl : Nat} {ops : Array Oper} {R : RunT} {K : Exit → Fr → St → Bool} {β0 : Be} {st0 : St} {w0 : World}
variable {listed : Array Bool} {ls : List Nat} {E : List Pend} {pre pl : List Step} {pend : List (Nat × Nat × O)} {fr : Fr} {st : St} {β : Be} {a : Act} {w : World}

/-- A step of the chain has been done. -/
theorem XI.after {s : Step} {pl' : List Step} (X : XI cx P B fl ops R K β0 st0 w0 listed ls E pre (s :: pl') pend fr st β a w) {o : Oper} (H : HeadOk ops.toList pre s pl' o) (hr : ∀ x, edge ops.toList s.idx x = true → x ∈ ls)
    {v : V} {v' : Value} {fr' : Fr} {β' : Be} {w' : World} {pend' : List (Nat × Nat × O)} {st' : St} (hp : fr.put o.dst v = some fr') (hv : VRel β' v v') (hext : Ext β β') (hrun : runPlan cx R fl ops.toList pl' pend' fr' st' (K .normal) = true)
    (hG : Good cx B fl β0 st0 w0 β' (insertAs pend' (s.idx :: ls) st') w') (hsrc : ∀ id o o', Src pend' (s.idx :: ls) st' id o → Src pend' (s.idx :: ls) st' id o' → o = o')
    (hpf : ∀ p ∈ pend', p.2.1 < st'.next ∧ (p.1 ∈ ls ∨ ∃ e ∈ E, e.i = p.1 ∧ e.k = .new p.2.1 p.2.2))
    (hpure : ∀ e ∈ E, ∀ h, e.k = .pure h → (∀ id o, h.get id = some o → st'.heap.get id = some o ∨ ∃ j, (j, id, o) ∈ pend' ∧ Anc ops.toList e.i j) ∧ ∀ p ∈ pend', p.1 ≠ e.i)
    (hnew : ∀ e ∈ E, ∀ n ob, e.k = .new n ob → n < st'.next ∧ β' n = none ∧ (e.i, n, ob) ∈ pend' ∧ ∀ p ∈ pend', p.1 = e.i ∨ p.2.1 = n → p = (e.i, n, ob)) :
    XI cx P B fl ops R K β0 st0 w0 (listed.setIfInBounds s.idx true) (s.idx :: ls) E (s :: pre) pl' pend' fr' st' β' (a.put o.dst v') w' := by
  obtain ⟨hlt, hnls, hnE⟩ := X.plNot s (by simp)
  obtain ⟨hn, hg1, hg2⟩ := put_get hp
  refine ⟨by simp [X.size], X.edgeNone hlt, fun j hj => ?_, H.rest, hrun, fun j => ?_, fun x hx' hc => ?_, fun j hj x hxe => ?_, hG, hsrc, ?_, fun t u hu hno => ?_, by rw [put_defers]; exact X.dfr, fun x hx' => ?_, X.dd, fun p hp' => ?_, X.down⟩
  · rcases List.mem_cons.1 hj with rfl | hj
    · exact hlt
    · exact X.lt j hj
  · constructor
    · rintro ⟨q, hq, rfl⟩
      rcases List.mem_cons.1 hq with rfl | hq
      · exact .inl (by simp)
      · exact ((X.preI q.idx).1 ⟨q, hq, rfl⟩).imp_left fun h => by simp [h]
    · rintro (h | ⟨x, h1, h2⟩)
      · rcases List.mem_cons.1 h with rfl | h
        · exact ⟨s, by simp, rfl⟩
        · obtain ⟨q, hq, h3⟩ := (X.preI j).2 (.inl h)
          exact ⟨q, by simp [hq], h3⟩
      · obtain ⟨q, hq, h3⟩ := (X.preI j).2 (.inr ⟨x, h1, h2⟩)
        exact ⟨q, by simp [hq], h3⟩
  · rcases List.mem_cons.1 hc with hc | hc
    · exact hnE x hx' hc
    · exact X.disj x hx' hc
  · rcases List.mem_cons.1 hj with rfl | hj
    · exact List.mem_cons_of_mem _ (hr x hxe)
    · exact List.mem_cons_of_mem _ (X.ideal j hj x hxe)
  · rw [hn, X.frn]
    cases o.dst <;> simp [Act.put]
  · by_cases hd : o.dst = some t
    · obtain ⟨h1, h2⟩ := hg1 t hd
      rw [h2] at hu; cases hu
      rw [hd]
      have : t < a.tmps.size := by rw [← X.frn]; exact h1
      simpa [Act.put, Array.getD, this] using hv
    · rw [hg2 t hd] at hu
      have e1 : (a.put o.dst v').tmps.getD t undef = a.tmps.getD t undef := by
        cases hd' : o.dst with
        | none => rfl
        | some d =>
          have hne : d ≠ t := fun h => hd (by rw [hd', h])
          simp [Act.put, Array.getD_eq_getD_getElem?, Array.getElem?_setIfInBounds_ne hne]
      rw [e1]
      exact (X.frv t u hu hno).mono hext
  · have F := X.ef x hx'
    have hno : looks ops.toList x.o s.idx = true → False := fun h => by
      obtain ⟨q, hq, hqe⟩ := (X.preI x.i).2 (.inr ⟨x, hx', rfl⟩)
      have := (H.seen q hq x.o (by rw [hqe]; exact F.op) h).2
      rw [hqe] at this
      exact X.disj x hx' (X.done hr this)
    obtain ⟨k1, k2, k3, _, k5⟩ := X.keeps H hp hx' hno
    refine ⟨F.op, k1, k2, k3, fun j hj => ?_, fun h hk => ⟨(F.pure h hk).1, hpure x hx' h hk⟩, fun n ob hk => ⟨(F.new n ob hk).1, (F.new n ob hk).2.1, hnew x hx' n ob hk⟩, ?_⟩
    · rcases F.look j hj with ⟨h1, q, hq, h2⟩ | h2
      · exact .inl ⟨h1, q, by simp [hq], h2⟩
      · refine .inr fun q hq => ?_
        rcases List.mem_cons.1 hq with rfl | hq
        · exact fun h => hno (h ▸ hj)
        · exact h2 q hq
    · rcases F.blk with h | ⟨q, hq, h1, h2⟩
      · exact .inl h
      · exact .inr ⟨q, by simp [hq], h1, h2⟩
  · exact ⟨(hpf p hp').1, (hpf p hp').2.imp_left fun h => by simp [h]⟩

theorem XI.chainQ (hx : CxOk cx P) (hp : PrimsOk cx P B) (hR : CodeOk cx P B R) (hfl : fl ≤ st0.next) {i : Nat} {as : List Nat} {pl' : List Step} (X : XI cx P B fl ops R K β0 st0 w0 listed ls E pre (.q i as :: pl') pend fr st β a w) (hr : ∀ x, edge ops.toList i x = true → x ∈ ls) (Q : Exit → Act → World → Prop) :
    wpOp P ops Q i (fun a' w' => ∃ pre' pend' fr' st' β', XI cx P B fl ops R K β0 st0 w0 (listed.setIfInBounds i true) (i :: ls) E pre' pl' pend' fr' st' β' a' w') a w := by
  obtain ⟨o, H⟩ := planCheck_cons X.chk
  have hop : ops.toList[i]? = some o := H.op
  obtain ⟨hlt, hnls, hnE⟩ := X.plNot (.q i as) (by simp)
  have hrun := X.run
  simp only [runPlan, hop] at hrun
  obtain ⟨hev, hgd⟩ := X.opsOk (i := i) (o := o) hr fun j hj => (H.look j hj).imp (·.1) (·.2)
  have hN : (insertAs pend as st).next = st.next := insertAs_next ..
  have hXN : (insertAs pend ls st).next = st.next := insertAs_next ..
  have hsub : ∀ id o, (insertAs pend as st).heap.get id = some o → (insertAs pend ls st).heap.get id = some o := fun id o ho => by
    rw [X.get]
    exact (insertAs_get pend as st id o ho).imp_right fun ⟨j, h1, h2⟩ => ⟨j, h1, X.done hr (H.qAs as rfl j h2)⟩
  have hst : ∀ id o, st.heap.get id = some o → (insertAs pend as st).heap.get id = some o := fun id o ho => by
    obtain ⟨o', ho'⟩ := insertAs_some pend as st id o (.inl ho)
    rw [ho', X.src id o o' (.inl ho) ((X.get id o').1 (hsub id o' ho'))]
  have hinv := X.good.inv.less (st' := insertAs pend as st) (by rw [hN, hXN]; exact Nat.le_refl _) hsub
  refine wpOp_mono ?_ (runOp_ok (fl := st.next) hx hp hR (XI.ops_get ops hop) hrun (by rw [hN]; exact Nat.le_refl _) hinv hev hgd Q)
  rintro a' w' ⟨v, v', st', β', rfl, hv, G, hput⟩
  obtain ⟨fr', hfr', hrun'⟩ := putK_some hput
  have hnoI : ∀ p ∈ pend, p.1 ≠ i := fun p hp' hc => by
    rcases (X.pf p hp').2 with h | ⟨e, he, h, _⟩
    · rw [hc] at h; exact hnls h
    · exact hnE e he (h.trans hc)
  have hlow : ∀ id o, st.heap.get id = some o → id < st.next := fun id o ho => by
    have := get_lt X.good.inv (hsub id o (hst id o ho)); rw [hXN] at this; exact this
  have hkeep : ∀ id, id < st.next → ∀ o, st'.heap.get id = some o → (insertAs pend ls st).heap.get id = some o := fun id hid o ho => hsub id o (by rw [← G.keep id hid]; exact ho)
  have hS : ∀ id o, Src pend (i :: ls) st' id o → (id < st.next ∧ (insertAs pend ls st).heap.get id = some o) ∨ (st.next ≤ id ∧ st'.heap.get id = some o) := fun id o h => by
    rcases h with h | ⟨j, h1, h2⟩
    · by_cases hid : id < st.next
      · exact .inl ⟨hid, hkeep id hid o h⟩
      · exact .inr ⟨by omega, h⟩
    · rcases List.mem_cons.1 h2 with rfl | h2
      · exact absurd rfl (hnoI _ h1)
      · exact .inl ⟨(X.pf _ h1).1, (X.get id o).2 (.inr ⟨j, h1, h2⟩)⟩
  have hsrc' : ∀ id o o', Src pend (i :: ls) st' id o → Src pend (i :: ls) st' id o' → o = o' := fun id o o' s1 s2 => by
    rcases hS id o s1 with ⟨h1, h2⟩ | ⟨h1, h2⟩ <;> rcases hS id o' s2 with ⟨h3, h4⟩ | ⟨h3, h4⟩
    · rw [h2] at h4; exact Option.some.inj h4
    · omega
    · omega
    · rw [h2] at h4; exact Option.some.inj h4
  have hback : ∀ id o, (insertAs pend ls st).heap.get id = some o → (insertAs pend (i :: ls) st').heap.get id = some o := fun id o ho => by
    rw [insertAs_iff hsrc']
    rcases (X.get id o).1 ho with h | ⟨j, h1, h2⟩
    · refine .inl ?_
      rw [G.keep id (hlow id o h)]; exact hst id o h
    · exact .inr ⟨j, h1, by simp [h2]⟩
  have hGY : Good cx B fl β (insertAs pend ls st) w β' (insertAs pend (i :: ls) st') w' := by
    refine Good.grow (N := st.next) X.good.inv hXN hN G hsub (insertAs_next ..) (fun id o ho => hS id o ((insertAs_iff hsrc' id o).1 ho)) fun id hid => ?_
    have hid' : id < st.next := by
      have := X.good.next; rw [hXN] at this; omega
    apply Option.ext
    intro o
    constructor
    · intro ho
      rcases hS id o ((insertAs_iff hsrc' id o).1 ho) with h | h
      · exact h.2
      · omega
    · exact hback id o
  refine ⟨.q i as :: pre, pend, fr', st', β', X.after H hr hfr' hv G.ext hrun' (X.good.trans hGY) hsrc' (fun p hp' => ⟨Nat.lt_of_lt_of_le (X.pf p hp').1 (hN ▸ G.next), (X.pf p hp').2⟩) (fun e he h hk => ?_) fun e he n ob hk => ?_⟩
  · obtain ⟨_, h2, h3⟩ := (X.ef e he).pure h hk
    refine ⟨fun id o ho => (h2 id o ho).imp_left fun g => ?_, h3⟩
    rw [G.keep id (hlow id o g)]; exact hst id o g
  · obtain ⟨_, _, h3, h4, h5, h6⟩ := (X.ef e he).new n ob hk
    exact ⟨Nat.lt_of_lt_of_le h3 (hN ▸ G.next), by rw [G.old n (by rw [hN]; exact h3)]; exact h4, h5, h6⟩

theorem XI.chainW (hx : CxOk cx P) (hp : PrimsOk cx P B) (hR : CodeOk cx P B R) (hfl : fl ≤ st0.next) {i : Nat} {pl' : List Step} (X : XI cx P B fl ops R K β0 st0 w0 listed ls E pre (.w i :: pl') pend fr st β a w) (hr : ∀ x, edge ops.toList i x = true → x ∈ ls) (Q : Exit → Act → World → Prop) :
    wpOp P ops Q i (fun a' w' => ∃ pre' pend' fr' st' β', XI cx P B fl ops R K β0 st0 w0 (listed.setIfInBounds i true) (i :: ls) E pre' pl' pend' fr' st' β' a' w') a w := by
  obtain ⟨o, H⟩ := planCheck_cons X.chk
  have hop : ops.toList[i]? = some o := H.op
  have hrun := X.run
  simp only [runPlan, hop] at hrun
  obtain ⟨hev, hgd⟩ := X.opsOk (i := i) (o := o) hr fun j hj => (H.look j hj).imp (·.1) (·.2)
  have hE : ∀ e ∈ E, e.k = .pure .nil := fun e he => by
    rcases (X.ef e he).blk with h | ⟨q, hq, h1, h2⟩
    · exact h
    · have h3 : q.idx ∈ ls := X.done hr (H.wAll rfl q hq h2)
      rw [h1] at h3
      exact absurd h3 (X.disj e he)
  have hall : ∀ p ∈ pend, p.1 ∈ ls := fun p hp' => by
    rcases (X.pf p hp').2 with h | ⟨e, he, _, h⟩
    · exact h
    · rw [hE e he] at h; cases h
  have heq := insertAs_all pend ls st hall
  rw [← heq] at hrun
  refine wpOp_mono ?_ (runOp_ok (fl := fl) hx hp hR (XI.ops_get ops hop) hrun (Nat.le_trans hfl X.good.next) X.good.inv hev hgd Q)
  rintro a' w' ⟨v, v', st', β', rfl, hv, G, hput⟩
  obtain ⟨fr', hfr', hrun'⟩ := putK_some hput
  refine ⟨.w i :: pre, [], fr', st', β', X.after H hr hfr' hv G.ext hrun' (X.good.trans G) (fun id o o' s1 s2 => ?_) (fun p hp' => by cases hp') (fun e he h hk => ?_) fun e he n ob hk => ?_⟩
  · rcases s1 with s1 | ⟨_, s1, _⟩
    · rcases s2 with s2 | ⟨_, s2, _⟩
      · rw [s1] at s2; exact Option.some.inj s2
      · cases s2
    · cases s1
  · rw [hE e he] at hk; cases hk
    exact ⟨fun id o ho => by simp [T.get] at ho, fun p hp' => by cases hp'⟩
  · rw [hE e he] at hk; cases hk

/-- All has been done. -/
theorem XI.finish (X : XI cx P B fl ops R K β0 st0 w0 listed ls E pre pl pend fr st β a w) (h : Region.ready .any ops listed = []) : Post cx B fl β0 st0 w0 K .normal a w := by
  have hall := X.over h
  have hE : E = [] := by
    cases hE : E with
    | nil => rfl
    | cons e E' =>
      have he : e ∈ E := by rw [hE]; simp
      have := (X.ef e he).op
      have hlt : e.i < ops.size := (Array.getElem?_eq_some_iff.1 (XI.ops_get ops this)).1
      exact absurd (hall e.i hlt) (X.disj e he)
  have hpl : pl = [] := by
    cases hpl : pl with
    | nil => rfl
    | cons s pl' =>
      obtain ⟨h1, h2, _⟩ := X.plNot s (by rw [hpl]; simp)
      exact absurd (hall s.idx h1) h2
  subst hE hpl
  have hrun := X.run
  simp only [runPlan] at hrun
  have heq := insertAs_all pend ls st fun p hp => by
    rcases (X.pf p hp).2 with h | ⟨e, he, _⟩
    · exact h
    · cases he
  rw [← heq] at hrun
  exact ⟨fr, _, β, hrun, X.good, ⟨X.frn, fun t v hv => X.frv t v hv fun e he => by cases he⟩, X.dfr⟩

theorem explore (hx : CxOk cx P) (hp : PrimsOk cx P B) (hR : CodeOk cx P B R) (hfl : fl ≤ st0.next) : ∀ (fuel : Nat) (pl : List Step) (listed : Array Bool) (ls : List Nat) (E : List Pend) (pre : List Step) (pend : List (Nat × Nat × O)) (fr : Fr) (st : St) (β : Be) (a : Act) (w : World),
    XI cx P B fl ops R K β0 st0 w0 listed ls E pre pl pend fr st β a w → E.length + pl.length ≤ fuel → wpAny P .any ops (Post cx B fl β0 st0 w0 K) fuel listed a w
  | fuel, s :: pl', listed, ls, E, pre, pend, fr, st, β, a, w, X, hm => by
    cases hc : s.chain with
    | false =>
      obtain ⟨e, pend', fr', st', X'⟩ := X.advance hc
      exact explore hx hp hR hfl fuel pl' listed ls _ _ _ _ _ β a w X' (by simp only [List.length_cons] at hm ⊢; omega)
    | true =>
      cases fuel with
      | zero => simp at hm
      | succ fuel =>
        refine ⟨X.finish, fun i hi => ?_⟩
        obtain ⟨h1, h2, h3⟩ := X.ready.1 hi
        obtain ⟨o, H⟩ := planCheck_cons X.chk
        by_cases he : ∃ e ∈ E, e.i = i
        · obtain ⟨e, he, rfl⟩ := he
          refine wpOp_mono ?_ (X.realize hx hfl he h3 _)
          rintro a' w' ⟨β', E', hlen, X'⟩
          exact explore hx hp hR hfl fuel (s :: pl') _ _ _ _ _ _ _ β' a' w' X' (by simp only [List.length_cons] at hm ⊢; omega)
        · have hsi : s.idx = i := by
            rcases planCheck_all X.chk i (by simpa using h1) with ⟨q, hq, hqe⟩ | ⟨q, hq, hqe⟩
            · rcases (X.preI i).1 ⟨q, hq, hqe⟩ with h | h
              · exact absurd h h2
              · exact absurd h he
            · rcases List.mem_cons.1 hq with rfl | hq
              · exact hqe
              · obtain ⟨x, hx1, hx2⟩ := allWait_edge (H.wait hc) (fun x hx' => by
                  rw [List.mem_singleton] at hx'; subst hx'
                  exact (X.plNot s (by simp)).2.1) (fun q hq => (X.plNot q (by simp [hq])).2.1) q hq
                rw [hqe] at hx1
                exact absurd (h3 x hx1) hx2
          cases s with
          | q j as =>
            have : j = i := hsi
            subst this
            refine wpOp_mono ?_ (X.chainQ hx hp hR hfl h3 _)
            rintro a' w' ⟨pre', pend', fr', st', β', X'⟩
            exact explore hx hp hR hfl fuel pl' _ _ _ _ _ _ _ β' a' w' X' (by simp only [List.length_cons] at hm ⊢; omega)
          | w j =>
            have : j = i := hsi
            subst this
            refine wpOp_mono ?_ (X.chainW hx hp hR hfl h3 _)
            rintro a' w' ⟨pre', pend', fr', st', β', X'⟩
            exact explore hx hp hR hfl fuel pl' _ _ _ _ _ _ _ β' a' w' X' (by simp only [List.length_cons] at hm ⊢; omega)
          | p j => cases hc
          | r j as => cases hc
          | a j => cases hc
  | 0, [], listed, ls, E, pre, pend, fr, st, β, a, w, X, hm => by
    have hE : E = [] := by
      cases E with
      | nil => rfl
      | cons e E => simp at hm
    subst hE
    have hr : Region.ready .any ops listed = [] := by
      cases hc : Region.ready .any ops listed with
      | nil => rfl
      | cons i l =>
        have hi : i ∈ Region.ready .any ops listed := by rw [hc]; simp
        obtain ⟨h1, h2, _⟩ := X.ready.1 hi
        rcases planCheck_all X.chk i (by simpa using h1) with ⟨q, hq, hqe⟩ | ⟨q, hq, _⟩
        · rcases (X.preI i).1 ⟨q, hq, hqe⟩ with h | ⟨e, he, _⟩
          · exact absurd h h2
          · cases he
        · cases hq
    exact ⟨hr, X.finish hr⟩
  | fuel + 1, [], listed, ls, E, pre, pend, fr, st, β, a, w, X, hm => by
    refine ⟨X.finish, fun i hi => ?_⟩
    obtain ⟨h1, h2, h3⟩ := X.ready.1 hi
    rcases planCheck_all X.chk i (by simpa using h1) with ⟨q, hq, hqe⟩ | ⟨q, hq, _⟩
    · rcases (X.preI i).1 ⟨q, hq, hqe⟩ with h | ⟨e, he, rfl⟩
      · exact absurd h h2
      · refine wpOp_mono ?_ (X.realize hx hfl he h3 _)
        rintro a' w' ⟨β', E', hlen, X'⟩
        exact explore hx hp hR hfl fuel [] _ _ _ _ _ _ _ β' a' w' X' (by simp only [List.length_nil, Nat.add_zero] at hm ⊢; omega)
    · cases hq
termination_by fuel pl => (fuel, pl.length)

theorem plan_length {ops : List Oper} : ∀ {pl pre : List Step}, planCheck ops pre pl = true → (pre.map Step.idx).Nodup → (∀ s ∈ pre, s.idx < ops.length) → ((pl.reverse ++ pre).map Step.idx).Nodup ∧ ∀ s ∈ pl.reverse ++ pre, s.idx < ops.length
  | [], pre, _, h1, h2 => by simpa using ⟨h1, h2⟩
  | s :: pl, pre, h, h1, h2 => by
    obtain ⟨o, H⟩ := planCheck_cons h
    have := plan_length H.rest (by
      simp only [List.map_cons, List.nodup_cons]
      refine ⟨fun hc => ?_, h1⟩
      obtain ⟨q, hq, he⟩ := List.mem_map.1 hc
      exact (H.new q hq).1 he) (fun q hq => by
        rcases List.mem_cons.1 hq with rfl | hq
        · exact (List.getElem?_eq_some_iff.1 H.op).1
        · exact h2 q hq)
    simpa using this

theorem nodup_le : ∀ (n : Nat) (l : List Nat), l.Nodup → (∀ x ∈ l, x < n) → l.length ≤ n
  | 0, [], _, _ => Nat.le_refl _
  | 0, x :: l, _, h => absurd (h x (by simp)) (by omega)
  | n + 1, l, hn, h => by
    have h1 : (l.filter fun x => !(x == n)).length ≤ n := nodup_le n _ (hn.filter _) fun x hx => by
      simp only [List.mem_filter, Bool.not_eq_true', beq_eq_false_iff_ne] at hx
      have := h x hx.1; omega
    have h2 : l.length ≤ (l.filter fun x => !(x == n)).length + 1 := by
      clear h h1
      induction l with
      | nil => simp
      | cons x l ih =>
        obtain ⟨h3, h4⟩ := List.nodup_cons.1 hn
        by_cases e : x = n
        · subst e
          have : l.filter (fun y => !(y == x)) = l := List.filter_eq_self.2 fun y hy => by
            have : y ≠ x := fun e => h3 (e ▸ hy)
            simpa using this
          simp [this]
        · have := ih h4
          simp only [List.filter_cons, e, Bool.not_eq_true', beq_eq_false_iff_ne, ne_eq, not_false_eq_true, if_true, List.length_cons]
          omega
    omega

theorem plan_ok (hm : P.follows .mixedOrders = true) (hx : CxOk cx P) (hp : PrimsOk cx P B) : PlanOk cx P B := by
  intro R hR fl id ops pl fr st K hc hrun hfl a w β hinv hf hd
  refine wp_region_any hm ?_
  have hlen : pl.length ≤ ops.size := by
    obtain ⟨h1, h2⟩ := plan_length hc (by simp) (by simp)
    have := nodup_le ops.toList.length _ h1 fun x hx => by
      obtain ⟨s, hs, rfl⟩ := List.mem_map.1 hx
      exact h2 s hs
    simpa using this
  have hinv' : Inv cx B β st { w with drawn := w.drawn + 1 } := ⟨hinv.low, hinv.live, hinv.inj, hinv.base, hinv.size, hinv.facts⟩
  have hG : Good cx B fl β st w β st { w with drawn := w.drawn + 1 } :=
    ⟨Ext.refl _, fun _ _ => rfl, hinv', fun _ _ => rfl, Nat.le_refl _, rfl, rfl, rfl, Nat.le_refl _, fun _ _ _ => rfl, fun id o b e h1 h2 h3 => .inr ⟨id, o, e, h1, h2, h3⟩⟩
  refine explore (P := P) (K := K) (R := R) hx hp hR hfl ops.size pl _ [] [] [] [] fr st β a _ (β0 := β) (st0 := st) (w0 := w) ⟨by simp, fun j hj => ?_, by simp, hc, hrun, fun j => by simp, by simp, by simp, ?_, ?_, hf.size, fun t v hv _ => hf.val t v hv, hd, by simp, by simp, by simp, fun j hj => ?_⟩ (by simpa using hlen)
  · simp [Array.getD, hj]
  · exact hG
  · intro id o o' s1 s2
    rcases s1 with s1 | ⟨_, s1, _⟩
    · rcases s2 with s2 | ⟨_, s2, _⟩
      · rw [s1] at s2; exact Option.some.inj s2
      · cases s2
    · cases s1
  · rcases planCheck_all hc j (by simpa using hj) with ⟨q, hq, _⟩ | ⟨q, hq, rfl⟩
    · cases hq
    · exact (planCheck_new hc q hq).2.1

/-- The evaluator's word is the model's, for every code. -/
theorem run_ok (hm : P.follows .mixedOrders = true) (hx : CxOk cx P) (hp : PrimsOk cx P B) (n : Nat) : CodeOk cx P B (run cx n) := (code_ok hx hp (plan_ok hm hx hp) n).1

/-- The evaluator's word for a call. -/
theorem call_ok (hm : P.follows .mixedOrders = true) (hx : CxOk cx P) (hp : PrimsOk cx P B) {n : Nat} {f : FuncId} {args : List V} {args' : Array Value} {K : V → St → Bool} (hk : callF cx (run cx n) fl f args st K = true) (hfl : fl ≤ st.next)
    (h : Inv cx B β st w) (ha : All2 (VRel β) args args'.toList) : CallRet P f args' w fun v' w' => ∃ v st' β', K v st' = true ∧ VRel β' v v' ∧ Good cx B fl β st w β' st' w' := callF_ok hx hp (run_ok hm hx hp n) hk hfl h ha
end Go.Am
