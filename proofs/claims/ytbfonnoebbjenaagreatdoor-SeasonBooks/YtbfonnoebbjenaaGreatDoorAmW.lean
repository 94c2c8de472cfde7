/- The abstract machine: a region whose order is drawn, explored. The abstract machine: a region whose order is drawn, explored: the steps of the plan. -/
import Derived.Test.YtbfonnoebbjenaaGreatDoorAmU
namespace Go.Am
open Go

inductive PKind where
  | pure (h : T O)
  | new (n : Nat) (ob : O)

/-- An operation that the plan has passed and the run has not. -/
structure Pend where
  i : Nat
  o : Oper
  fr : Fr
  v : V
  k : PKind

/-- What is known of it. -/
structure EFact (cx : Cx) (ops : List Oper) (nx0 : Nat) (pre : List Step) (pend : List (Nat × Nat × O)) (fr : Fr) (st : St) (β : Be) (e : Pend) : Prop where
  op : ops[e.i]? = some e.o
  dst : ∀ d, e.o.dst = some d → fr.get d = some e.v ∧ d < fr.n
  ev : ∀ x ∈ e.o.op.operands.toList, ev fr x = ev e.fr x
  gd : ∀ g want og d, e.o.guard = some (g, want) → ops[g]? = some og → og.dst = some d → fr.get d = e.fr.get d
  look : ∀ j, looks ops e.o j = true → (Anc ops e.i j ∧ ∃ q ∈ pre, q.idx = j) ∨ ∀ q ∈ pre, q.idx ≠ j
  pure : ∀ h, e.k = .pure h → pureOp cx ops e.o e.fr h = some e.v ∧ (∀ id o, h.get id = some o → st.heap.get id = some o ∨ ∃ j, (j, id, o) ∈ pend ∧ Anc ops e.i j) ∧ ∀ p ∈ pend, p.1 ≠ e.i
  new : ∀ n ob, e.k = .new n ob → newOp cx ops e.o e.fr n = some (e.v, ob) ∧ nx0 ≤ n ∧ n < st.next ∧ β n = none ∧ (e.i, n, ob) ∈ pend ∧ ∀ p ∈ pend, p.1 = e.i ∨ p.2.1 = n → p = (e.i, n, ob)
  blk : e.k = .pure .nil ∨ ∃ q ∈ pre, q.idx = e.i ∧ isBlock q = true

/-- How the run and the plan stand to each other. -/
structure XI (cx : Cx) (P : Program) (B fl : Nat) (ops : Array Oper) (R : RunT) (K : Exit → Fr → St → Bool) (β0 : Be) (st0 : St) (w0 : World)
    (listed : Array Bool) (ls : List Nat) (E : List Pend) (pre pl : List Step) (pend : List (Nat × Nat × O)) (fr : Fr) (st : St) (β : Be) (a : Act) (w : World) : Prop where
  size : listed.size = ops.size
  lst : ∀ j, j < ops.size → (listed.getD j true = true ↔ j ∈ ls)
  lt : ∀ j ∈ ls, j < ops.size
  chk : planCheck ops.toList pre pl = true
  run : runPlan cx R fl ops.toList pl pend fr st (K .normal) = true
  preI : ∀ j, (∃ s ∈ pre, s.idx = j) ↔ (j ∈ ls ∨ ∃ e ∈ E, e.i = j)
  disj : ∀ e ∈ E, e.i ∉ ls
  ideal : ∀ j ∈ ls, ∀ x, edge ops.toList j x = true → x ∈ ls
  good : Good cx B fl β0 st0 w0 β (insertAs pend ls st) w
  src : ∀ id o o', Src pend ls st id o → Src pend ls st id o' → o = o'
  frn : fr.n = a.tmps.size
  frv : ∀ t v, fr.get t = some v → (∀ e ∈ E, e.o.dst ≠ some t) → VRel β v (a.tmps.getD t undef)
  dfr : a.defers = []
  ef : ∀ e ∈ E, EFact cx ops.toList st0.next pre pend fr st β e
  dd : ∀ e ∈ E, ∀ e' ∈ E, e.i ≠ e'.i → (∀ d, e.o.dst = some d → e'.o.dst ≠ some d) ∧ ∀ n ob n' ob', e.k = .new n ob → e'.k = .new n' ob' → n ≠ n'
  pf : ∀ p ∈ pend, p.2.1 < st.next ∧ (p.1 ∈ ls ∨ ∃ e ∈ E, e.i = p.1 ∧ e.k = .new p.2.1 p.2.2)
  down : ∀ j, j < ops.size → ∀ x, edge ops.toList j x = true → x < j

section
variable {cx : Cx} {P : Program} {B fl : Nat} {ops : Array Oper} {R : RunT} {K : Exit → Fr → St → Bool} {β0 : Be} {st0 : St} {w0 : World}
variable {listed : Array Bool} {ls : List Nat} {E : List Pend} {pre pl : List Step} {pend : List (Nat × Nat × O)} {fr : Fr} {st : St} {β : Be} {a : Act} {w : World}

theorem XI.get (X : XI cx P B fl ops R K β0 st0 w0 listed ls E pre pl pend fr st β a w) (id : Nat) (o : O) : (insertAs pend ls st).heap.get id = some o ↔ Src pend ls st id o := insertAs_iff X.src id o

theorem XI.plNot (X : XI cx P B fl ops R K β0 st0 w0 listed ls E pre pl pend fr st β a w) : ∀ s ∈ pl, s.idx < ops.size ∧ s.idx ∉ ls ∧ ∀ e ∈ E, e.i ≠ s.idx := by
  intro s hs
  obtain ⟨h1, _, h3⟩ := planCheck_new X.chk s hs
  refine ⟨by simpa using h1, fun hc => ?_, fun e he hc => ?_⟩
  · obtain ⟨q, hq, e⟩ := (X.preI s.idx).2 (.inl hc)
    exact h3 q hq e
  · obtain ⟨q, hq, e'⟩ := (X.preI s.idx).2 (.inr ⟨e, he, hc⟩)
    exact h3 q hq e'

theorem XI.ready (X : XI cx P B fl ops R K β0 st0 w0 listed ls E pre pl pend fr st β a w) {j : Nat} : j ∈ Region.ready .any ops listed ↔ j < ops.size ∧ j ∉ ls ∧ ∀ x, edge ops.toList j x = true → x ∈ ls := by
  rw [mem_ready]
  have getF : ∀ j, listed.getD j false = true ↔ j ∈ ls := fun j => by
    by_cases hj : j < ops.size
    · have hj' : j < listed.size := by rw [X.size]; exact hj
      rw [← X.lst j hj]
      simp [Array.getD, hj']
    · have hj' : ¬ j < listed.size := by rw [X.size]; exact hj
      constructor
      · intro h; simp [Array.getD, hj'] at h
      · intro h; exact absurd (X.lt j h) hj
  constructor
  · rintro ⟨h1, o, ho, h2⟩
    have hj : j < ops.size := (Array.getElem?_eq_some_iff.1 ho).1
    refine ⟨hj, fun hc => ?_, fun x hx => ?_⟩
    · rw [(X.lst j hj).2 hc] at h1; cases h1
    · unfold Am.edge at hx
      have ho' : ops.toList[j]? = some o := by simpa using ho
      rw [ho'] at hx
      simp only at hx
      obtain ⟨e, he, hb⟩ := List.any_eq_true.1 hx
      simp only [Bool.and_eq_true] at hb
      have := (getF e.on).1 (h2 e (by simpa using he) hb.1)
      rwa [Nat.eq_of_beq_eq_true hb.2] at this
  · rintro ⟨hj, h1, h2⟩
    refine ⟨?_, ops[j], by simp [hj], fun e he hb => (getF e.on).2 (h2 e.on ?_)⟩
    · cases hc : listed.getD j true with
      | false => rfl
      | true => exact absurd ((X.lst j hj).1 hc) h1
    · unfold Am.edge
      have ho' : ops.toList[j]? = some ops[j] := by simp [hj]
      rw [ho']
      exact List.any_eq_true.2 ⟨e, by simpa using he, by simp [hb]⟩

/-- Nothing is ready: all has been done. -/
theorem XI.over (X : XI cx P B fl ops R K β0 st0 w0 listed ls E pre pl pend fr st β a w) (h : Region.ready .any ops listed = []) : ∀ j, j < ops.size → j ∈ ls := by
  intro j
  induction j using Nat.strongRecOn with
  | _ j ih =>
    intro hj
    by_cases hc : j ∈ ls
    · exact hc
    · have : j ∈ Region.ready .any ops listed := X.ready.2 ⟨hj, hc, fun x hx => ih x (X.down j hj x hx) (Nat.lt_trans (X.down j hj x hx) hj)⟩
      rw [h] at this; cases this

theorem XI.ops_get (ops : Array Oper) {j : Nat} {o : Oper} (h : ops.toList[j]? = some o) : ops[j]? = some o := by simpa using h

/-- What is looked at by one that is ready has been done. -/
theorem XI.done (X : XI cx P B fl ops R K β0 st0 w0 listed ls E pre pl pend fr st β a w) {i : Nat} (hi : ∀ x, edge ops.toList i x = true → x ∈ ls) {j : Nat} (h : Anc ops.toList i j) : j ∈ ls := anc_listed X.ideal hi h

theorem looks_operand {ops : List Oper} {o oj : Oper} {j : Nat} {t : Tmp} (hj : ops[j]? = some oj) (hd : oj.dst = some t) (h : Operand.tmp t ∈ o.op.operands.toList) : looks ops o j = true := by
  unfold looks
  rw [hj]
  simp only [hd]
  have : o.op.operands.toList.any (tmpIs t) = true := List.any_eq_true.2 ⟨_, h, by simp [tmpIs]⟩
  rw [this]; rfl

theorem looks_guard {ops : List Oper} {o oj og : Oper} {j g : Nat} {want : Bool} {t : Tmp} (hj : ops[j]? = some oj) (hd : oj.dst = some t) (hg : o.guard = some (g, want)) (hog : ops[g]? = some og) (hgd : og.dst = some t) : looks ops o j = true := by
  unfold looks
  rw [hj]
  simp only [hd, hg, hog, hgd]
  simp

/-- The operands and the guard of one that is ready. -/
theorem XI.opsOk (X : XI cx P B fl ops R K β0 st0 w0 listed ls E pre pl pend fr st β a w) {i : Nat} {o : Oper} (hi : ∀ x, edge ops.toList i x = true → x ∈ ls) (hl : ∀ j, looks ops.toList o j = true → Anc ops.toList i j ∨ ∀ q ∈ pre, q.idx ≠ j) :
    EvOk β fr a o.op.operands.toList ∧ GuardOk β ops.toList o fr a := by
  have key : ∀ t, (∀ e ∈ E, e.o.dst = some t → looks ops.toList o e.i = true) → ∀ e ∈ E, e.o.dst ≠ some t := fun t ht e he hd =>
by
    rcases hl e.i (ht e he hd) with h | h
    · exact X.disj e he (X.done hi h)
    · obtain ⟨q, hq, hqe⟩ := (X.preI e.i).2 (.inr ⟨e, he, rfl⟩)
      exact h q hq hqe
  refine ⟨fun x hx v hv => ?_, fun g want og d v h1 h2 h3 h4 => ?_⟩
  · cases x with
    | tmp t => exact X.frv t v hv (key t fun e he hd => looks_operand (X.ef e he).op hd hx)
    | const u =>
      simp only [ev] at hv
      cases hs : scal u with
      | false => rw [hs] at hv; simp at hv
      | true => rw [hs] at hv; simp only [cond_true, Option.some.injEq] at hv; subst hv; rfl
    | global g => simp only [ev, Option.some.injEq] at hv; subst hv; rfl
    | func f => simp only [ev, Option.some.injEq] at hv; subst hv; exact ⟨[], trivial, rfl⟩
  · exact X.frv d v h4 (key d fun e he hd => looks_guard (X.ef e he).op hd h1 h2 h3)


theorem XI.edgeNone (X : XI cx P B fl ops R K β0 st0 w0 listed ls E pre pl pend fr st β a w) {j : Nat} (hj : j < ops.size) : ∀ k, k < ops.size → ((listed.setIfInBounds j true).getD k true = true ↔ k ∈ j :: ls) := by
  intro k hk
  have hj' : j < listed.size := by rw [X.size]; exact hj
  by_cases e : j = k
  · subst e
    simp [Array.getD, hj']
  · rw [getD_set_ne true e, X.lst k hk]
    constructor
    · intro h; exact List.mem_cons_of_mem _ h
    · intro h; rcases List.mem_cons.1 h with h | h
      · exact absurd h.symm e
      · exact h

/-- A pending operation is done at last. -/
theorem XI.realize (hx : CxOk cx P) (hfl : fl ≤ st0.next) (X : XI cx P B fl ops R K β0 st0 w0 listed ls E pre pl pend fr st β a w) {e : Pend} (he : e ∈ E) (hr : ∀ x, edge ops.toList e.i x = true → x ∈ ls) (Q : Exit → Act → World → Prop) :
    wpOp P ops Q e.i (fun a' w' => ∃ β' E', E'.length < E.length ∧ XI cx P B fl ops R K β0 st0 w0 (listed.setIfInBounds e.i true) (e.i :: ls) E' pre pl pend fr st β' a' w') a w := by
  have F := X.ef e he
  have hop := XI.ops_get ops F.op
  have hi : e.i < ops.size := (Array.getElem?_eq_some_iff.1 hop).1
  obtain ⟨hev0, hgd0⟩ := X.opsOk (i := e.i) (o := e.o) hr fun j hj => (F.look j hj).imp_left (·.1)
  have hev : EvOk β e.fr a e.o.op.operands.toList := fun x hx v hv => hev0 x hx v (by rw [F.ev x hx]; exact hv)
  have hgd : GuardOk β ops.toList e.o e.fr a := fun g want og d v h1 h2 h3 h4 => hgd0 g want og d v h1 h2 h3 (by rw [F.gd g want og d h1 h2 h3]; exact h4)
  let E' := E.filter fun x => !(x.i == e.i)
  have hE' : ∀ x, x ∈ E' ↔ x ∈ E ∧ x.i ≠ e.i := fun x => by simp [E']
  have hlen : E'.length < E.length := by
    have : E'.length < E.length ↔ ∃ x ∈ E, ¬ (!(x.i == e.i)) = true := List.length_filter_lt_length_iff_exists
    exact this.2 ⟨e, he, by simp⟩
  -- what the new state has, however the operation ran
  have fin : ∀ (β' : Be) (v' : Value) (w' : World), VRel β' e.v v' → Good cx B fl β0 st0 w0 β' (insertAs pend (e.i :: ls) st) w' → (∀ id o o', Src pend (e.i :: ls) st id o → Src pend (e.i :: ls) st id o' → o = o') → Ext β β' →
      (∀ x ∈ E', ∀ n ob, x.k = .new n ob → β' n = none) → XI cx P B fl ops R K β0 st0 w0 (listed.setIfInBounds e.i true) (e.i :: ls) E' pre pl pend fr st β' (a.put e.o.dst v') w' := by
    intro β' v' w' hv hG hsrc hext hnone
    refine ⟨by simp [X.size], X.edgeNone hi, fun j hj => ?_, X.chk, X.run, fun j => ?_, fun x hx' => ?_, fun j hj x hxe => ?_, hG, hsrc, ?_, fun t v hv' hno => ?_, by rw [put_defers]; exact X.dfr, fun x hx' => ?_, fun x hx' y hy' hne => ?_, fun p hp => ?_, X.down⟩
    · rcases List.mem_cons.1 hj with rfl | hj
      · exact hi
      · exact X.lt j hj
    · rw [X.preI j]
      constructor
      · rintro (h | ⟨x, hx', h⟩)
        · exact .inl (by simp [h])
        · by_cases hne : x.i = e.i
          · exact .inl (by simp [← h, hne])
          · exact .inr ⟨x, (hE' x).2 ⟨hx', hne⟩, h⟩
      · rintro (h | ⟨x, hx', h⟩)
        · rcases List.mem_cons.1 h with rfl | h
          · exact .inr ⟨e, he, rfl⟩
          · exact .inl h
        · exact .inr ⟨x, ((hE' x).1 hx').1, h⟩
    · intro hc
      obtain ⟨h1, h2⟩ := (hE' x).1 hx'
      rcases List.mem_cons.1 hc with hc | hc
      · exact h2 hc
      · exact X.disj x h1 hc
    · rcases List.mem_cons.1 hj with rfl | hj
      · exact List.mem_cons_of_mem _ (hr x hxe)
      · exact List.mem_cons_of_mem _ (X.ideal j hj x hxe)
    · cases hd : e.o.dst with
      | none => simp only [Act.put]; exact X.frn
      | some d => simp only [Act.put, Array.size_setIfInBounds]; exact X.frn
    · by_cases hd : e.o.dst = some t
      · obtain ⟨h1, h2⟩ := F.dst t hd
        rw [h1] at hv'; cases hv'
        rw [hd]
        have : t < a.tmps.size := by rw [← X.frn]; exact h2
        simpa [Act.put, Array.getD, this] using hv
      · have hold := X.frv t v hv' fun x hx' => by
          by_cases hne : x.i = e.i
          · have h1 := (X.ef x hx').op
            rw [hne, F.op] at h1
            rw [← Option.some.inj h1]; exact hd
          · exact hno x ((hE' x).2 ⟨hx', hne⟩)
        have e1 : (a.put e.o.dst v').tmps.getD t undef = a.tmps.getD t undef := by
          cases hd' : e.o.dst with
          | none => rfl
          | some d =>
            have hne : d ≠ t := fun h => hd (by rw [hd', h])
            simp [Act.put, Array.getD_eq_getD_getElem?, Array.getElem?_setIfInBounds_ne hne]
        rw [e1]; exact hold.mono hext
    · have G := X.ef x ((hE' x).1 hx').1
      exact ⟨G.op, G.dst, G.ev, G.gd, G.look, G.pure, fun n ob hk => by
        obtain ⟨g1, g2, g3, _, g5⟩ := G.new n ob hk
        exact ⟨g1, g2, g3, hnone x hx' n ob hk, g5⟩, G.blk⟩
    · exact X.dd x ((hE' x).1 hx').1 y ((hE' y).1 hy').1 hne
    · obtain ⟨h1, h2⟩ := X.pf p hp
      refine ⟨h1, ?_⟩
      rcases h2 with h2 | ⟨x, hx', h3, h4⟩
      · exact .inl (by simp [h2])
      · by_cases hne : x.i = e.i
        · exact .inl (by simp [← h3, hne])
        · exact .inr ⟨x, (hE' x).2 ⟨hx', hne⟩, h3, h4⟩
  cases hk : e.k with
  | pure h =>
    obtain ⟨h1, h2, hpn⟩ := F.pure h hk
    have hsub : ∀ id o, h.get id = some o → (insertAs pend ls st).heap.get id = some o := fun id o ho => by
      rw [X.get]
      rcases h2 id o ho with h3 | ⟨j, h3, h4⟩
      · exact .inl h3
      · exact .inr ⟨j, h3, X.done hr h4⟩
    refine wpOp_mono ?_ (pure_ok (fl := fl) hx hop h1 X.good.inv hsub hev hgd Q)
    rintro a' w' ⟨v', rfl, q1, q2⟩
    -- no pending block is this operation's own
    have hsame : ∀ id o, Src pend (e.i :: ls) st id o ↔ Src pend ls st id o := fun id o => by
      unfold Src
      constructor
      · rintro (h3 | ⟨j, h3, h4⟩)
        · exact .inl h3
        · rcases List.mem_cons.1 h4 with h5 | h4
          · exact absurd h5 (hpn _ h3)
          · exact .inr ⟨j, h3, h4⟩
      · rintro (h3 | ⟨j, h3, h4⟩)
        · exact .inl h3
        · exact .inr ⟨j, h3, by simp [h4]⟩
    have hsrc' : ∀ id o o', Src pend (e.i :: ls) st id o → Src pend (e.i :: ls) st id o' → o = o' := fun id o o' s1 s2 => X.src id o o' ((hsame id o).1 s1) ((hsame id o').1 s2)
    have hget : ∀ id, (insertAs pend (e.i :: ls) st).heap.get id = (insertAs pend ls st).heap.get id := fun id => by
      apply Option.ext
      intro o
      rw [insertAs_iff hsrc', X.get, hsame]
    refine ⟨β, E', hlen, fin β v' w' q1 ?_ hsrc' (Ext.refl _) fun x hx' n ob hkx => ((X.ef x ((hE' x).1 hx').1).new n ob hkx).2.2.2.1⟩
    exact (X.good.trans q2).congr (by rw [insertAs_next, insertAs_next]) hget
  | new n ob =>
    obtain ⟨h1, h2, h3, h4, h5, h6⟩ := F.new n ob hk
    refine wpOp_mono ?_ (new_ok hx hop h1 hfl h2 (by rw [insertAs_next]; exact h3) X.good h4 hev hgd Q)
    rintro a' w' ⟨v', p, rfl, q1, q2⟩
    have hnot : ∀ o, ¬ Src pend ls st n o := fun o hs => by
      have := (X.get n o).2 hs
      obtain ⟨b, e', _, hb, _⟩ := X.good.inv.live n o this
      rw [h4] at hb; cases hb
    have hsame : ∀ id o, Src pend (e.i :: ls) st id o ↔ Src pend ls st id o ∨ (id = n ∧ o = ob) := fun id o => by
      unfold Src
      constructor
      · rintro (g | ⟨j, g, g2⟩)
        · exact .inl (.inl g)
        · rcases List.mem_cons.1 g2 with g2 | g2
          · have := h6 _ g (.inl g2)
            simp only [Prod.mk.injEq] at this
            exact .inr this.2
          · exact .inl (.inr ⟨j, g, g2⟩)
      · rintro ((g | ⟨j, g, g2⟩) | ⟨rfl, rfl⟩)
        · exact .inl g
        · exact .inr ⟨j, g, by simp [g2]⟩
        · exact .inr ⟨e.i, h5, by simp⟩
    have hsrc' : ∀ id o o', Src pend (e.i :: ls) st id o → Src pend (e.i :: ls) st id o' → o = o' := fun id o o' s1 s2 => by
      rcases (hsame id o).1 s1 with s1 | ⟨rfl, rfl⟩ <;> rcases (hsame _ o').1 s2 with s2 | ⟨e2, e3⟩
      · exact X.src id o o' s1 s2
      · subst e2; exact absurd s1 (hnot o)
      · exact absurd s2 (hnot o')
      · exact e3.symm
    refine ⟨upd β n p, E', hlen, fin _ v' w' q1 ?_ hsrc' ?_ fun x hx' n' ob' hkx => ?_⟩
    · refine q2.congr (by rw [insertAs_next]; simp [St.put, insertAs_next]) fun id => ?_
      apply Option.ext
      intro o
      rw [insertAs_iff hsrc', hsame]
      simp only [St.put, T.get_set]
      by_cases hid : id = n
      · subst hid
        rw [if_pos rfl]
        constructor
        · rintro (g | ⟨_, g⟩)
          · exact absurd g (hnot o)
          · rw [g]
        · intro g; cases g; exact .inr ⟨rfl, rfl⟩
      · rw [if_neg hid, X.get]
        exact ⟨fun g => g.resolve_right fun g2 => hid g2.1, .inl⟩
    · refine ⟨fun id q hq => ?_, rfl⟩
      simp only [upd_at]
      split
      · rename_i hid; subst hid; rw [h4] at hq; cases hq
      · exact hq
    · obtain ⟨hx1, hx2⟩ := (hE' x).1 hx'
      simp only [upd_at]
      have := (X.dd e he x hx1 (fun h => hx2 h.symm)).2 n ob n' ob' hk hkx
      rw [if_neg (fun h => this h.symm)]
      exact ((X.ef x hx1).new n' ob' hkx).2.2.2.1
end
end Go.Am

namespace Go.Am
open Go

variable {cx : Cx} {P : Program} {B fl : Nat} {ops : Array Oper} {R : RunT} {K : Exit → Fr → St → Bool} {β0 : Be} {st0 : St} {w0 : World}
variable {listed : Array Bool} {ls : List Nat} {E : List Pend} {pre pl : List Step} {pend : List (Nat × Nat × O)} {fr : Fr} {st : St} {β : Be} {a : Act} {w : World}

theorem put_get {fr fr' : Fr} {d : Option Tmp} {v : V} (h : fr.put d v = some fr') : fr'.n = fr.n ∧ (∀ t, d = some t → t < fr.n ∧ fr'.get t = some v) ∧ ∀ t, d ≠ some t → fr'.get t = fr.get t := by
  cases d with
  | none => simp only [Fr.put, Option.some.injEq] at h; subst h; exact ⟨rfl, by simp, fun _ _ => rfl⟩
  | some d =>
    simp only [Fr.put] at h
    cases hb : Nat.blt d fr.n with
    | false => rw [hb] at h; simp at h
    | true =>
      rw [hb] at h
      simp only [cond_true, Option.some.injEq] at h
      subst h
      have hlt : d < fr.n := by simpa [Nat.blt, Nat.ble_eq, Nat.succ_le_iff] using hb
      refine ⟨rfl, fun t ht => ?_, fun t ht => ?_⟩
      · cases ht; exact ⟨hlt, by simp [Fr.get, T.get_set]⟩
      · have : t ≠ d := fun e => ht (by rw [e])
        simp [Fr.get, T.get_set, this]

theorem Good.bump {β' : Be} {st' : St} {w' : World} (h : Good cx B fl β st w β' st' w') {n : Nat} (hn : st'.next ≤ n) : Good cx B fl β st w β' ⟨st'.heap, n⟩ w' where
  ext := h.ext
  old := h.old
  inv := h.inv.less hn fun _ _ ho => ho
  keep := h.keep
  next := Nat.le_trans h.next hn
  os := h.os
  tape := h.tape
  output := h.output
  size := h.size
  frame := h.frame
  fresh := h.fresh

theorem sameDst_false {ops : List Oper} {o oj : Oper} {j : Nat} (hj : ops[j]? = some oj) (h : sameDst ops o j = false) : ∀ d, o.dst = some d → oj.dst ≠ some d := by
  intro d hd hc
  unfold sameDst at h
  rw [hj, hd] at h
  simp only [hc] at h
  rw [T.beq_true rfl] at h; cases h

/-- What the frame's new entry leaves as it was, for the pending. -/
theorem XI.keeps (X : XI cx P B fl ops R K β0 st0 w0 listed ls E pre pl pend fr st β a w) {s : Step} {pl' : List Step} {o : Oper} (H : HeadOk ops.toList pre s pl' o) {v : V} {fr' : Fr} (hp : fr.put o.dst v = some fr') {e : Pend} (he : e ∈ E) (notLook : looks ops.toList e.o s.idx = true → False) :
    (∀ d, e.o.dst = some d → fr'.get d = some e.v ∧ d < fr'.n) ∧ (∀ x ∈ e.o.op.operands.toList, ev fr' x = ev e.fr x) ∧
    (∀ g want og d, e.o.guard = some (g, want) → ops.toList[g]? = some og → og.dst = some d → fr'.get d = e.fr.get d) ∧ (∀ d, o.dst = some d → e.o.dst ≠ some d) ∧ e.i ≠ s.idx := by
  have F := X.ef e he
  obtain ⟨hn, _, hg⟩ := put_get hp
  obtain ⟨q, hq, hqe⟩ := (X.preI e.i).2 (.inr ⟨e, he, rfl⟩)
  have hne : e.i ≠ s.idx := fun h => (H.new q hq).1 (hqe.trans h)
  have hdst := sameDst_false (o := o) F.op (by rw [← hqe]; exact (H.new q hq).2)
  refine ⟨fun d hd => ?_, fun x hx => ?_, fun g want og d h1 h2 h3 => ?_, hdst, hne⟩
  · obtain ⟨h1, h2⟩ := F.dst d hd
    rw [hg d (fun h => hdst d h hd), hn]; exact ⟨h1, h2⟩
  · rw [← F.ev x hx]
    cases x with
    | tmp t => exact hg t fun h => notLook (looks_operand H.op h hx)
    | _ => rfl
  · rw [← F.gd g want og d h1 h2 h3]
    exact hg d fun h => notLook (looks_guard H.op h h1 h2 h3)

/-- The plan goes past an operation that the run has yet to do. -/
theorem XI.push {s : Step} {pl' : List Step} (X : XI cx P B fl ops R K β0 st0 w0 listed ls E pre (s :: pl') pend fr st β a w) {o : Oper} (H : HeadOk ops.toList pre s pl' o) {e : Pend} (hei : e.i = s.idx) (heo : e.o = o) {fr' : Fr} (hp : fr.put o.dst e.v = some fr')
    (hch : s.chain = false) {pend' : List (Nat × Nat × O)} {st' : St} (hheap : st'.heap = st.heap) (hnext : st.next ≤ st'.next) (hpp : ∀ p ∈ pend, p ∈ pend')
    (hpn : ∀ p ∈ pend', p ∈ pend ∨ (p.1 = e.i ∧ e.k = .new p.2.1 p.2.2 ∧ p.2.1 = st.next ∧ st.next < st'.next)) (hefr : e.fr = fr)
    (hpure : ∀ h, e.k = .pure h → pureOp cx ops.toList e.o e.fr h = some e.v ∧ (∀ id o, h.get id = some o → st'.heap.get id = some o ∨ ∃ j, (j, id, o) ∈ pend' ∧ Anc ops.toList e.i j) ∧ pend' = pend)
    (hnew : ∀ n ob, e.k = .new n ob → newOp cx ops.toList e.o e.fr n = some (e.v, ob) ∧ n = st.next ∧ n < st'.next ∧ (e.i, n, ob) ∈ pend')
    (hblk : e.k = .pure .nil ∨ isBlock s = true) (hrun : runPlan cx R fl ops.toList pl' pend' fr' st' (K .normal) = true) :
    XI cx P B fl ops R K β0 st0 w0 listed ls (e :: E) (s :: pre) pl' pend' fr' st' β a w := by
  obtain ⟨hlt, hnls, hnE⟩ := X.plNot s (by simp)
  obtain ⟨hn, hg1, hg2⟩ := put_get hp
  have hlow : ∀ p ∈ pend, p.2.1 < st.next := fun p hp => (X.pf p hp).1
  have hsame : ∀ id o, Src pend' ls st' id o ↔ Src pend ls st id o := fun id o => by
    unfold Src
    rw [hheap]
    constructor
    · rintro (h | ⟨j, h1, h2⟩)
      · exact .inl h
      · rcases hpn _ h1 with h1 | ⟨h3, _⟩
        · exact .inr ⟨j, h1, h2⟩
        · simp only at h3; rw [h3, hei] at h2; exact absurd h2 hnls
    · rintro (h | ⟨j, h1, h2⟩)
      · exact .inl h
      · exact .inr ⟨j, hpp _ h1, h2⟩
  have hsrc' : ∀ id o o', Src pend' ls st' id o → Src pend' ls st' id o' → o = o' := fun id o o' s1 s2 => X.src id o o' ((hsame id o).1 s1) ((hsame id o').1 s2)
  have hfrno : ∀ q ∈ pre, q.idx ≠ s.idx := fun q hq => (H.new q hq).1
  have notLook : ∀ j, looks ops.toList o j = true → j ≠ s.idx := fun j hj he => by
    rcases H.look j hj with ⟨_, q, hq, h2⟩ | ⟨h2, _⟩
    · exact hfrno q hq (h2.trans he)
    · exact h2 he
  have hno : ∀ x ∈ E, looks ops.toList x.o s.idx = true → False := fun x hx h => by
    obtain ⟨q, hq, hqe⟩ := (X.preI x.i).2 (.inr ⟨x, hx, rfl⟩)
    have := (H.seen q hq x.o (by rw [hqe]; exact (X.ef x hx).op) h).1
    rw [hch] at this; cases this
  refine ⟨X.size, X.lst, X.lt, H.rest, hrun, fun j => ?_, fun x hx' => ?_, X.ideal, ?_, hsrc', by rw [hn]; exact X.frn, fun t v hv hno => ?_, X.dfr, fun x hx' => ?_, fun x hx' y hy' hne => ?_, fun p hp' => ?_, X.down⟩
  · constructor
    · rintro ⟨q, hq, rfl⟩
      rcases List.mem_cons.1 hq with rfl | hq
      · exact .inr ⟨e, by simp, hei⟩
      · rcases (X.preI q.idx).1 ⟨q, hq, rfl⟩ with h | ⟨x, h1, h2⟩
        · exact .inl h
        · exact .inr ⟨x, by simp [h1], h2⟩
    · rintro (h | ⟨x, h1, h2⟩)
      · obtain ⟨q, hq, h3⟩ := (X.preI j).2 (.inl h)
        exact ⟨q, by simp [hq], h3⟩
      · rcases List.mem_cons.1 h1 with rfl | h1
        · exact ⟨s, by simp, hei.symm.trans h2⟩
        · obtain ⟨q, hq, h3⟩ := (X.preI j).2 (.inr ⟨x, h1, h2⟩)
          exact ⟨q, by simp [hq], h3⟩
  · rcases List.mem_cons.1 hx' with rfl | hx'
    · rw [hei]; exact hnls
    · exact X.disj x hx'
  · have hb := X.good.bump (n := st'.next) (by rw [insertAs_next]; exact hnext)
    refine hb.congr (by rw [insertAs_next]) fun id => ?_
    apply Option.ext
    intro ob
    rw [insertAs_iff hsrc', hsame, ← X.get]
  · have h1 : o.dst ≠ some t := heo ▸ hno e (by simp)
    rw [hg2 t h1] at hv
    exact X.frv t v hv fun x hx' => hno x (by simp [hx'])
  · rcases List.mem_cons.1 hx' with rfl | hx'
    · refine ⟨by rw [hei, heo]; exact H.op, fun d hd => ?_, fun y hy => ?_, fun g want og d h1 h2 h3 => ?_, fun j hj => ?_, fun h hk => ?_, fun n ob hk => ?_, ?_⟩
      · obtain ⟨h1, h2⟩ := hg1 d (heo ▸ hd)
        exact ⟨h2, by rw [hn]; exact h1⟩
      · rw [hefr]
        cases y with
        | tmp t => exact hg2 t fun h => notLook s.idx (looks_operand H.op h (heo ▸ hy)) rfl
        | _ => rfl
      · rw [hefr]
        exact hg2 d fun h => notLook s.idx (looks_guard H.op h (heo ▸ h1) h2 h3) rfl
      · rcases H.look j (heo ▸ hj) with ⟨h1, q, hq, h2⟩ | ⟨h1, h2⟩
        · exact .inl ⟨hei ▸ h1, q, by simp [hq], h2⟩
        · refine .inr fun q hq => ?_
          rcases List.mem_cons.1 hq with rfl | hq
          · exact fun h => h1 h.symm
          · exact h2 q hq
      · obtain ⟨h1, h2, h3⟩ := hpure h hk
        refine ⟨h1, h2, fun p hp' hc => ?_⟩
        rw [h3] at hp'
        rcases (X.pf p hp').2 with h4 | ⟨y, hy, h4, _⟩
        · rw [hc, hei] at h4; exact hnls h4
        · exact hnE y hy (by rw [h4, hc, hei])
      · obtain ⟨h1, h2, h3, h4⟩ := hnew n ob hk
        refine ⟨h1, ?_, h3, ?_, h4, fun p hp' hc => ?_⟩
        · rw [h2]; have := X.good.next; rw [insertAs_next] at this; exact this
        · rw [h2]; have := X.good.inv.fresh (id := st.next); exact this (by rw [insertAs_next]; exact Nat.le_refl _)
        · rcases hpn p hp' with h5 | ⟨h5, h6, _⟩
          · rcases hc with hc | hc
            · rcases (X.pf p h5).2 with h4 | ⟨y, hy, h4, _⟩
              · rw [hc, hei] at h4; exact absurd h4 hnls
              · exact absurd (by rw [h4, hc, hei]) (hnE y hy)
            · have := hlow p h5; omega
          · rw [hk] at h6
            cases h6
            obtain ⟨p1, p2, p3⟩ := p
            simp only at h5 ⊢
            rw [h5]
      · rcases hblk with h | h
        · exact .inl h
        · exact .inr ⟨s, by simp, hei.symm, h⟩
    · have F := X.ef x hx'
      obtain ⟨k1, k2, k3, _, k5⟩ := X.keeps H hp hx' (hno x hx')
      refine ⟨F.op, k1, k2, k3, fun j hj => ?_, fun h hk => ?_, fun n ob hk => ?_, ?_⟩
      · rcases F.look j hj with ⟨h1, q, hq, h2⟩ | h2
        · exact .inl ⟨h1, q, by simp [hq], h2⟩
        · refine .inr fun q hq => ?_
          rcases List.mem_cons.1 hq with rfl | hq
          · exact fun h => hno x hx' (h ▸ hj)
          · exact h2 q hq
      · obtain ⟨h1, h2, h3⟩ := F.pure h hk
        refine ⟨h1, fun id ob hid => ?_, fun p hp' hc => ?_⟩
        · rw [hheap]
          exact (h2 id ob hid).imp_right fun ⟨j, g1, g2⟩ => ⟨j, hpp _ g1, g2⟩
        · rcases hpn p hp' with h5 | ⟨h5, _⟩
          · exact h3 p h5 hc
          · exact k5 (by rw [← hc, h5, hei])
      · obtain ⟨h1, h2, h3, h4, h5, h6⟩ := F.new n ob hk
        refine ⟨h1, h2, Nat.lt_of_lt_of_le h3 hnext, h4, hpp _ h5, fun p hp' hc => ?_⟩
        rcases hpn p hp' with g | ⟨g1, _, g3, _⟩
        · exact h6 p g hc
        · rcases hc with hc | hc
          · exact absurd (by rw [← hc, g1, hei]) k5
          · omega
      · rcases F.blk with h | ⟨q, hq, h1, h2⟩
        · exact .inl h
        · exact .inr ⟨q, by simp [hq], h1, h2⟩
  · rcases List.mem_cons.1 hx' with hxe | hxE <;> rcases List.mem_cons.1 hy' with hye | hyE
    · exact absurd (by rw [hxe, hye]) hne
    · subst hxe
      obtain ⟨_, _, _, k4, _⟩ := X.keeps H hp hyE (hno y hyE)
      refine ⟨fun d hd => k4 d (heo ▸ hd), fun n ob n' ob' h1 h2 => ?_⟩
      have h3 := (hnew n ob h1).2.1
      have h4 := ((X.ef y hyE).new n' ob' h2).2.2.1
      omega
    · subst hye
      obtain ⟨_, _, _, k4, _⟩ := X.keeps H hp hxE (hno x hxE)
      refine ⟨fun d hd hc => k4 d (heo ▸ hc) hd, fun n ob n' ob' h1 h2 => ?_⟩
      have h3 := (hnew n' ob' h2).2.1
      have h4 := ((X.ef x hxE).new n ob h1).2.2.1
      omega
    · exact X.dd x hxE y hyE hne
  · rcases hpn p hp' with h | ⟨h1, h2, h3, h4⟩
    · obtain ⟨g1, g2⟩ := X.pf p h
      refine ⟨Nat.lt_of_lt_of_le g1 hnext, g2.imp_right fun ⟨y, hy, g3, g4⟩ => ⟨y, by simp [hy], g3, g4⟩⟩
    · exact ⟨by omega, .inr ⟨e, by simp, h1.symm, h2⟩⟩

theorem ops_toList {i : Nat} {o : Oper} (h : ops.toList[i]? = some o) : (match ops.toList[i]? with | some o => some o | none => none) = some o := by rw [h]

theorem XI.advance {s : Step} {pl' : List Step} (X : XI cx P B fl ops R K β0 st0 w0 listed ls E pre (s :: pl') pend fr st β a w) (hc : s.chain = false) :
    ∃ e pend' fr' st', XI cx P B fl ops R K β0 st0 w0 listed ls (e :: E) (s :: pre) pl' pend' fr' st' β a w := by
  obtain ⟨o, H⟩ := planCheck_cons X.chk
  have hrun := X.run
  cases s with
  | q i as => cases hc
  | w i => cases hc
  | p i =>
    have hop : ops.toList[i]? = some o := H.op
    simp only [runPlan, hop] at hrun
    split at hrun
    case h_2 => cases hrun
    rename_i v hv
    obtain ⟨fr', hp, hk⟩ := putK_some hrun
    exact ⟨⟨i, o, fr, v, .pure .nil⟩, pend, fr', st, X.push H (e := ⟨i, o, fr, v, .pure .nil⟩) rfl rfl hp rfl rfl (Nat.le_refl _) (fun _ h => h) (fun _ h => .inl h) rfl
      (fun h hk => by cases hk; exact ⟨hv, fun id o ho => by simp [T.get] at ho, rfl⟩) (fun n ob hk => by cases hk) (.inl rfl) hk⟩
  | r i as =>
    have hop : ops.toList[i]? = some o := H.op
    simp only [runPlan, hop] at hrun
    split at hrun
    case h_2 => cases hrun
    rename_i v hv
    obtain ⟨fr', hp, hk⟩ := putK_some hrun
    refine ⟨⟨i, o, fr, v, .pure (insertAs pend as st).heap⟩, pend, fr', st, X.push H (e := ⟨i, o, fr, v, .pure (insertAs pend as st).heap⟩) rfl rfl hp rfl rfl (Nat.le_refl _) (fun _ h => h) (fun _ h => .inl h) rfl
      (fun h hk => ?_) (fun n ob hk => by cases hk) (.inr rfl) hk⟩
    cases hk
    refine ⟨hv, fun id ob hid => ?_, rfl⟩
    exact (insertAs_get pend as st id ob hid).imp_right fun ⟨j, h1, h2⟩ => ⟨j, h1, H.rAs as rfl j h2⟩
  | a i =>
    have hop : ops.toList[i]? = some o := H.op
    simp only [runPlan, hop] at hrun
    split at hrun
    · rename_i v ob hv
      obtain ⟨fr', hp, hk⟩ := putK_some hrun
      refine ⟨⟨i, o, fr, v, .new st.next ob⟩, pend ++ [(i, st.next, ob)], fr', ⟨st.heap, st.next + 1⟩, X.push H (e := ⟨i, o, fr, v, .new st.next ob⟩) rfl rfl hp rfl rfl (Nat.le_succ _) (fun p h => by simp [h]) (fun p h => ?_) rfl
        (fun h hk => by cases hk) (fun n ob' hk => ?_) (.inr rfl) hk⟩
      · rcases List.mem_append.1 h with h | h
        · exact .inl h
        · rw [List.mem_singleton] at h; subst h
          exact .inr ⟨rfl, rfl, rfl, Nat.lt_succ_self _⟩
      · cases hk
        exact ⟨hv, rfl, Nat.lt_succ_self _, by simp⟩
    · split at hrun
      case h_2 => cases hrun
      rename_i v hv
      obtain ⟨fr', hp, hk⟩ := putK_some hrun
      exact ⟨⟨i, o, fr, v, .pure .nil⟩, pend, fr', st, X.push H (e := ⟨i, o, fr, v, .pure .nil⟩) rfl rfl hp rfl rfl (Nat.le_refl _) (fun _ h => h) (fun _ h => .inl h) rfl
        (fun h hk => by cases hk; exact ⟨hv, fun id o ho => by simp [T.get] at ho, rfl⟩) (fun n ob hk => by cases hk) (.inl rfl) hk⟩
end Go.Am
