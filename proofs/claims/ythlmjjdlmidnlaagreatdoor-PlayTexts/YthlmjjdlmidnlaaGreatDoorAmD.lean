/- The abstract machine: blocks made, written, taken away; cells read and written. The abstract machine: reading and writing cells; addresses; values put together. The abstract machine: the model's instructions on memory and aggregates. -/
import Derived.Test.YthlmjjdlmidnlaaGreatDoorAmA
import Derived.Laws.CopyRow
import Derived.Laws.Entries
namespace Go.Am
open Go

structure CxOk (cx : Cx) (P : Program) : Prop where
  fn : ∀ f F, cx.fn f = some F → P.funcs[f]? = some F ∧ (F.name == "runtime.NumGoroutine") = false
  plans : ∀ f F c, cx.fn f = some F → F.body = some c → plansOk cx f c = true
  ty : ∀ t, cx.ty t = tyOf P t
  eqs : ∀ t, cx.eqT t = true → P.stoodInHeld t = false ∧ P.eqGuardType P.depth t = false ∧ ∀ fs, P.underlying t = some (.struct fs) → ∀ f ∈ fs.toList, f.name ≠ "_"

structure TyIs (P : Program) (t : TypeId) (ty : Ty) (i : TypeInfo) (z : Value) : Prop where
  info : P.info? t = some i
  under : P.underlying t = some ty.under
  size : i.size = ty.size
  bytes : i.bytes = ty.bytes
  zero : i.zero = some z
  cells : z.cells.toList = ty.zero
  len : ty.zero.length = ty.size
  scal : ScalL ty.zero
  agg : isAggT ty.under = isAggV z

theorem CxOk.is {cx : Cx} {P : Program} (h : CxOk cx P) {t : TypeId} {ty : Ty} (ht : cx.ty t = some ty) : ∃ i z, TyIs P t ty i z := by
  rw [h.ty] at ht
  unfold tyOf at ht
  split at ht
  · rename_i i u hi hu
    split at ht
    · rename_i z hz
      cases hc : (Nat.beq z.cells.toList.length i.size && z.cells.toList.all scal && (bif isAggT u then isAggV z else scal z)) with
      | false => rw [hc] at ht; simp at ht
      | true =>
        rw [hc] at ht
        simp only [cond_true, Option.some.injEq] at ht
        subst ht
        simp only [Bool.and_eq_true] at hc
        obtain ⟨⟨h1, h2⟩, h3⟩ := hc
        have h1' := Nat.eq_of_beq_eq_true h1
        refine ⟨i, z, hi, hu, rfl, rfl, hz, rfl, h1', fun x hx => List.all_eq_true.1 h2 x hx, ?_⟩
        cases ha : isAggT u with
        | true => rw [ha] at h3; exact h3.symm
        | false =>
          rw [ha] at h3
          cases z <;> simp_all [scal, isAggV]
    · cases ht
  · cases ht

section
variable {P : Program} {t : TypeId} {ty : Ty} {i : TypeInfo} {z : Value}
theorem TyIs.run_under (h : TyIs P t ty i z) (w : World) : (underlying t).run P w = .ok ty.under w := run_underlying h.under w
theorem TyIs.run_info (h : TyIs P t ty i z) (w : World) : (typeInfo t).run P w = .ok i w := by simp [typeInfo, h.info]
theorem TyIs.run_size (h : TyIs P t ty i z) (w : World) : (sizeOf t).run P w = .ok ty.size w := by simp [sizeOf, h.run_info, h.size]
theorem TyIs.run_zero (h : TyIs P t ty i z) (w : World) : (zeroValue t).run P w = .ok z w := by simp [zeroValue, h.run_info, h.zero]
theorem TyIs.run_agg (h : TyIs P t ty i z) (w : World) : (isAgg t).run P w = .ok (isAggT ty.under) w := by
  simp only [isAgg, Sem.run_bind, h.run_under, Result.andThen_ok]
  cases ty.under <;> rfl
end

theorem scal_oneCell {v : Value} (h : scal v = true) : v.oneCell' = true := by cases v <;> simp_all [scal, Value.oneCell']

theorem add_adr (b off n : Nat) : (⟨b, off, none⟩ : Addr).add n = ⟨b, off + n, none⟩ := by
  unfold Addr.add; split
  · rename_i h; subst h; rfl
  · rfl

/-! ### the frame -/
structure FrRel (β : Be) (fr : Fr) (a : Act) : Prop where
  size : fr.n = a.tmps.size
  val : ∀ t v, fr.t.get t = some v → VRel β v (a.tmps.getD t undef)

theorem FrRel.mono {β β' : Be} (h : Ext β β') {fr : Fr} {a : Act} (r : FrRel β fr a) : FrRel β' fr a := ⟨r.size, fun t v hv => VRel.mono h (r.val t v hv)⟩

theorem FrRel.put {β : Be} {fr fr' : Fr} {a : Act} (r : FrRel β fr a) {d : Option Tmp} {v : V} {v' : Value} (hv : VRel β v v') (hp : fr.put d v = some fr') : FrRel β fr' (a.put d v') := by
  cases d with
  | none => simp only [Fr.put, Option.some.injEq] at hp; subst hp; exact r
  | some d =>
    simp only [Fr.put] at hp
    cases hb : Nat.blt d fr.n with
    | false => rw [hb] at hp; simp at hp
    | true =>
      rw [hb] at hp
      simp only [cond_true, Option.some.injEq] at hp
      subst hp
      have hlt : d < fr.n := by simpa [Nat.blt, Nat.ble_eq, Nat.succ_le_iff] using hb
      refine ⟨by simp [Act.put, r.size], fun t u hu => ?_⟩
      rw [T.get_set] at hu
      simp only [Act.put]
      by_cases e : t = d
      · subst e
        rw [if_pos rfl] at hu
        cases hu
        have : t < a.tmps.size := by rw [← r.size]; exact hlt
        simpa [Array.getD, this] using hv
      · rw [if_neg e] at hu
        have := r.val t u hu
        have e' : d ≠ t := fun h => e h.symm
        simpa [Array.getD_eq_getD_getElem?, Array.getElem?_setIfInBounds_ne e'] using this

theorem ev_rel {β : Be} {fr : Fr} {a : Act} (r : FrRel β fr a) {x : Operand} {v : V} (h : ev fr x = some v) : VRel β v (a.eval x) := by
  cases x with
  | tmp t => exact r.val t v h
  | const u =>
    simp only [ev] at h
    cases hs : scal u with
    | false => rw [hs] at h; simp at h
    | true => rw [hs] at h; simp only [cond_true, Option.some.injEq] at h; subst h; rfl
  | global g => simp only [ev, Option.some.injEq] at h; subst h; rfl
  | func f => simp only [ev, Option.some.injEq] at h; subst h; exact ⟨[], trivial, rfl⟩

theorem cellsOf_rel {β : Be} {v : V} {v' : Value} {l : List C} (h : VRel β v v') (hc : cellsOf v = some l) : All2 (CRel β) l v'.cells.toList ∧ ScalL v'.cells.toList := by
  cases v with
  | tup l => simp [cellsOf] at hc
  | a x =>
    cases x with
    | agg m =>
      simp only [cellsOf, Option.some.injEq] at hc; subst hc
      obtain ⟨a, rfl, h1, h2⟩ := h
      exact ⟨h1, h2⟩
    | c x =>
      have one : scal v' = true → v'.cells.toList = [v'] := fun hs => by cases v' <;> simp_all [scal, Value.cells]
      have fin : cellsOf (.a (.c x)) = some [x] → scal v' = true → All2 (CRel β) l v'.cells.toList ∧ ScalL v'.cells.toList := fun he hs => by
        rw [he] at hc; cases hc
        rw [one hs]
        exact ⟨⟨h, trivial⟩, fun y hy => by simp at hy; exact hy ▸ hs⟩
      cases x with
      | sc v =>
        simp only [cellsOf] at hc
        cases hs : scal v with
        | false => rw [hs] at hc; simp at hc
        | true =>
          have hv : v' = v := h
          exact fin (by simp [cellsOf, hs]) (by rw [hv]; exact hs)
      | sy k e => have hv : v' = _ := h; exact fin rfl (by rw [hv]; rfl)
      | sb e => have hv : v' = _ := h; exact fin rfl (by rw [hv]; rfl)
      | slx e => obtain ⟨a, n, c, rfl, _⟩ := h; exact fin rfl rfl
      | stx e => obtain ⟨s, rfl, _⟩ := h; exact fin rfl rfl
      | osl k off len => obtain ⟨c, _, rfl⟩ := h; exact fin rfl rfl
      | optr k off => have hv : v' = _ := h; exact fin rfl (by rw [hv]; rfl)
      | ptr id off => obtain ⟨b, e, _, rfl⟩ := h; exact fin rfl rfl
      | sl id off len cap fx => obtain ⟨b, e, _, rfl⟩ := h; exact fin rfl rfl
      | mp id => obtain ⟨b, e, _, rfl⟩ := h; exact fin rfl rfl
      | fn f caps => obtain ⟨bs, _, rfl⟩ := h; exact fin rfl rfl
      | unk => exact fin rfl h
      | yl id => obtain ⟨b, e, _, rfl⟩ := h; exact fin rfl rfl
      | os k off len => obtain ⟨l, rfl, _⟩ := h; exact fin rfl rfl
      | ot k o n => obtain ⟨l, rfl, _⟩ := h; exact fin rfl rfl
      | hi k lo => obtain ⟨x, rfl, _⟩ := h; exact fin rfl rfl
      | ost k o n => obtain ⟨a, m, c, rfl, _⟩ := h; exact fin rfl rfl
      | oat k e => obtain ⟨b, off, rfl, _⟩ := h; exact fin rfl rfl
      | rs e n => obtain ⟨rfl, _⟩ := h; exact fin rfl rfl

theorem pack_rel {β : Be} {ty : Ty} {l : List C} {v : V} {vs : List Value} (hp : pack ty l = some v) (h : All2 (CRel β) l vs) (hs : ScalL vs) :
    (isAggT ty.under = true ∧ VRel β v (.agg vs.toArray)) ∨ (isAggT ty.under = false ∧ ∃ x, vs = [x] ∧ VRel β v x ∧ scal x = true) := by
  unfold pack at hp
  cases ha : isAggT ty.under with
  | true => rw [ha] at hp; simp only [cond_true, Option.some.injEq] at hp; subst hp; exact .inl ⟨rfl, vs.toArray, rfl, by simpa using h, by simpa using hs⟩
  | false =>
    rw [ha] at hp
    simp only [cond_false] at hp
    cases l with
    | nil => simp at hp
    | cons x l =>
      cases l with
      | cons y l => simp at hp
      | nil =>
        simp only [Option.some.injEq] at hp; subst hp
        cases vs with
        | nil => exact h.elim
        | cons u us =>
          cases us with
          | cons _ _ => exact h.2.elim
          | nil => exact .inr ⟨rfl, u, rfl, h.1, hs u (by simp)⟩

/-! ### the world changed at one block -/
structure Chg (w w' : World) (b : Nat) (ob : Obj) : Prop where
  os : w'.os = w.os
  tape : w'.tape = w.tape
  output : w'.output = w.output
  size : w'.heap.size = w.heap.size
  here : w'.heap[b]? = some ob
  other : ∀ k, k ≠ b → w'.heap[k]? = w.heap[k]?

theorem chg_setRow {w : World} {g : Nat} {old cs : Array Value} {t : TypeId} (hg : w.heap[g]? = some (.cells old t (0, 0))) : Chg w (w.setRow g cs) g (.cells cs t (0, 0)) :=
  ⟨rfl, rfl, rfl, by simp [World.setRow], setRow_heap w g old cs t (0, 0) hg, fun k hk => setRow_other w g k cs hk⟩

theorem chg_obj {w : World} {g : Nat} {old ob : Obj} (hg : w.heap[g]? = some old) : Chg w { w with heap := w.heap.setIfInBounds g ob } g ob := by
  have hlt := (Array.getElem?_eq_some_iff.1 hg).1
  refine ⟨rfl, rfl, rfl, by simp, by simp [hlt], fun k hk => ?_⟩
  rw [Array.getElem?_setIfInBounds_ne (fun e => hk e.symm)]

def upd (β : Be) (id : Nat) (p : Nat × Nat) : Be := ⟨fun i => if i = id then some p else β i, β.env, β.z⟩

theorem upd_at (β : Be) (id : Nat) (p : Nat × Nat) (i : Nat) : upd β id p i = if i = id then some p else β i := rfl

section
variable {cx : Cx} {B fl : Nat} {β : Be} {st : St} {w w' : World}

theorem Inv.fresh (h : Inv cx B β st w) {id : Nat} (hid : st.next ≤ id) : β id = none := by
  cases e : β id with
  | none => rfl
  | some p => have := (h.low id p e).1; omega

theorem ext_upd (h : Inv cx B β st w) (p : Nat × Nat) : Ext β (upd β st.next p) := by
  refine ⟨fun i q hq => ?_, rfl, fun _ _ _ h => h⟩
  rw [upd_at]
  split
  · rename_i e; subst e; rw [h.fresh (Nat.le_refl _)] at hq; cases hq
  · exact hq

theorem get_lt (h : Inv cx B β st w) {id : Nat} {o : O} (ho : st.heap.get id = some o) : id < st.next := by
  obtain ⟨b, e, _, hb, _⟩ := h.live id o ho
  exact (h.low id _ hb).1

/-- A new block. -/
theorem Good.alloc (h : Inv cx B β st w) (hfl : fl ≤ st.next) {o : O} {ob : Obj} {e : Nat} (ho : ORel cx (upd β st.next (w.heap.size, e)) e o ob) (hw : w'.heap = w.heap.push ob)
    (h1 : w'.os = w.os) (h2 : w'.tape = w.tape) (h3 : w'.output = w.output) :
    Good cx B fl β st w (upd β st.next (w.heap.size, e)) (st.new o) w' := by
  have old : ∀ k, k < w.heap.size → w'.heap[k]? = w.heap[k]? := fun k hk => by rw [hw, Array.getElem?_push, if_neg (by omega)]
  have new : w'.heap[w.heap.size]? = some ob := by rw [hw]; simp
  have hext := ext_upd h (w.heap.size, e)
  have hget : ∀ id o', (st.new o).heap.get id = some o' → (id = st.next ∧ o' = o) ∨ (id ≠ st.next ∧ st.heap.get id = some o') := fun id o' hid => by
    simp only [St.new, T.get_set] at hid
    by_cases e : id = st.next
    · rw [if_pos e] at hid; cases hid; exact .inl ⟨e, rfl⟩
    · rw [if_neg e] at hid; exact .inr ⟨e, hid⟩
  refine ⟨hext, fun id hid => ?_, ⟨?_, ?_, ?_, ?_, ?_, h.facts, ?_⟩, fun id hid => ?_, Nat.le_succ _, h1, h2, h3, by rw [hw]; simp, fun k hk _ => old k hk, ?_, fun _ _ _ h => .inl h⟩
  · simp only [upd_at]; rw [if_neg (by omega)]
  · intro id p hp
    simp only [upd_at] at hp
    split at hp
    · rename_i e; cases hp; exact ⟨by simp [St.new, e], h.size, by rw [hw]; simp⟩
    · have := h.low id p hp; exact ⟨Nat.lt_succ_of_lt this.1, this.2.1, by rw [hw]; simp; omega⟩
  · intro id o' hid
    rcases hget id o' hid with ⟨rfl, rfl⟩ | ⟨hne, hg⟩
    · exact ⟨_, e, ob, by simp [upd_at], new, ho⟩
    · obtain ⟨b, e', ob', hb, hh, ho'⟩ := h.live id o' hg
      exact ⟨b, e', ob', hext.ids _ _ hb, (old b (h.low _ _ hb).2.2).trans hh, ho'.mono hext⟩
  · intro i j oi oj b e1 e2 hi hj hbi hbj
    rcases hget i oi hi with ⟨rfl, rfl⟩ | ⟨hni, hgi⟩ <;> rcases hget j oj hj with ⟨rfl, rfl⟩ | ⟨hnj, hgj⟩
    · rfl
    · simp only [upd_at, if_pos] at hbi; cases hbi
      simp only [upd_at, if_neg hnj] at hbj
      have := (h.low _ _ hbj).2.2; simp at this
    · simp only [upd_at, if_pos] at hbj; cases hbj
      simp only [upd_at, if_neg hni] at hbi
      have := (h.low _ _ hbi).2.2; simp at this
    · simp only [upd_at, if_neg hni] at hbi
      simp only [upd_at, if_neg hnj] at hbj
      exact h.inj i j oi oj b e1 e2 hgi hgj hbi hbj
  · intro b o' v hv
    obtain ⟨h1, h2⟩ := h.base b o' v hv
    exact ⟨h1, by rw [← h2]; simp only [World.cell?]; rw [old b (Nat.lt_of_lt_of_le h1 h.size)]⟩
  · rw [hw]; have := h.size; simp; omega
  · refine still_of h.still rfl fun b hb hn => ⟨old b hb, fun id p hp => ?_⟩
    simp only [upd_at] at hp
    split at hp
    · cases hp; simp only; omega
    · exact hn id p hp
  · simp only [St.new]; rw [T.get_set_other _ _ (by omega)]
  · intro id o' b e' hid ho' hb
    rcases hget id o' ho' with ⟨rfl, rfl⟩ | ⟨hne, hg⟩
    · simp only [upd_at, if_pos] at hb; cases hb; exact .inl (Nat.le_refl _)
    · simp only [upd_at, if_neg hne] at hb; exact .inr ⟨id, o', e', hid, hg, hb⟩

/-- A block written. -/
theorem Good.write (h : Inv cx B β st w) {id b e : Nat} (hid : fl ≤ id) {o o' : O} {ob : Obj} (hg : st.heap.get id = some o') (hb : β id = some (b, e)) (ho : ORel cx β e o ob) (hc : Chg w w' b ob) :
    Good cx B fl β st w β (st.put id (some o)) w' := by
  have hget : ∀ i x, (st.put id (some o)).heap.get i = some x → (i = id ∧ x = o) ∨ (i ≠ id ∧ st.heap.get i = some x) := fun i x hi => by
    simp only [St.put, T.get_set] at hi
    by_cases e : i = id
    · rw [if_pos e] at hi; cases hi; exact .inl ⟨e, rfl⟩
    · rw [if_neg e] at hi; exact .inr ⟨e, hi⟩
  have hB := (h.low id _ hb).2.1
  refine ⟨Ext.refl _, fun _ _ => rfl, ⟨?_, ?_, ?_, ?_, ?_, h.facts, ?_⟩, fun i hi => ?_, Nat.le_refl _, hc.os, hc.tape, hc.output, by rw [hc.size]; exact Nat.le_refl _, ?_, ?_, fun _ _ _ h => .inl h⟩
  · intro i p hp; have := h.low i p hp; exact ⟨this.1, this.2.1, by rw [hc.size]; exact this.2.2⟩
  · intro i x hi
    rcases hget i x hi with ⟨rfl, rfl⟩ | ⟨hne, hi'⟩
    · exact ⟨b, e, ob, hb, hc.here, ho⟩
    · obtain ⟨b', e', ob', hb', hh, ho'⟩ := h.live i x hi'
      refine ⟨b', e', ob', hb', ?_, ho'⟩
      rw [hc.other b' ?_]; exact hh
      intro hbb; subst hbb
      exact hne (h.inj i id x o' b' e' e hi' hg hb' hb)
  · intro i j oi oj b1 e1 e2 hi hj hbi hbj
    have f : ∀ i x, (st.put id (some o)).heap.get i = some x → ∃ y, st.heap.get i = some y := fun i x hi => by
      rcases hget i x hi with ⟨rfl, _⟩ | ⟨_, hi'⟩
      · exact ⟨_, hg⟩
      · exact ⟨_, hi'⟩
    obtain ⟨y, hy⟩ := f i oi hi
    obtain ⟨y', hy'⟩ := f j oj hj
    exact h.inj i j y y' b1 e1 e2 hy hy' hbi hbj
  · intro bb oo v hv
    obtain ⟨h1, h2⟩ := h.base bb oo v hv
    have hne : bb ≠ b := by simp only at hB; omega
    exact ⟨h1, by rw [← h2]; simp only [World.cell?]; rw [hc.other bb hne]⟩
  · rw [hc.size]; exact h.size
  · exact still_of h.still rfl fun bb hbb hn => ⟨hc.other bb fun e => hn id _ hb e.symm, hn⟩
  · simp only [St.put]; rw [T.get_set_other _ _ (by omega)]
  · intro k hk hn
    refine hc.other k fun hkb => ?_
    subst hkb
    exact hn id o' e hid hg hb
  · intro i x b1 e1 hi hx hb1
    rcases hget i x hx with ⟨rfl, rfl⟩ | ⟨_, hi'⟩
    · exact .inr ⟨i, o', e1, hi, hg, hb1⟩
    · exact .inr ⟨i, x, e1, hi, hi', hb1⟩

/-- A block given up; what it held may have changed. -/
theorem Good.drop (h : Inv cx B β st w) {id b e : Nat} (hid : fl ≤ id) {o' : O} {ob : Obj} (hg : st.heap.get id = some o') (hb : β id = some (b, e)) (hc : Chg w w' b ob) :
    Good cx B fl β st w β (st.put id none) w' := by
  have hget : ∀ i x, (st.put id none).heap.get i = some x → i ≠ id ∧ st.heap.get i = some x := fun i x hi => by
    simp only [St.put, T.get_set] at hi
    by_cases e : i = id
    · rw [if_pos e] at hi; cases hi
    · rw [if_neg e] at hi; exact ⟨e, hi⟩
  have hB := (h.low id _ hb).2.1
  refine ⟨Ext.refl _, fun _ _ => rfl, ⟨?_, ?_, ?_, ?_, ?_, h.facts, ?_⟩, fun i hi => ?_, Nat.le_refl _, hc.os, hc.tape, hc.output, by rw [hc.size]; exact Nat.le_refl _, ?_, ?_, fun _ _ _ h => .inl h⟩
  · intro i p hp; have := h.low i p hp; exact ⟨this.1, this.2.1, by rw [hc.size]; exact this.2.2⟩
  · intro i x hi
    obtain ⟨hne, hi'⟩ := hget i x hi
    obtain ⟨b', e', ob', hb', hh, ho'⟩ := h.live i x hi'
    refine ⟨b', e', ob', hb', ?_, ho'⟩
    rw [hc.other b' ?_]; exact hh
    intro hbb; subst hbb
    exact hne (h.inj i id x o' b' e' e hi' hg hb' hb)
  · intro i j oi oj b1 e1 e2 hi hj hbi hbj
    exact h.inj i j oi oj b1 e1 e2 (hget i oi hi).2 (hget j oj hj).2 hbi hbj
  · intro bb oo v hv
    obtain ⟨h1, h2⟩ := h.base bb oo v hv
    have hne : bb ≠ b := by simp only at hB; omega
    exact ⟨h1, by rw [← h2]; simp only [World.cell?]; rw [hc.other bb hne]⟩
  · rw [hc.size]; exact h.size
  · exact still_of h.still rfl fun bb hbb hn => ⟨hc.other bb fun e => hn id _ hb e.symm, hn⟩
  · simp only [St.put]; rw [T.get_set_other _ _ (by omega)]
  · intro k hk hn
    refine hc.other k fun hkb => ?_
    subst hkb
    exact hn id o' e hid hg hb
  · intro i x b1 e1 hi hx hb1
    exact .inr ⟨i, x, e1, hi, (hget i x hx).2, hb1⟩
end
end Go.Am

namespace Go.Am
open Go

variable {cx : Cx} {P : Program} {B fl : Nat} {β : Be} {st : St} {w : World}

theorem sub_some {l : List C} {off n : Nat} {r : List C} (h : sub l off n = some r) : r = (l.drop off).take n ∧ r.length = n := by
  unfold sub at h
  cases hb : Nat.beq ((l.drop off).take n).length n with
  | false => simp only [hb] at h; simp at h
  | true => simp only [hb, cond_true, Option.some.injEq] at h; exact ⟨h.symm, by rw [← h]; exact Nat.eq_of_beq_eq_true hb⟩

/-- Where a place lies, and the cells that are read from it. -/
theorem loadN_rel (h : Inv cx B β st w) {p : C} {v : Value} {n : Nat} {l : List C} (hv : CRel β p v) (hl : loadN cx st p n = some l) :
    ∃ b off vs, v = adr b off ∧ All2 (CRel β) l vs ∧ ScalL vs ∧ vs.length = n ∧ ∀ j x, vs[j]? = some x → w.cell? ⟨b, off + j, none⟩ = some x := by
  cases p with
  | ptr id off =>
    obtain ⟨b, e, hb, rfl⟩ := hv
    simp only [loadN, St.get] at hl
    split at hl
    · rename_i c t fx hg
      obtain ⟨b', e', ob, hb', hh, cur, pre, rest, rfl, hcur, hr, hs, _, _⟩ := h.live id _ hg
      rw [hb] at hb'; cases hb'
      obtain ⟨hl1, hl2⟩ := sub_some hl
      have hall : All2 (CRel β) l ((pre.drop off).take n) := by rw [hl1]; exact (hr.drop off).take n
      have hlen : ((pre.drop off).take n).length = n := by rw [← hall.length]; exact hl2
      refine ⟨b, off, (pre.drop off).take n, rfl, hall, fun x hx => hs x ?_, hlen, fun j x hj => ?_⟩
      · rw [hcur]; exact List.mem_append.2 (.inl (List.mem_of_mem_drop (List.mem_of_mem_take hx)))
      · have hjn : j < n := by rw [← hlen]; exact (List.getElem?_eq_some_iff.1 hj).1
        rw [List.getElem?_take, if_pos hjn, List.getElem?_drop] at hj
        have hlt := (List.getElem?_eq_some_iff.1 hj).1
        simp only [World.cell?, hh, Option.isSome, Bool.false_eq_true, if_false]
        rw [← Array.getElem?_toList, hcur, List.getElem?_append_left hlt]
        exact hj
    · cases hl
  | sc v =>
    have hvv : _ = v := hv
    subst hvv
    simp only [loadN] at hl
    split at hl
    · cases ‹C.sc _ = _›
    · rename_i b off heq
      simp only [C.sc.injEq] at heq
      subst heq
      have key : ∀ (n off : Nat) (l : List C), baseCells cx b off n = some l → ∃ vs, All2 (CRel β) l vs ∧ ScalL vs ∧ vs.length = n ∧ ∀ j x, vs[j]? = some x → w.cell? ⟨b, off + j, none⟩ = some x := by
        intro n
        induction n with
        | zero => intro off l hl; simp only [baseCells, Option.some.injEq] at hl; subst hl; exact ⟨[], trivial, (fun _ hx => by cases hx), rfl, fun j x hj => by simp at hj⟩
        | succ n ih =>
          intro off l hl
          simp only [baseCells] at hl
          split at hl
          · rename_i u hu
            cases hs : scal u with
            | false => rw [hs] at hl; simp at hl
            | true =>
              rw [hs] at hl
              simp only [cond_true, Option.map_eq_some_iff] at hl
              obtain ⟨l', hl', rfl⟩ := hl
              obtain ⟨vs, h1, h2, h3, h4⟩ := ih _ _ hl'
              refine ⟨u :: vs, ⟨rfl, h1⟩, fun x hx => ?_, by simp [h3], fun j x hj => ?_⟩
              · rcases List.mem_cons.1 hx with rfl | hx
                · exact hs
                · exact h2 x hx
              · cases j with
                | zero => simp at hj; subst hj; exact (h.base b off _ (h.facts.base b off _ hu)).2
                | succ j => simp at hj; have := h4 j x hj; rw [show off + (j + 1) = off + 1 + j by omega]; exact this
          · cases hl
      obtain ⟨vs, h1, h2, h3, h4⟩ := key n off l hl
      exact ⟨b, off, vs, rfl, h1, h2, h3, h4⟩
    · cases ‹C.sc _ = _›
    · cases ‹C.sc _ = _›
    · cases hl
  | sl => simp [loadN] at hl
  | sy => simp [loadN] at hl
  | sb => simp [loadN] at hl
  | slx => simp [loadN] at hl
  | stx => simp [loadN] at hl
  | osl => simp [loadN] at hl
  | optr k off =>
    have hvv : v = _ := hv
    subst hvv
    simp only [loadN] at hl
    split at hl
    · rename_i cs hcs
      obtain ⟨hl1, hl2⟩ := sub_some hl
      have hO := h.facts.outer k cs hcs
      have pick : ∀ j, j < n → ∃ c v, cs[off + j]? = some c ∧ β.env.mem (β.env.out k).1 ((β.env.out k).2 + (off + j)) = some v ∧ CRel { m := fun _ => none, env := β.env } c v ∧ scal v = true := fun j hj => by
        have hlen : ((cs.drop off).take n).length = n := by rw [← hl1]; exact hl2
        have hlt : off + j < cs.length := by
          simp only [List.length_take, List.length_drop] at hlen; omega
        obtain ⟨v, h1, h2, h3⟩ := hO (off + j) cs[off + j] (by simp [hlt])
        exact ⟨cs[off + j], v, by simp [hlt], h1, h2, h3⟩
      have key : ∀ m i, i + m = n → ∃ vs : List Value, All2 (CRel β) ((cs.drop (off + i)).take m) vs ∧ ScalL vs ∧ vs.length = m ∧ ∀ j x, vs[j]? = some x → w.cell? ⟨(β.env.out k).1, (β.env.out k).2 + off + i + j, none⟩ = some x := by
        intro m
        induction m with
        | zero => intro i _; exact ⟨[], by simp [All2], (fun _ hx => by cases hx), rfl, fun j x hj => by simp at hj⟩
        | succ m ih =>
          intro i hi
          obtain ⟨c, v, g1, g2, g3, g4⟩ := pick i (by omega)
          obtain ⟨vs, e1, e2, e3, e4⟩ := ih (i + 1) (by omega)
          have hd : cs.drop (off + i) = c :: cs.drop (off + (i + 1)) := by
            have hlt := (List.getElem?_eq_some_iff.1 g1).1
            rw [List.drop_eq_getElem_cons hlt, (List.getElem?_eq_some_iff.1 g1).2]; rfl
          refine ⟨v :: vs, ?_, fun x hx => ?_, by simp [e3], fun j x hj => ?_⟩
          · rw [hd, List.take_succ_cons]
            exact ⟨CRel.mono (β := { m := fun _ => none, env := β.env }) (β' := β) ⟨(fun _ _ h => nomatch h), rfl, fun _ _ _ h => nomatch h⟩ g3, e1⟩
          · rcases List.mem_cons.1 hx with rfl | hx
            · exact g4
            · exact e2 x hx
          · cases j with
            | zero =>
              simp at hj; subst hj
              have := (h.base _ _ _ g2).2
              rw [show (β.env.out k).2 + off + i + 0 = (β.env.out k).2 + (off + i) by omega]; exact this
            | succ j =>
              simp at hj
              have := e4 j x hj
              rw [show (β.env.out k).2 + off + i + (j + 1) = (β.env.out k).2 + off + (i + 1) + j by omega]; exact this
      obtain ⟨vs, e1, e2, e3, e4⟩ := key n 0 (by omega)
      refine ⟨_, _, vs, rfl, ?_, e2, e3, fun j x hj => ?_⟩
      · rw [hl1]; simpa using e1
      · have := e4 j x hj; simpa using this
    · cases hl
  | mp => simp [loadN] at hl
  | fn => simp [loadN] at hl
  | unk => simp [loadN] at hl
  | yl => simp [loadN] at hl
  | os => simp [loadN] at hl
  | ot => simp [loadN] at hl
  | hi => simp [loadN] at hl
  | ost => simp [loadN] at hl
  | rs => simp [loadN] at hl
  | oat k e =>
    obtain ⟨b, off, rfl, hq⟩ := hv
    simp only [loadN] at hl
    cases hn : Nat.beq n 1 with
    | false => rw [hn] at hl; cases hl
    | true =>
      rw [hn] at hl
      simp only [cond_true, Option.some.injEq] at hl; subst hl
      have := Nat.eq_of_beq_eq_true hn; subst this
      refine ⟨b, off, [.int .i64 (β.env.f (2000 + k) [e.val β.env])], rfl, ⟨rfl, trivial⟩, fun x hx => ?_, rfl, fun j x hj => ?_⟩
      · rw [List.mem_singleton] at hx; subst hx; rfl
      · cases j with
        | succ j => simp at hj
        | zero =>
          simp at hj; subst hj
          rcases hq with q | q
          · exact (h.base _ _ _ q).2
          · exact (h.still _ _ _ q).1

theorem splice_some {l : List C} {off : Nat} {new r : List C} (h : splice l off new = some r) : off + new.length ≤ l.length ∧ r = l.take off ++ (new ++ l.drop (off + new.length)) := by
  unfold splice at h
  cases hb : Nat.ble (off + new.length) l.length with
  | false => rw [hb] at h; simp at h
  | true => rw [hb] at h; simp only [cond_true, Option.some.injEq] at h; exact ⟨Nat.le_of_ble_eq_true hb, h.symm⟩

theorem storeN_rel (h : Inv cx B β st w) {p : C} {v : Value} {new : List C} {st' : St} {vs : List Value} (hv : CRel β p v) (hs : storeN fl st p new = some st') (hn : All2 (CRel β) new vs) (hsc : ScalL vs) :
    ∃ b off w', v = adr b off ∧ (storeCells ⟨b, off, none⟩ vs).run P w = .ok () w' ∧ Good cx B fl β st w β st' w' := by
  cases p with
  | ptr id off =>
    obtain ⟨b, e, hb, rfl⟩ := hv
    simp only [storeN, St.get] at hs
    cases hf : Nat.ble fl id with
    | false => rw [hf] at hs; simp at hs
    | true =>
      rw [hf] at hs
      simp only [cond_true] at hs
      split at hs
      · rename_i l t fx hg
        split at hs
        · rename_i l' hl'
          simp only [Option.some.injEq] at hs
          subst hs
          obtain ⟨b', e', ob, hb', hh, cur, pre, rest, rfl, hcur, hr, hsl, hfx, hfx'⟩ := h.live id _ hg
          rw [hb] at hb'; cases hb'
          obtain ⟨hle, rfl⟩ := splice_some hl'
          have hvl := hn.length
          have hrl := hr.length
          have hsz : cur.size = pre.length + rest.length := by rw [← Array.length_toList, hcur, List.length_append]
          have hrun := run_storeCells_at P b off t vs 0 cur w hh (by omega) (fun v hv => scal_oneCell (hsc v hv))
          simp only [Nat.add_zero] at hrun
          refine ⟨b, off, _, rfl, hrun, ?_⟩
          refine Good.write h (Nat.le_of_ble_eq_true hf) hg hb ?_ (chg_setRow hh)
          have hcut : cur.toList.take off ++ vs ++ cur.toList.drop (off + vs.length) = (pre.take off ++ (vs ++ pre.drop (off + vs.length))) ++ rest := by
            rw [hcur, List.take_append_of_le_length (by omega), List.drop_append_of_le_length (by omega)]
            simp [List.append_assoc]
          refine ⟨_, pre.take off ++ (vs ++ pre.drop (off + vs.length)), rest, rfl, ?_, ?_, ?_, hfx, hfx'⟩
          · simpa using hcut
          · rw [← hvl]; exact (hr.take off).append (hn.append (hr.drop _))
          · intro x hx
            simp only [List.append_assoc] at hx
            rcases List.mem_append.1 hx with hx | hx
            · exact hsl x (List.mem_of_mem_take hx)
            · rcases List.mem_append.1 hx with hx | hx
              · exact hsc x hx
              · exact hsl x (List.mem_of_mem_drop hx)
        · cases hs
      · cases hs
  | sc => simp [storeN] at hs
  | sl => simp [storeN] at hs
  | sy => simp [storeN] at hs
  | sb => simp [storeN] at hs
  | slx => simp [storeN] at hs
  | stx => simp [storeN] at hs
  | osl => simp [storeN] at hs
  | optr => simp [storeN] at hs
  | mp => simp [storeN] at hs
  | fn => simp [storeN] at hs
  | unk => simp [storeN] at hs
  | yl => simp [storeN] at hs
  | os => simp [storeN] at hs
  | ot => simp [storeN] at hs
  | hi => simp [storeN] at hs
  | ost => simp [storeN] at hs
  | oat => simp [storeN] at hs
  | rs => simp [storeN] at hs

theorem behind_rel {a : C} {v : Value} {n : Nat} {p : C} (h : CRel β a v) (hb : behind a n = some p) : ∃ b off, v = adr b off ∧ CRel β p (adr b (off + n)) := by
  cases a with
  | ptr id off =>
    simp only [behind, Option.some.injEq] at hb; subst hb
    obtain ⟨b, e, hb, rfl⟩ := h
    exact ⟨b, off, rfl, b, e, hb, rfl⟩
  | sc v =>
    have hv : _ = v := h
    subst hv
    simp only [behind] at hb
    split at hb
    · cases ‹C.sc _ = _›
    · rename_i b off heq
      simp only [C.sc.injEq] at heq
      subst heq
      simp only [Option.some.injEq] at hb; subst hb
      exact ⟨b, off, rfl, rfl⟩
    · cases ‹C.sc _ = _›
    · cases hb
  | sl => simp [behind] at hb
  | sy => simp [behind] at hb
  | sb => simp [behind] at hb
  | slx => simp [behind] at hb
  | stx => simp [behind] at hb
  | osl => simp [behind] at hb
  | optr k off =>
    have hv : v = _ := h
    subst hv
    simp only [behind, Option.some.injEq] at hb; subst hb
    exact ⟨_, _, rfl, by show _ = _; rw [Nat.add_assoc]⟩
  | mp => simp [behind] at hb
  | fn => simp [behind] at hb
  | unk => simp [behind] at hb
  | yl => simp [behind] at hb
  | os => simp [behind] at hb
  | ot => simp [behind] at hb
  | hi => simp [behind] at hb
  | ost => simp [behind] at hb
  | oat => simp [behind] at hb
  | rs => simp [behind] at hb

theorem toC_rel {v : V} {v' : Value} {p : C} (h : VRel β v v') (hp : toC v = some p) : CRel β p v' := by
  cases v with
  | tup => simp [toC] at hp
  | a x => cases x with
    | agg => simp [toC] at hp
    | c x => simp only [toC, Option.some.injEq] at hp; subst hp; exact h
end Go.Am

namespace Go.Am
open Go

variable {cx : Cx} {P : Program} {B fl : Nat} {β : Be} {st : St} {w : World}

theorem run_loadVar (hx : CxOk cx P) {t : TypeId} {ty : Ty} (ht : cx.ty t = some ty) (h : Inv cx B β st w) {p : C} {v : Value} (hp : CRel β p v) {u : V}
    (hl : (loadN cx st p (bif isAggT ty.under then ty.size else 1)).bind (pack ty) = some u) :
    ∃ u', (Instr.loadAt t v).run P w = .ok u' w ∧ VRel β u u' := by
  obtain ⟨i, z, hi⟩ := hx.is ht
  cases hl' : loadN cx st p (bif isAggT ty.under then ty.size else 1) with
  | none => rw [hl'] at hl; simp at hl
  | some l =>
    rw [hl'] at hl
    simp only [Option.bind_some] at hl
    obtain ⟨b, off, vs, rfl, h1, h2, h3, h4⟩ := loadN_rel h hp hl'
    have hcell : ∀ j x, vs[j]? = some x → w.cell? ((⟨b, off, none⟩ : Addr).add j) = some x := fun j x hj => by rw [add_adr]; exact h4 j x hj
    rcases pack_rel hl h1 h2 with ⟨ha, hr⟩ | ⟨ha, x, rfl, hr, _⟩
    · refine ⟨.agg vs.toArray, ?_, hr⟩
      rw [ha] at h3
      simp only [cond_true] at h3
      have := run_loadCells_list (P := P) w ⟨b, off, none⟩ vs hcell
      rw [h3] at this
      simp [Instr.loadAt, Instr.sureAddr, adr, loadVar, hi.run_agg, ha, hi.run_size, this]
    · refine ⟨x, ?_, hr⟩
      have hc := hcell 0 x rfl
      rw [add_adr, Nat.add_zero] at hc
      simp [Instr.loadAt, Instr.sureAddr, adr, loadVar, hi.run_agg, ha, hc]

theorem run_storeVar (hx : CxOk cx P) {t : TypeId} {ty : Ty} (ht : cx.ty t = some ty) (h : Inv cx B β st w) {p : C} {v : Value} (hp : CRel β p v) {u : V} {u' : Value} (hu : VRel β u u') {l : List C} (hl : cellsOf u = some l)
    (hlen : l.length = ty.size) {st' : St} (hs : storeN fl st p l = some st') :
    ∃ w', (Instr.storeAt t v u').run P w = .ok () w' ∧ Good cx B fl β st w β st' w' := by
  obtain ⟨i, z, hi⟩ := hx.is ht
  obtain ⟨h1, h2⟩ := cellsOf_rel hu hl
  obtain ⟨b, off, w', rfl, hr, hg⟩ := storeN_rel (P := P) h hp hs h1 h2
  refine ⟨w', ?_, hg⟩
  have hsz : u'.cells.size = ty.size := by rw [← Array.length_toList, ← h1.length, hlen]
  simp [Instr.storeAt, Instr.sureAddr, adr, storeVar, hi.run_size, hsz, hr]

theorem run_fieldAt (hx : CxOk cx P) {t : TypeId} {x : V} {x' : Value} {f : Nat} {v : V} (hr : VRel β x x') (h : fieldAddr cx t x f = some v) (w : World) :
    ∃ v', (Instr.fieldAt t x' f).run P w = .ok v' w ∧ VRel β v v' := by
  unfold fieldAddr at h
  split at h
  · rename_i ty p ht hp
    obtain ⟨i, z, hi⟩ := hx.is ht
    split at h
    · rename_i fs hu
      split at h
      · rename_i fd hfd
        split at h
        · rename_i fty hft
          obtain ⟨i', z', hi'⟩ := hx.is hft
          cases hz : Nat.beq fty.size 0 with
          | true => rw [hz] at h; simp at h
          | false =>
            rw [hz] at h
            simp only [cond_false, Option.map_eq_some_iff] at h
            obtain ⟨q, hq, rfl⟩ := h
            obtain ⟨b, off, rfl, hr'⟩ := behind_rel (toC_rel hr hp) hq
            have hne : fty.size ≠ 0 := fun e => by rw [e] at hz; simp at hz
            refine ⟨adr b (off + fd.offset), ?_, hr'⟩
            simp [Instr.fieldAt, hi.run_under, hu, hfd, Instr.sureAddr, adr, fieldPlace, hi'.run_size, hne, add_adr]
        · cases h
      · cases h
    · cases h
  · cases h

theorem toInt_rel {v : V} {v' : Value} {n : Int} (h : VRel β v v') (hn : toInt v = some n) : ∃ k, v' = .int k n := by
  unfold toInt at hn
  split at hn
  · rename_i k m
    simp only [Option.some.injEq] at hn; subst hn
    exact ⟨k, h⟩
  · cases hn

theorem idxOk_some {i : Int} {n k : Nat} (h : idxOk i n = some k) : i = k ∧ k < n := by
  unfold idxOk at h
  split at h
  · rename_i m
    cases hb : Nat.blt m n with
    | false => rw [hb] at h; simp at h
    | true =>
      rw [hb] at h
      simp only [cond_true, Option.some.injEq] at h
      subst h
      exact ⟨rfl, by simpa [Nat.blt, Nat.ble_eq, Nat.succ_le_iff] using hb⟩
  · cases h

/-- A slice: where its first cell lies. -/
theorem sliceOf_rel {v : V} {v' : Value} {a : Option C} {len cap : Nat} {fx : Bool} (h : VRel β v v') (hs : sliceOf v = some (a, len, cap, fx)) :
    (a = none ∧ fx = false ∧ v' = .slice none len cap) ∨
    ∃ p b off c, a = some p ∧ CRel β p (adr b off) ∧ v' = .slice (some ⟨b, off, none⟩) len c ∧ cap ≤ c ∧ (fx = false → c = cap) ∧
      (fx = true → ∃ id e, v = .a (.c (.sl id off len cap true)) ∧ p = .ptr id off ∧ β id = some (b, e) ∧ c = cap + e) := by
  unfold sliceOf at hs
  split at hs
  · rename_i id off len' cap' fx'
    simp only [Option.some.injEq, Prod.mk.injEq] at hs
    obtain ⟨rfl, rfl, rfl, rfl⟩ := hs
    obtain ⟨b, e, hb, rfl⟩ := h
    refine .inr ⟨_, b, off, _, rfl, ⟨b, e, hb, rfl⟩, rfl, ?_, ?_, ?_⟩
    · cases fx' <;> simp
    · intro hf; rw [hf]; rfl
    · intro hf; subst hf; exact ⟨id, e, rfl, rfl, hb, rfl⟩
  · simp only [Option.some.injEq, Prod.mk.injEq] at hs
    obtain ⟨rfl, rfl, rfl, rfl⟩ := hs
    exact .inl ⟨rfl, rfl, h⟩
  · simp only [Option.some.injEq, Prod.mk.injEq] at hs
    obtain ⟨rfl, rfl, rfl, rfl⟩ := hs
    exact .inr ⟨_, _, _, _, rfl, rfl, h, Nat.le_refl _, fun _ => rfl, fun hf => by cases hf⟩
  · cases hs

theorem sliceRd_rel {v : V} {v' : Value} {a : Option C} {len : Nat} (h : VRel β v v') (hs : sliceRd v = some (a, len)) :
    (a = none ∧ ∃ c, v' = .slice none len c) ∨ ∃ p b off c, a = some p ∧ CRel β p (adr b off) ∧ v' = .slice (some ⟨b, off, none⟩) len c := by
  unfold sliceRd at hs
  split at hs
  · rename_i k off len'
    simp only [Option.some.injEq, Prod.mk.injEq] at hs
    obtain ⟨rfl, rfl⟩ := hs
    obtain ⟨c, _, rfl⟩ := h
    exact .inr ⟨_, _, _, c, rfl, rfl, rfl⟩
  · simp only [Option.map_eq_some_iff] at hs
    obtain ⟨⟨a', n, cap, fx⟩, h1, h2⟩ := hs
    simp only [Prod.mk.injEq] at h2
    obtain ⟨rfl, rfl⟩ := h2
    rcases sliceOf_rel h h1 with ⟨rfl, _, rfl⟩ | ⟨p, b, off, c, rfl, hp, rfl, _⟩
    · exact .inl ⟨rfl, _, rfl⟩
    · exact .inr ⟨p, b, off, c, rfl, hp, rfl⟩

theorem run_indexAt (hx : CxOk cx P) {t : TypeId} {x ix : V} {x' ix' : Value} {v : V} (hr : VRel β x x') (hri : VRel β ix ix') (h : indexAddr cx t x ix = some v) (w : World) :
    ∃ v', (Instr.indexAt t x' ix').run P w = .ok v' w ∧ VRel β v v' := by
  unfold indexAddr at h
  split at h
  · rename_i ty n ht hn
    obtain ⟨i, z, hi⟩ := hx.is ht
    obtain ⟨k', rfl⟩ := toInt_rel hri hn
    split at h
    · rename_i len e hu
      split at h
      · rename_i k ety p hk het hp
        obtain ⟨rfl, hlt⟩ := idxOk_some hk
        obtain ⟨i', z', hi'⟩ := hx.is het
        simp only [Option.map_eq_some_iff] at h
        obtain ⟨q, hq, rfl⟩ := h
        obtain ⟨b, off, rfl, hr'⟩ := behind_rel (toC_rel hr hp) hq
        refine ⟨adr b (off + k * ety.size), ?_, hr'⟩
        simp [Instr.indexAt, asIntOf, hi.run_under, hu, Instr.sureAddr, adr, hlt, hi'.run_size, add_adr]
      · cases h
    · rename_i e hu
      split at h
      · rename_i p len ety hs het
        split at h
        · rename_i k hk
          obtain ⟨rfl, hlt⟩ := idxOk_some hk
          obtain ⟨i', z', hi'⟩ := hx.is het
          simp only [Option.map_eq_some_iff] at h
          obtain ⟨q, hq, rfl⟩ := h
          rcases sliceRd_rel hr hs with ⟨h1, _⟩ | ⟨p', b, off, c, h1, h2, rfl⟩
          · cases h1
          · cases h1
            obtain ⟨b', off', heq, hr'⟩ := behind_rel h2 hq
            simp only [adr, Value.pointer.injEq, Option.some.injEq, Addr.mk.injEq, and_true] at heq
            obtain ⟨rfl, rfl⟩ := heq
            refine ⟨adr b (off + k * ety.size), ?_, hr'⟩
            simp [Instr.indexAt, asIntOf, hi.run_under, hu, adr, hlt, hi'.run_size, add_adr]
        · cases h
      · cases h
    · cases h
  · cases h

theorem isYes_ask (hf : Facts cx β.env) {t : Tst} (h : isYes (ask cx t) = true) : t.holds β.env = true := by
  cases hq : ask cx t with
  | none => rw [hq] at h; cases h
  | some b => rw [hq] at h; have e : b = true := h; subst e; exact ask_holds hf hq
theorem isNo_ask (hf : Facts cx β.env) {t : Tst} (h : isNo (ask cx t) = true) : t.holds β.env = false := by
  cases hq : ask cx t with
  | none => rw [hq] at h; cases h
  | some b =>
    rw [hq] at h
    cases b with
    | true => cases h
    | false => exact ask_holds hf hq

theorem run_indexX (hx : CxOk cx P) (hf : Facts cx β.env) {t : TypeId} {x ix : V} {x' ix' : Value} {v : V} (hr : VRel β x x') (hri : VRel β ix ix') (h : indexAddrX cx t x ix = some v) (w : World) :
    ∃ v', (Instr.indexAt t x' ix').run P w = .ok v' w ∧ VRel β v v' := by
  unfold indexAddrX at h
  split at h
  case h_2 => exact run_indexAt hx hr hri h w
  rename_i k o n ho
  unfold ostOf at ho
  split at ho
  case h_2 => cases ho
  rename_i k2 o2 n2
  simp only [Option.some.injEq, Prod.mk.injEq] at ho
  obtain ⟨e1, e2, e3⟩ := ho
  subst e1; subst e2; subst e3
  unfold indexOst at h
  split at h
  case h_2 => cases h
  rename_i ty e ht he
  split at h
  case h_2 => cases h
  rename_i el hu
  split at h
  case h_2 => cases h
  rename_i ety het
  cases hc : (Nat.beq ety.size 1 && isYes (ask cx (.le (.lit 0) e)) && isNo (ask cx (.le n2 e))) with
  | false => rw [hc] at h; cases h
  | true =>
  rw [hc] at h
  simp only [cond_true, Option.some.injEq] at h; subst h
  simp only [Bool.and_eq_true] at hc
  obtain ⟨⟨c1, c2⟩, c3⟩ := hc
  obtain ⟨i, z, hi⟩ := hx.is ht
  obtain ⟨i', z', hi'⟩ := hx.is het
  have hsz : ety.size = 1 := Nat.eq_of_beq_eq_true c1
  have g1 := of_decide_eq_true (isYes_ask hf c2)
  have g2 := of_decide_eq_false (isNo_ask hf c3)
  obtain ⟨a, m, c, rfl, hmc, hm, hj⟩ := hr
  simp only [E.val, E.vals, List.headD_cons] at g1 hm
  obtain ⟨k', hix⟩ : ∃ k', ix' = .int k' (e.val β.env) := by
    unfold toEV at he
    split at he
    · rename_i cc
      simp only [Option.map_eq_some_iff] at he
      obtain ⟨⟨k', e'⟩, h1, rfl⟩ := he
      refine ⟨k', ?_⟩
      unfold toE at h1
      split at h1 <;> simp only [Option.some.injEq, Prod.mk.injEq, reduceCtorEq] at h1 <;> obtain ⟨rfl, rfl⟩ := h1 <;> exact hri
    · cases he
  subst hix
  obtain ⟨j, hje⟩ := Int.eq_ofNat_of_zero_le (show (0 : Int) ≤ e.val β.env from g1)
  have hlt : j < m := by
    have : ¬ (n2.val β.env ≤ e.val β.env) := g2
    rw [hje] at this
    have hm' : (m : Int) = n2.val β.env := hm
    omega
  obtain ⟨b, off, rfl, hall⟩ := hj (by omega)
  refine ⟨adr b (off + j), ?_, b, off + j, rfl, ?_⟩
  · rw [hje]
    simp [Instr.indexAt, asIntOf, hi.run_under, hu, adr, hlt, hi'.run_size, hsz, add_adr]
  · have : (E.add o2 e).val β.env = o2.val β.env + (j : Int) := by rw [← hje]; rfl
    rw [this]; exact hall j hlt

theorem run_part (hx : CxOk cx P) {t : TypeId} {ty : Ty} (ht : cx.ty t = some ty) {cs : List C} {a : Array Value} (h1 : All2 (CRel β) cs a.toList) (h2 : ScalL a.toList) {off : Nat} {l : List C} (hs : sub cs off ty.size = some l) {v : V} (hp : pack ty l = some v) (w : World) :
    ∃ v', (part t a off).run P w = .ok v' w ∧ VRel β v v' := by
  obtain ⟨i, z, hi⟩ := hx.is ht
  obtain ⟨rfl, hlen⟩ := sub_some hs
  have hall := (h1.drop off).take ty.size
  have hsc : ScalL ((a.toList.drop off).take ty.size) := fun x hx => h2 x (List.mem_of_mem_drop (List.mem_of_mem_take hx))
  rcases pack_rel hp hall hsc with ⟨ha, hr⟩ | ⟨ha, x, he, hr, _⟩
  · refine ⟨_, ?_, hr⟩
    have : a.extract off (off + ty.size) = ((a.toList.drop off).take ty.size).toArray := by
      apply Array.toList_inj.1
      simp [Array.toList_extract]
    simp [part, hi.run_agg, ha, hi.run_size, this]
  · refine ⟨x, ?_, hr⟩
    have : a[off]? = some x := by
      have h0 : ((a.toList.drop off).take ty.size)[0]? = some x := by rw [he]; rfl
      have hlt := (List.getElem?_eq_some_iff.1 h0).1
      rw [List.getElem?_take, if_pos (by simp at hlt; omega), List.getElem?_drop, Nat.add_zero, Array.getElem?_toList] at h0
      exact h0
    simp [part, hi.run_agg, ha, this]

theorem run_field (hx : CxOk cx P) {t : TypeId} {x : V} {x' : Value} {f : Nat} {v : V} (hr : VRel β x x') (h : fieldOp cx t x f = some v) (w : World) :
    ∃ v', (Instr.field t x' f).run P w = .ok v' w ∧ VRel β v v' := by
  unfold fieldOp at h
  split at h
  · rename_i ty cs ht
    obtain ⟨i, z, hi⟩ := hx.is ht
    split at h
    · rename_i fs hu
      split at h
      · rename_i fd hfd
        split at h
        · rename_i fty hft
          split at h
          · rename_i l hl
            obtain ⟨a, rfl, h1, h2⟩ := hr
            obtain ⟨v', hv', hr'⟩ := run_part hx hft h1 h2 hl h w
            refine ⟨v', ?_, hr'⟩
            simp [Instr.field, hi.run_under, hu, hfd, asAgg, hv']
          · cases h
        · cases h
      · cases h
    · cases h
  · cases h

theorem run_index0 (hx : CxOk cx P) {t : TypeId} {x ix : V} {x' ix' : Value} {v : V} (hr : VRel β x x') (hri : VRel β ix ix') (h : indexOp0 cx t x ix = some v) (w : World) :
    ∃ v', (Instr.index t x' ix').run P w = .ok v' w ∧ VRel β v v' := by
  unfold indexOp0 at h
  split at h
  · rename_i ty n ht hn
    obtain ⟨i, z, hi⟩ := hx.is ht
    obtain ⟨k', rfl⟩ := toInt_rel hri hn
    split at h
    · rename_i len e cs hu
      split at h
      · rename_i k ety hk het
        obtain ⟨rfl, hlt⟩ := idxOk_some hk
        obtain ⟨i', z', hi'⟩ := hx.is het
        split at h
        · rename_i l hl
          obtain ⟨a, rfl, h1, h2⟩ := hr
          obtain ⟨v', hv', hr'⟩ := run_part hx het h1 h2 hl h w
          refine ⟨v', ?_, hr'⟩
          simp [Instr.index, asIntOf, hi.run_under, hu, hlt, hi'.run_size, hv']
        · cases h
      · cases h
    · rename_i s hu
      split at h
      · rename_i k hk
        obtain ⟨rfl, hlt⟩ := idxOk_some hk
        split at h
        · rename_i b hb
          simp only [Option.some.injEq] at h; subst h
          have hx' : x' = .string s := hr
          subst hx'
          refine ⟨.int .u8 b.toNat, ?_, rfl⟩
          simp [Instr.index, asIntOf, hi.run_under, hu, hb]
        · cases h
      · cases h
    · rename_i k off len hu
      split at h
      · rename_i j hj
        obtain ⟨rfl, hlt⟩ := idxOk_some hj
        simp only [Option.some.injEq] at h; subst h
        obtain ⟨l, rfl, hl, hb⟩ := hr
        have hlt' : j < l.length := by omega
        have hg : (⟨l.toArray⟩ : ByteArray)[j]? = some l[j] := by
          have e1 : (⟨l.toArray⟩ : ByteArray)[j]? = l.toArray[j]? := rfl
          rw [e1]; simp [hlt']
        refine ⟨.int .u8 l[j].toNat, ?_, ?_⟩
        · simp [Instr.index, asIntOf, hi.run_under, hu, hg]
        · show Value.int _ _ = Value.int _ _
          rw [hb j l[j] (by simp [hlt'])]
          rfl
      · cases h
    · cases h
  · cases h

theorem toEV_rel {v : V} {v' : Value} {e : E} (h : VRel β v v') (he : toEV v = some e) : ∃ k, v' = .int k (e.val β.env) := by
  unfold toEV at he
  split at he
  · rename_i c
    simp only [Option.map_eq_some_iff] at he
    obtain ⟨⟨k, e'⟩, hc, rfl⟩ := he
    refine ⟨k, ?_⟩
    unfold toE at hc
    split at hc <;> simp only [Option.some.injEq, Prod.mk.injEq, reduceCtorEq] at hc <;> obtain ⟨rfl, rfl⟩ := hc <;> exact h
  · cases he

theorem isYes_some {o : Option Bool} (h : isYes o = true) : o = some true := by
  cases o with
  | none => cases h
  | some b => cases b <;> first | rfl | cases h
theorem isNo_some {o : Option Bool} (h : isNo o = true) : o = some false := by
  cases o with
  | none => cases h
  | some b => cases b <;> first | rfl | cases h

theorem yes_le {ρ : Env} (hf : Facts cx ρ) {a b : E} (h : isYes (ask cx (.le a b)) = true) : a.val ρ ≤ b.val ρ := by
  have := ask_holds hf (isYes_some h)
  simpa [Tst.holds] using this
theorem no_le {ρ : Env} (hf : Facts cx ρ) {a b : E} (h : isNo (ask cx (.le a b)) = true) : b.val ρ < a.val ρ := by
  have := ask_holds hf (isNo_some h)
  simpa [Tst.holds] using this

theorem otOf_some {x : V} {k : Nat} {o n : E} (h : otOf x = some (k, o, n)) : x = .a (.c (.ot k o n)) := by
  unfold otOf at h
  split at h
  · simp only [Option.some.injEq, Prod.mk.injEq] at h; obtain ⟨rfl, rfl, rfl⟩ := h; rfl
  · cases h

theorem rsOf_some {x : V} {e : E} {n : Nat} (h : rsOf x = some (e, n)) : x = .a (.c (.rs e n)) := by
  unfold rsOf at h
  split at h
  · simp only [Option.some.injEq, Prod.mk.injEq] at h
    obtain ⟨rfl, rfl⟩ := h; rfl
  · cases h

theorem run_index (hx : CxOk cx P) (hf : Facts cx β.env) {t : TypeId} {x ix : V} {x' ix' : Value} {v : V} (hr : VRel β x x') (hri : VRel β ix ix') (h : indexOp cx t x ix = some v) (w : World) :
    ∃ v', (Instr.index t x' ix').run P w = .ok v' w ∧ VRel β v v' := by
  unfold indexOp at h
  split at h
  case h_2 =>
    split at h
    case h_2 => exact run_index0 hx hr hri h w
    rename_i e n hrs
    have := rsOf_some hrs; subst this
    unfold indexRs at h
    split at h
    case h_2 => cases h
    rename_i ty i ht hn
    obtain ⟨ii, z, hi⟩ := hx.is ht
    obtain ⟨k', rfl⟩ := toInt_rel hri hn
    split at h
    case h_2 => cases h
    rename_i hu
    split at h
    case h_2 => cases h
    rename_i j hj
    obtain ⟨rfl, hlt⟩ := idxOk_some hj
    simp only [Option.some.injEq] at h; subst h
    obtain ⟨rfl, hsz⟩ := hr
    have hlt' : j < (Utf8.encode (e.val β.env)).size := by omega
    have hlt2 : j < (Utf8.encode (e.val β.env)).data.toList.length := hlt'
    have hg : (Utf8.encode (e.val β.env))[j]? = some ((Utf8.encode (e.val β.env)).data.toList[j]) := by
      have e1 : (Utf8.encode (e.val β.env))[j]? = (Utf8.encode (e.val β.env)).data[j]? := rfl
      rw [e1, ← Array.getElem?_toList]; exact List.getElem?_eq_getElem hlt2
    refine ⟨.int .u8 ((Utf8.encode (e.val β.env)).data.toList[j]).toNat, ?_, ?_⟩
    · simp only [Instr.index, asIntOf, Sem.run_bind, hi.run_under, hu, Result.andThen_ok, Sem.run_pure]
      simp [hg]
    · show Value.int _ _ = Value.int _ _
      congr 1
      show _ = (((Utf8.encode (e.val β.env)).data.toList.getD j 0).toNat : Int)
      rw [List.getD_eq_getElem?_getD, List.getElem?_eq_getElem hlt2]; rfl
  rename_i k o n hot
  have := otOf_some hot; subst this
  unfold indexOt at h
  split at h
  case h_2 => cases h
  rename_i ty e ht he
  obtain ⟨i, z, hi⟩ := hx.is ht
  split at h
  case h_2 => cases h
  rename_i hu
  cases hc : (isYes (ask cx (.le (.lit 0) e)) && isNo (ask cx (.le n e))) with
  | false => rw [hc] at h; cases h
  | true =>
  rw [hc] at h
  simp only [cond_true, Option.some.injEq] at h; subst h
  simp only [Bool.and_eq_true] at hc
  have h0 := yes_le hf hc.1
  have h1 := no_le hf hc.2
  obtain ⟨k', rfl⟩ := toEV_rel hri he
  obtain ⟨l, rfl, hl, hb⟩ := hr
  have h0' : 0 ≤ e.val β.env := h0
  obtain ⟨j, hj⟩ : ∃ j : Nat, e.val β.env = j := ⟨(e.val β.env).toNat, by omega⟩
  have hlt' : j < l.length := by omega
  have hg : (⟨l.toArray⟩ : ByteArray)[j]? = some l[j] := by
    have e1 : (⟨l.toArray⟩ : ByteArray)[j]? = l.toArray[j]? := rfl
    rw [e1]; simp [hlt']
  refine ⟨.int .u8 l[j].toNat, ?_, ?_⟩
  · rw [hj]; simp [Instr.index, asIntOf, hi.run_under, hu, hg]
  · show Value.int _ _ = Value.int _ _
    rw [hb j l[j] (by simp [hlt']), ← hj]
    rfl
end Go.Am
