/- The abstract machine: blocks made, written, taken away; cells read and written. -/
import Derived.Test.YtbfonnoebbjenaaGreatDoorAmB
import Derived.Laws.CopyRow
import Derived.Laws.Entries
namespace Go.Am
open Go

structure CxOk (cx : Cx) (P : Program) : Prop where
  fn : ∀ f F, cx.fn f = some F → P.funcs[f]? = some F ∧ (F.name == "runtime.NumGoroutine") = false
  plans : ∀ f F c, cx.fn f = some F → F.body = some c → plansOk cx f c = true
  ty : ∀ t, cx.ty t = tyOf P t
  eqs : ∀ t, cx.eqT t = true → P.stoodInHeld t = false ∧ P.eqGuardType P.depth t = false ∧ ∀ fs, P.underlying t = some (.struct fs) → ∀ f ∈ fs.toList, f.name ≠ "_"

structure TyIs (P : Program) (t : TypeId) (ty : Ty) (i : TypeInfo) (z : Value) : Prop where
  info : P.info? t = some i
  under : P.underlying t = some ty.under
  size : i.size = ty.size
  bytes : i.bytes = ty.bytes
  zero : i.zero = some z
  cells : z.cells.toList = ty.zero
  len : ty.zero.length = ty.size
  scal : ScalL ty.zero
  agg : isAggT ty.under = isAggV z

theorem CxOk.is {cx : Cx} {P : Program} (h : CxOk cx P) {t : TypeId} {ty : Ty} (ht : cx.ty t = some ty) : ∃ i z, TyIs P t ty i z := by
  rw [h.ty] at ht
  unfold tyOf at ht
  split at ht
  · rename_i i u hi hu
    split at ht
    · rename_i z hz
      cases hc : (Nat.beq z.cells.toList.length i.size && z.cells.toList.all scal && (bif isAggT u then isAggV z else scal z)) with
      | false => rw [hc] at ht; simp at ht
      | true =>
        rw [hc] at ht
        simp only [cond_true, Option.some.injEq] at ht
        subst ht
        simp only [Bool.and_eq_true] at hc
        obtain ⟨⟨h1, h2⟩, h3⟩ := hc
        have h1' := Nat.eq_of_beq_eq_true h1
        refine ⟨i, z, hi, hu, rfl, rfl, hz, rfl, h1', fun x hx => List.all_eq_true.1 h2 x hx, ?_⟩
        cases ha : isAggT u with
        | true => rw [ha] at h3; exact h3.symm
        | false =>
          rw [ha] at h3
          cases z <;> simp_all [scal, isAggV]
    · cases ht
  · cases ht

section
variable {P : Program} {t : TypeId} {ty : Ty} {i : TypeInfo} {z : Value}
theorem TyIs.run_under (h : TyIs P t ty i z) (w : World) : (underlying t).run P w = .ok ty.under w := run_underlying h.under w
theorem TyIs.run_info (h : TyIs P t ty i z) (w : World) : (typeInfo t).run P w = .ok i w := by simp [typeInfo, h.info]
theorem TyIs.run_size (h : TyIs P t ty i z) (w : World) : (sizeOf t).run P w = .ok ty.size w := by simp [sizeOf, h.run_info, h.size]
theorem TyIs.run_zero (h : TyIs P t ty i z) (w : World) : (zeroValue t).run P w = .ok z w := by simp [zeroValue, h.run_info, h.zero]
theorem TyIs.run_agg (h : TyIs P t ty i z) (w : World) : (isAgg t).run P w = .ok (isAggT ty.under) w := by
  simp only [isAgg, Sem.run_bind, h.run_under, Result.andThen_ok]
  cases ty.under <;> rfl
end

theorem scal_oneCell {v : Value} (h : scal v = true) : v.oneCell' = true := by cases v <;> simp_all [scal, Value.oneCell']

theorem add_adr (b off n : Nat) : (⟨b, off, none⟩ : Addr).add n = ⟨b, off + n, none⟩ := by
  unfold Addr.add; split
  · rename_i h; subst h; rfl
  · rfl

/-! ### the frame -/
structure FrRel (β : Be) (fr : Fr) (a : Act) : Prop where
  size : fr.n = a.tmps.size
  val : ∀ t v, fr.t.get t = some v → VRel β v (a.tmps.getD t undef)

theorem FrRel.mono {β β' : Be} (h : Ext β β') {fr : Fr} {a : Act} (r : FrRel β fr a) : FrRel β' fr a := ⟨r.size, fun t v hv => VRel.mono h (r.val t v hv)⟩

theorem FrRel.put {β : Be} {fr fr' : Fr} {a : Act} (r : FrRel β fr a) {d : Option Tmp} {v : V} {v' : Value} (hv : VRel β v v') (hp : fr.put d v = some fr') : FrRel β fr' (a.put d v') := by
  cases d with
  | none => simp only [Fr.put, Option.some.injEq] at hp; subst hp; exact r
  | some d =>
    simp only [Fr.put] at hp
    cases hb : Nat.blt d fr.n with
    | false => rw [hb] at hp; simp at hp
    | true =>
      rw [hb] at hp
      simp only [cond_true, Option.some.injEq] at hp
      subst hp
      have hlt : d < fr.n := by simpa [Nat.blt, Nat.ble_eq, Nat.succ_le_iff] using hb
      refine ⟨by simp [Act.put, r.size], fun t u hu => ?_⟩
      rw [T.get_set] at hu
      simp only [Act.put]
      by_cases e : t = d
      · subst e
        rw [if_pos rfl] at hu
        cases hu
        have : t < a.tmps.size := by rw [← r.size]; exact hlt
        simpa [Array.getD, this] using hv
      · rw [if_neg e] at hu
        have := r.val t u hu
        have e' : d ≠ t := fun h => e h.symm
        simpa [Array.getD_eq_getD_getElem?, Array.getElem?_setIfInBounds_ne e'] using this

theorem ev_rel {β : Be} {fr : Fr} {a : Act} (r : FrRel β fr a) {x : Operand} {v : V} (h : ev fr x = some v) : VRel β v (a.eval x) := by
  cases x with
  | tmp t => exact r.val t v h
  | const u =>
    simp only [ev] at h
    cases hs : scal u with
    | false => rw [hs] at h; simp at h
    | true => rw [hs] at h; simp only [cond_true, Option.some.injEq] at h; subst h; rfl
  | global g => simp only [ev, Option.some.injEq] at h; subst h; rfl
  | func f => simp only [ev, Option.some.injEq] at h; subst h; exact ⟨[], trivial, rfl⟩

theorem cellsOf_rel {β : Be} {v : V} {v' : Value} {l : List C} (h : VRel β v v') (hc : cellsOf v = some l) : All2 (CRel β) l v'.cells.toList ∧ ScalL v'.cells.toList := by
  cases v with
  | tup l => simp [cellsOf] at hc
  | a x =>
    cases x with
    | agg m =>
      simp only [cellsOf, Option.some.injEq] at hc; subst hc
      obtain ⟨a, rfl, h1, h2⟩ := h
      exact ⟨h1, h2⟩
    | c x =>
      have one : scal v' = true → v'.cells.toList = [v'] := fun hs => by cases v' <;> simp_all [scal, Value.cells]
      have fin : cellsOf (.a (.c x)) = some [x] → scal v' = true → All2 (CRel β) l v'.cells.toList ∧ ScalL v'.cells.toList := fun he hs => by
        rw [he] at hc; cases hc
        rw [one hs]
        exact ⟨⟨h, trivial⟩, fun y hy => by simp at hy; exact hy ▸ hs⟩
      cases x with
      | sc v =>
        simp only [cellsOf] at hc
        cases hs : scal v with
        | false => rw [hs] at hc; simp at hc
        | true =>
          have hv : v' = v := h
          exact fin (by simp [cellsOf, hs]) (by rw [hv]; exact hs)
      | sy k e => have hv : v' = _ := h; exact fin rfl (by rw [hv]; rfl)
      | sb e => have hv : v' = _ := h; exact fin rfl (by rw [hv]; rfl)
      | slx e => obtain ⟨a, n, c, rfl, _⟩ := h; exact fin rfl rfl
      | stx e => obtain ⟨s, rfl, _⟩ := h; exact fin rfl rfl
      | osl k off len => obtain ⟨c, _, rfl⟩ := h; exact fin rfl rfl
      | optr k off => have hv : v' = _ := h; exact fin rfl (by rw [hv]; rfl)
      | ptr id off => obtain ⟨b, e, _, rfl⟩ := h; exact fin rfl rfl
      | sl id off len cap fx => obtain ⟨b, e, _, rfl⟩ := h; exact fin rfl rfl
      | mp id => obtain ⟨b, e, _, rfl⟩ := h; exact fin rfl rfl
      | fn f caps => obtain ⟨bs, _, rfl⟩ := h; exact fin rfl rfl
      | unk => exact fin rfl h

theorem pack_rel {β : Be} {ty : Ty} {l : List C} {v : V} {vs : List Value} (hp : pack ty l = some v) (h : All2 (CRel β) l vs) (hs : ScalL vs) :
    (isAggT ty.under = true ∧ VRel β v (.agg vs.toArray)) ∨ (isAggT ty.under = false ∧ ∃ x, vs = [x] ∧ VRel β v x ∧ scal x = true) := by
  unfold pack at hp
  cases ha : isAggT ty.under with
  | true => rw [ha] at hp; simp only [cond_true, Option.some.injEq] at hp; subst hp; exact .inl ⟨rfl, vs.toArray, rfl, by simpa using h, by simpa using hs⟩
  | false =>
    rw [ha] at hp
    simp only [cond_false] at hp
    cases l with
    | nil => simp at hp
    | cons x l =>
      cases l with
      | cons y l => simp at hp
      | nil =>
        simp only [Option.some.injEq] at hp; subst hp
        cases vs with
        | nil => exact h.elim
        | cons u us =>
          cases us with
          | cons _ _ => exact h.2.elim
          | nil => exact .inr ⟨rfl, u, rfl, h.1, hs u (by simp)⟩

/-! ### the world changed at one block -/
structure Chg (w w' : World) (b : Nat) (ob : Obj) : Prop where
  os : w'.os = w.os
  tape : w'.tape = w.tape
  output : w'.output = w.output
  size : w'.heap.size = w.heap.size
  here : w'.heap[b]? = some ob
  other : ∀ k, k ≠ b → w'.heap[k]? = w.heap[k]?

theorem chg_setRow {w : World} {g : Nat} {old cs : Array Value} {t : TypeId} (hg : w.heap[g]? = some (.cells old t (0, 0))) : Chg w (w.setRow g cs) g (.cells cs t (0, 0)) :=
  ⟨rfl, rfl, rfl, by simp [World.setRow], setRow_heap w g old cs t (0, 0) hg, fun k hk => setRow_other w g k cs hk⟩

theorem chg_obj {w : World} {g : Nat} {old ob : Obj} (hg : w.heap[g]? = some old) : Chg w { w with heap := w.heap.setIfInBounds g ob } g ob := by
  have hlt := (Array.getElem?_eq_some_iff.1 hg).1
  refine ⟨rfl, rfl, rfl, by simp, by simp [hlt], fun k hk => ?_⟩
  rw [Array.getElem?_setIfInBounds_ne (fun e => hk e.symm)]

def upd (β : Be) (id : Nat) (p : Nat × Nat) : Be := ⟨fun i => if i = id then some p else β i, β.env⟩

theorem upd_at (β : Be) (id : Nat) (p : Nat × Nat) (i : Nat) : upd β id p i = if i = id then some p else β i := rfl

section
variable {cx : Cx} {B fl : Nat} {β : Be} {st : St} {w w' : World}

theorem Inv.fresh (h : Inv cx B β st w) {id : Nat} (hid : st.next ≤ id) : β id = none := by
  cases e : β id with
  | none => rfl
  | some p => have := (h.low id p e).1; omega

theorem ext_upd (h : Inv cx B β st w) (p : Nat × Nat) : Ext β (upd β st.next p) := by
  refine ⟨fun i q hq => ?_, rfl⟩
  rw [upd_at]
  split
  · rename_i e; subst e; rw [h.fresh (Nat.le_refl _)] at hq; cases hq
  · exact hq

theorem get_lt (h : Inv cx B β st w) {id : Nat} {o : O} (ho : st.heap.get id = some o) : id < st.next := by
  obtain ⟨b, e, _, hb, _⟩ := h.live id o ho
  exact (h.low id _ hb).1

/-- A new block. -/
theorem Good.alloc (h : Inv cx B β st w) (hfl : fl ≤ st.next) {o : O} {ob : Obj} {e : Nat} (ho : ORel cx (upd β st.next (w.heap.size, e)) e o ob) (hw : w'.heap = w.heap.push ob)
    (h1 : w'.os = w.os) (h2 : w'.tape = w.tape) (h3 : w'.output = w.output) :
    Good cx B fl β st w (upd β st.next (w.heap.size, e)) (st.new o) w' := by
  have old : ∀ k, k < w.heap.size → w'.heap[k]? = w.heap[k]? := fun k hk => by rw [hw, Array.getElem?_push, if_neg (by omega)]
  have new : w'.heap[w.heap.size]? = some ob := by rw [hw]; simp
  have hext := ext_upd h (w.heap.size, e)
  have hget : ∀ id o', (st.new o).heap.get id = some o' → (id = st.next ∧ o' = o) ∨ (id ≠ st.next ∧ st.heap.get id = some o') := fun id o' hid => by
    simp only [St.new, T.get_set] at hid
    by_cases e : id = st.next
    · rw [if_pos e] at hid; cases hid; exact .inl ⟨e, rfl⟩
    · rw [if_neg e] at hid; exact .inr ⟨e, hid⟩
  refine ⟨hext, fun id hid => ?_, ⟨?_, ?_, ?_, ?_, ?_, h.facts⟩, fun id hid => ?_, Nat.le_succ _, h1, h2, h3, by rw [hw]; simp, fun k hk _ => old k hk, ?_⟩
  · simp only [upd_at]; rw [if_neg (by omega)]
  · intro id p hp
    simp only [upd_at] at hp
    split at hp
    · rename_i e; cases hp; exact ⟨by simp [St.new, e], h.size, by rw [hw]; simp⟩
    · have := h.low id p hp; exact ⟨Nat.lt_succ_of_lt this.1, this.2.1, by rw [hw]; simp; omega⟩
  · intro id o' hid
    rcases hget id o' hid with ⟨rfl, rfl⟩ | ⟨hne, hg⟩
    · exact ⟨_, e, ob, by simp [upd_at], new, ho⟩
    · obtain ⟨b, e', ob', hb, hh, ho'⟩ := h.live id o' hg
      exact ⟨b, e', ob', hext.ids _ _ hb, (old b (h.low _ _ hb).2.2).trans hh, ho'.mono hext⟩
  · intro i j oi oj b e1 e2 hi hj hbi hbj
    rcases hget i oi hi with ⟨rfl, rfl⟩ | ⟨hni, hgi⟩ <;> rcases hget j oj hj with ⟨rfl, rfl⟩ | ⟨hnj, hgj⟩
    · rfl
    · simp only [upd_at, if_pos] at hbi; cases hbi
      simp only [upd_at, if_neg hnj] at hbj
      have := (h.low _ _ hbj).2.2; simp at this
    · simp only [upd_at, if_pos] at hbj; cases hbj
      simp only [upd_at, if_neg hni] at hbi
      have := (h.low _ _ hbi).2.2; simp at this
    · simp only [upd_at, if_neg hni] at hbi
      simp only [upd_at, if_neg hnj] at hbj
      exact h.inj i j oi oj b e1 e2 hgi hgj hbi hbj
  · intro b o' v hv
    obtain ⟨h1, h2⟩ := h.base b o' v hv
    exact ⟨h1, by rw [← h2]; simp only [World.cell?]; rw [old b (Nat.lt_of_lt_of_le h1 h.size)]⟩
  · rw [hw]; have := h.size; simp; omega
  · simp only [St.new]; rw [T.get_set_other _ _ (by omega)]
  · intro id o' b e' hid ho' hb
    rcases hget id o' ho' with ⟨rfl, rfl⟩ | ⟨hne, hg⟩
    · simp only [upd_at, if_pos] at hb; cases hb; exact .inl (Nat.le_refl _)
    · simp only [upd_at, if_neg hne] at hb; exact .inr ⟨id, o', e', hid, hg, hb⟩

/-- A block written. -/
theorem Good.write (h : Inv cx B β st w) {id b e : Nat} (hid : fl ≤ id) {o o' : O} {ob : Obj} (hg : st.heap.get id = some o') (hb : β id = some (b, e)) (ho : ORel cx β e o ob) (hc : Chg w w' b ob) :
    Good cx B fl β st w β (st.put id (some o)) w' := by
  have hget : ∀ i x, (st.put id (some o)).heap.get i = some x → (i = id ∧ x = o) ∨ (i ≠ id ∧ st.heap.get i = some x) := fun i x hi => by
    simp only [St.put, T.get_set] at hi
    by_cases e : i = id
    · rw [if_pos e] at hi; cases hi; exact .inl ⟨e, rfl⟩
    · rw [if_neg e] at hi; exact .inr ⟨e, hi⟩
  have hB := (h.low id _ hb).2.1
  refine ⟨Ext.refl _, fun _ _ => rfl, ⟨?_, ?_, ?_, ?_, ?_, h.facts⟩, fun i hi => ?_, Nat.le_refl _, hc.os, hc.tape, hc.output, by rw [hc.size]; exact Nat.le_refl _, ?_, ?_⟩
  · intro i p hp; have := h.low i p hp; exact ⟨this.1, this.2.1, by rw [hc.size]; exact this.2.2⟩
  · intro i x hi
    rcases hget i x hi with ⟨rfl, rfl⟩ | ⟨hne, hi'⟩
    · exact ⟨b, e, ob, hb, hc.here, ho⟩
    · obtain ⟨b', e', ob', hb', hh, ho'⟩ := h.live i x hi'
      refine ⟨b', e', ob', hb', ?_, ho'⟩
      rw [hc.other b' ?_]; exact hh
      intro hbb; subst hbb
      exact hne (h.inj i id x o' b' e' e hi' hg hb' hb)
  · intro i j oi oj b1 e1 e2 hi hj hbi hbj
    have f : ∀ i x, (st.put id (some o)).heap.get i = some x → ∃ y, st.heap.get i = some y := fun i x hi => by
      rcases hget i x hi with ⟨rfl, _⟩ | ⟨_, hi'⟩
      · exact ⟨_, hg⟩
      · exact ⟨_, hi'⟩
    obtain ⟨y, hy⟩ := f i oi hi
    obtain ⟨y', hy'⟩ := f j oj hj
    exact h.inj i j y y' b1 e1 e2 hy hy' hbi hbj
  · intro bb oo v hv
    obtain ⟨h1, h2⟩ := h.base bb oo v hv
    have hne : bb ≠ b := by simp only at hB; omega
    exact ⟨h1, by rw [← h2]; simp only [World.cell?]; rw [hc.other bb hne]⟩
  · rw [hc.size]; exact h.size
  · simp only [St.put]; rw [T.get_set_other _ _ (by omega)]
  · intro k hk hn
    refine hc.other k fun hkb => ?_
    subst hkb
    exact hn id o' e hid hg hb
  · intro i x b1 e1 hi hx hb1
    rcases hget i x hx with ⟨rfl, rfl⟩ | ⟨_, hi'⟩
    · exact .inr ⟨i, o', e1, hi, hg, hb1⟩
    · exact .inr ⟨i, x, e1, hi, hi', hb1⟩

/-- A block given up; what it held may have changed. -/
theorem Good.drop (h : Inv cx B β st w) {id b e : Nat} (hid : fl ≤ id) {o' : O} {ob : Obj} (hg : st.heap.get id = some o') (hb : β id = some (b, e)) (hc : Chg w w' b ob) :
    Good cx B fl β st w β (st.put id none) w' := by
  have hget : ∀ i x, (st.put id none).heap.get i = some x → i ≠ id ∧ st.heap.get i = some x := fun i x hi => by
    simp only [St.put, T.get_set] at hi
    by_cases e : i = id
    · rw [if_pos e] at hi; cases hi
    · rw [if_neg e] at hi; exact ⟨e, hi⟩
  have hB := (h.low id _ hb).2.1
  refine ⟨Ext.refl _, fun _ _ => rfl, ⟨?_, ?_, ?_, ?_, ?_, h.facts⟩, fun i hi => ?_, Nat.le_refl _, hc.os, hc.tape, hc.output, by rw [hc.size]; exact Nat.le_refl _, ?_, ?_⟩
  · intro i p hp; have := h.low i p hp; exact ⟨this.1, this.2.1, by rw [hc.size]; exact this.2.2⟩
  · intro i x hi
    obtain ⟨hne, hi'⟩ := hget i x hi
    obtain ⟨b', e', ob', hb', hh, ho'⟩ := h.live i x hi'
    refine ⟨b', e', ob', hb', ?_, ho'⟩
    rw [hc.other b' ?_]; exact hh
    intro hbb; subst hbb
    exact hne (h.inj i id x o' b' e' e hi' hg hb' hb)
  · intro i j oi oj b1 e1 e2 hi hj hbi hbj
    exact h.inj i j oi oj b1 e1 e2 (hget i oi hi).2 (hget j oj hj).2 hbi hbj
  · intro bb oo v hv
    obtain ⟨h1, h2⟩ := h.base bb oo v hv
    have hne : bb ≠ b := by simp only at hB; omega
    exact ⟨h1, by rw [← h2]; simp only [World.cell?]; rw [hc.other bb hne]⟩
  · rw [hc.size]; exact h.size
  · simp only [St.put]; rw [T.get_set_other _ _ (by omega)]
  · intro k hk hn
    refine hc.other k fun hkb => ?_
    subst hkb
    exact hn id o' e hid hg hb
  · intro i x b1 e1 hi hx hb1
    exact .inr ⟨i, x, e1, hi, (hget i x hx).2, hb1⟩
end
end Go.Am
