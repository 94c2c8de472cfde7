/- The abstract machine: maps and iterators as the model runs them. The abstract machine: one operation as the model runs it. The abstract machine: calls, guards, results; the code's own rules. -/
import Derived.Test.YthlmjjdlmidnlaaGreatDoorAmK
import Derived.MapKept
import Derived.Lib.UnsafeStr
import Derived.RangeFuncRecord
import Derived.OrdersIn
import Derived.LoopNIn
namespace Go.Am
open Go

variable {cx : Cx} {P : Program} {B fl : Nat} {β : Be} {st : St} {w : World}

theorem keyEq_rel {kd : TypeDesc} {kv key : Value} {c : C} {r : Bool} (hc : CRel β c key) (h : keyEq kd kv c = some r) : Instr.sameNow kd kv key = some r ∧ (r = true → key = kv ∧ ∃ d, MapKept.IsKey d kv) := by
  unfold keyEq at h
  split at h
  · have e1 : key = _ := hc
    subst e1
    rename_i k a k' b
    cases hd : decide (k = k') with
    | false => rw [hd] at h; simp at h
    | true =>
      rw [hd] at h
      simp only [cond_true, Option.some.injEq] at h; subst h
      have := of_decide_eq_true hd; subst this
      refine ⟨by simp [Instr.sameNow], fun e => ?_⟩
      have := eq_of_beq e; subst this; exact ⟨rfl, .int k, rfl⟩
  · have e1 : key = _ := hc
    subst e1
    simp only [Option.some.injEq] at h; subst h
    exact ⟨rfl, fun e => ⟨by rw [(MapKept.bytes_beq _ _).1 e], .string, trivial⟩⟩
  · have e1 : key = _ := hc
    subst e1
    simp only [Option.some.injEq] at h; subst h
    exact ⟨rfl, fun e => ⟨by rw [eq_of_beq e], .bool, trivial⟩⟩
  · cases h

theorem findE_rel {kd : TypeDesc} {kv : Value} : ∀ {es : List (C × A × Nat)} {es' : List MapEntry} {i : Nat} {r : Option (Nat × A)}, All2 (ERel β) es es' → findE kd kv es i = some r →
    (r = none ∧ Instr.findNow kd kv es' i = some none) ∨ ∃ j x e', r = some (i + j, x) ∧ es'[j]? = some e' ∧ (e'.key = kv ∧ ∃ d, MapKept.IsKey d kv) ∧ ARel β x e'.val ∧ Instr.findNow kd kv es' i = some (some (i + j, e'.val))
  | [], [], i, r, _, h => by simp only [findE, Option.some.injEq] at h; exact .inl ⟨h.symm, rfl⟩
  | [], _ :: _, _, _, h, _ => h.elim
  | _ :: _, [], _, _, h, _ => h.elim
  | (c, v, b) :: es, e' :: es', i, r, hr, h => by
    simp only [findE] at h
    split at h
    · rename_i hk
      obtain ⟨h1, h2⟩ := keyEq_rel hr.1.1 hk
      simp only [Option.some.injEq] at h; subst h
      exact .inr ⟨0, v, e', rfl, rfl, h2 rfl, hr.1.2.1, by simp [Instr.findNow, h1]⟩
    · rename_i hk
      obtain ⟨h1, _⟩ := keyEq_rel hr.1.1 hk
      rcases findE_rel hr.2 h with ⟨e1, e2⟩ | ⟨j, x, e2, q1, q2, q3, q4, q5⟩
      · exact .inl ⟨e1, by simp [Instr.findNow, h1, e2]⟩
      · exact .inr ⟨j + 1, x, e2, by rw [q1]; simp; omega, by simpa using q2, q3, q4, by simp [Instr.findNow, h1, q5]; omega⟩
    · cases h

theorem run_checkKeyable {kt : TypeId} {d : TypeDesc} {k : Value} (hd : P.underlying kt = some d) (hk : keyable d = true) (e : Bool) (w : World) : (Instr.checkKey e 10000 kt k).run P w = .ok () w := by
  rw [show 10000 = 9999 + 1 from rfl]
  unfold Instr.checkKey
  simp only [Sem.run_bind, run_underlying hd, Result.andThen]
  cases d <;> simp_all [keyable]

theorem modifyE_rel {kd : TypeDesc} {kv : Value} {x : A} {x' : Value} (hx : ARel β x x') : ∀ {es : List (C × A × Nat)} {es' : List MapEntry} (i : Nat), All2 (ERel β) es es' →
    All2 (ERel β) (modifyE es i (.sc kv) x) (es'.modify i fun e => { e with key := kv, val := x' })
  | [], [], _, _ => by simp [modifyE]; trivial
  | [], _ :: _, _, h => h.elim
  | _ :: _, [], _, h => h.elim
  | (c, v, b) :: es, e' :: es', 0, h => by
    simp only [modifyE, List.modify_zero_cons]
    exact ⟨⟨rfl, hx, h.1.2.2⟩, h.2⟩
  | e :: es, e' :: es', i + 1, h => by
    simp only [modifyE, List.modify_succ_cons]
    exact ⟨h.1, modifyE_rel (kd := kd) hx i h.2⟩

theorem eraseE_rel : ∀ {es : List (C × A × Nat)} {es' : List MapEntry} (i : Nat), All2 (ERel β) es es' → All2 (ERel β) (eraseE es i) (es'.eraseIdx i)
  | [], [], _, _ => by simp [eraseE]; trivial
  | [], _ :: _, _, h => h.elim
  | _ :: _, [], _, h => h.elim
  | _ :: _, _ :: _, 0, h => h.2
  | _ :: _, _ :: _, i + 1, h => ⟨h.1, eraseE_rel i h.2⟩

/-- 'lookup' once the entries are in hand. -/
def lookT (kt et : TypeId) (k : Value) (ok : Bool) (es : Array MapEntry) : Sem Value := do
  Instr.checkKey es.isEmpty 10000 kt k
  let (v, ok2) ← match ← Instr.findKey kt k es.toList with
    | some (_, v) => pure (v, true)
    | none => pure (← zeroValue et, false)
  pure (if ok then .tuple #[v, .bool ok2] else v)

theorem run_lookup_none {t kt et : TypeId} (ht : P.underlying t = some (.map kt et)) (k : Value) (ok : Bool) (w : World) : (Instr.lookup t (.map none) k ok).run P w = (lookT kt et k ok #[]).run P w := by
  simp only [Instr.lookup, Sem.run_bind, run_underlying ht, Result.andThen_ok, Sem.run_pure, lookT]
  rfl

theorem run_lookup_some {t kt et : TypeId} (ht : P.underlying t = some (.map kt et)) {b c : Nat} {es : Array MapEntry} (hb : w.heap[b]? = some (.map es c)) (k : Value) (ok : Bool) : (Instr.lookup t (.map (some b)) k ok).run P w = (lookT kt et k ok es).run P w := by
  simp only [Instr.lookup, Sem.run_bind, run_underlying ht, Result.andThen_ok, Sem.run_pure, lookT, MapKept.run_getObj_map hb]
  rfl

theorem zero_rel {t : TypeId} {ty : Ty} {i : TypeInfo} {z : Value} (hE : TyIs P t ty i z) {v : V} (hz : pack ty (zeroC ty) = some v) : VRel β v z := by
  obtain ⟨r1, r2⟩ := zeroC_rel (β := β) hE
  have hag := hE.agg
  rcases pack_rel hz r1 r2 with ⟨ha, hv⟩ | ⟨ha, y, hy, hv, hs⟩
  · rw [ha] at hag
    cases z <;> simp [isAggV] at hag
    simpa [Value.cells] using hv
  · rw [ha] at hag
    have : z = y := by
      cases z <;> first
        | (simp [isAggV] at hag; done)
        | simpa [Value.cells] using hy
    rw [this]; exact hv

theorem run_lookup (hx : CxOk cx P) {t : TypeId} {m k v : V} {m' k' : Value} {ok : Bool} (hm : VRel β m m') (hk : VRel β k k') (h : Inv cx B β st w) (hl : lookup cx t m k ok st = some v) :
    ∃ v', (Instr.lookup t m' k' ok).run P w = .ok v' w ∧ VRel β v v' := by
  unfold lookup at hl
  split at hl
  case h_2 => cases hl
  rename_i ty ht
  obtain ⟨i, z, hT⟩ := hx.is ht
  split at hl
  case h_2 => cases hl
  rename_i kt et hu
  split at hl
  case h_2 => cases hl
  rename_i kty ety es clock kv hkt het hes
  obtain ⟨i1, z1, hK⟩ := hx.is hkt
  obtain ⟨i2, z2, hE⟩ := hx.is het
  have hk' : k' = kv := hk
  subst hk'
  cases hkd : keyable kty.under with
  | false => rw [hkd] at hl; simp at hl
  | true =>
  rw [hkd] at hl
  simp only [cond_true] at hl
  have hck := fun e => run_checkKeyable (P := P) (k := k') hK.under hkd e w
  have hmt : P.underlying t = some (.map kt et) := by rw [hT.under, hu]
  obtain ⟨es', hr, hrun⟩ : ∃ es' : Array MapEntry, All2 (ERel β) es es'.toList ∧ (Instr.lookup t m' k' ok).run P w = (lookT kt et k' ok es').run P w := by
    rcases mapEs_rel h hm hes with ⟨rfl, rfl⟩ | ⟨id, b, e', es', _, _, rfl, _, hh, hr⟩
    · exact ⟨#[], trivial, run_lookup_none hmt _ _ _⟩
    · exact ⟨es', hr, run_lookup_some hmt hh _ _⟩
  rw [hrun]
  unfold lookT
  simp only [Sem.run_bind, hck, Result.andThen_ok]
  split at hl
  · rename_i j x hf
    rcases findE_rel hr hf with ⟨e1, _⟩ | ⟨j2, x2, e2, q1, q2, q3, q4, q5⟩
    · cases e1
    · cases q1
      rw [MapKept.run_findKey hK.under q5]
      simp only [Option.some.injEq] at hl; subst hl
      cases ok with
      | true => exact ⟨_, rfl, #[e2.val, .bool true], rfl, q4, rfl, trivial⟩
      | false => exact ⟨_, rfl, q4⟩
  · rename_i hf
    rcases findE_rel hr hf with ⟨_, e2⟩ | ⟨_, _, _, q1, _⟩
    · rw [MapKept.run_findKey hK.under e2]
      simp only [Result.andThen_ok, Sem.run_bind, hE.run_zero, Sem.run_pure]
      split at hl
      · rename_i zz hz
        simp only [Option.some.injEq] at hl
        have hzr : ARel β zz z2 := zero_rel hE hz
        subst hl
        cases ok with
        | true => exact ⟨_, rfl, #[z2, .bool false], rfl, hzr, rfl, trivial⟩
        | false => exact ⟨_, rfl, hzr⟩
      · cases hl
    · cases q1
  · cases hl

theorem run_mapUpdate (hx : CxOk cx P) {t : TypeId} {m k x : V} {m' k' x' : Value} (hm : VRel β m m') (hk : VRel β k k') (hxr : VRel β x x') (h : Inv cx B β st w) {st' : St} (hl : mapUpdate cx fl t m k x st = some st') :
    ∃ w', (Instr.mapUpdate t m' k' x').run P w = .ok () w' ∧ Good cx B fl β st w β st' w' := by
  unfold mapUpdate at hl
  split at hl
  case h_2 => cases hl
  rename_i ty ht
  obtain ⟨i, z, hT⟩ := hx.is ht
  split at hl
  case h_2 => cases hl
  rename_i kt et hu
  split at hl
  case h_2 => cases hl
  rename_i kty id kv xa hkt hxa
  obtain ⟨i1, z1, hK⟩ := hx.is hkt
  have hk' : k' = kv := hk
  subst hk'
  have hxr' : ARel β xa x' := by
    cases x with
    | tup l => cases hxa
    | a y => simp only [toA, Option.some.injEq] at hxa; subst hxa; exact hxr
  cases hkd : (keyable kty.under && Nat.ble fl id) with
  | false => rw [hkd] at hl; simp at hl
  | true =>
  rw [hkd] at hl
  simp only [cond_true, St.get] at hl
  simp only [Bool.and_eq_true] at hkd
  have hfl := Nat.le_of_ble_eq_true hkd.2
  have hmt : P.underlying t = some (.map kt et) := by rw [hT.under, hu]
  split at hl
  case h_2 => cases hl
  rename_i es clock hg
  obtain ⟨b, e, hb, rfl⟩ := hm
  obtain ⟨b', e', ob, hb', hh, es', rfl, hr⟩ := h.live id _ hg
  rw [hb] at hb'; cases hb'
  have hck := run_checkKeyable (P := P) (k := k') hK.under hkd.1 false w
  split at hl
  · rename_i j x2 hf
    rcases findE_rel hr hf with ⟨e1, _⟩ | ⟨j2, x3, e2, q1, q2, q3, q4, q5⟩
    · cases e1
    · cases q1
      simp only [Option.some.injEq] at hl; subst hl
      have hj : es'[j2]? = some e2 := by simpa using q2
      obtain ⟨q3, d, hd⟩ := q3
      rw [Nat.zero_add] at q5 ⊢
      refine ⟨_, ?_, Good.write h hfl hg hb (ob := .map (es'.modify j2 fun e => { e with key := k', val := x' }) clock) ⟨_, rfl, ?_⟩ (chg_obj hh)⟩
      · simp [Instr.mapUpdate, run_underlying hmt, MapKept.run_getObj_map hh, hck, MapKept.run_findKey hK.under q5, hj, q3, MapKept.run_keyThatStays hd, MapKept.run_setObj_map _ hh]
      · simpa using modifyE_rel (kd := kty.under) (kv := k') hxr' _ hr
  · rename_i hf
    rcases findE_rel hr hf with ⟨_, e2⟩ | ⟨_, _, _, q1, _⟩
    · simp only [Option.some.injEq] at hl; subst hl
      refine ⟨_, ?_, Good.write h hfl hg hb (ob := .map (es'.push { key := k', val := x', born := clock }) (clock + 1)) ⟨_, rfl, ?_⟩ (chg_obj hh)⟩
      · simp [Instr.mapUpdate, run_underlying hmt, MapKept.run_getObj_map hh, hck, MapKept.run_findKey hK.under e2, MapKept.run_setObj_map _ hh]
      · rw [Array.toList_push]
        exact hr.append ⟨⟨rfl, hxr', rfl⟩, trivial⟩
    · cases q1
  · cases hl


theorem run_mapDelete (hx : CxOk cx P) {t : TypeId} {ty : TypeId} {m k : V} {m' k' : Value} {ts : Array TypeId} (ht0 : ts[0]? = some t) (hm : VRel β m m') (hk : VRel β k k') (h : Inv cx B β st w) {st' : St} (hl : mapDelete cx fl t m k st = some st') :
    ∃ w', (Builtin.delete_ ts ty #[m', k']).run P w = .ok (.tuple #[]) w' ∧ Good cx B fl β st w β st' w' := by
  unfold mapDelete at hl
  split at hl
  case h_2 => cases hl
  rename_i tty ht
  obtain ⟨i, z, hT⟩ := hx.is ht
  split at hl
  case h_2 => cases hl
  rename_i kt et hu
  split at hl
  case h_2 => cases hl
  rename_i kty id kv hkt
  obtain ⟨i1, z1, hK⟩ := hx.is hkt
  have hk' : k' = kv := hk
  subst hk'
  cases hkd : (keyable kty.under && Nat.ble fl id) with
  | false => rw [hkd] at hl; simp at hl
  | true =>
  rw [hkd] at hl
  simp only [cond_true, St.get] at hl
  simp only [Bool.and_eq_true] at hkd
  have hfl := Nat.le_of_ble_eq_true hkd.2
  have hmt : P.underlying t = some (.map kt et) := by rw [hT.under, hu]
  split at hl
  case h_2 => cases hl
  rename_i es clock hg
  obtain ⟨b, e, hb, rfl⟩ := hm
  obtain ⟨b', e', ob, hb', hh, es', rfl, hr⟩ := h.live id _ hg
  rw [hb] at hb'; cases hb'
  have hck := fun e => run_checkKeyable (P := P) (k := k') hK.under hkd.1 e w
  split at hl
  · rename_i j x2 hf
    rcases findE_rel hr hf with ⟨e1, _⟩ | ⟨j2, x3, e2, q1, q2, q3, q4, q5⟩
    · cases e1
    · cases q1
      simp only [Option.some.injEq] at hl; subst hl
      rw [Nat.zero_add] at q5 ⊢
      have hlt : j2 < es'.size := by have := (List.getElem?_eq_some_iff.1 q2).1; simpa using this
      refine ⟨_, ?_, Good.write h hfl hg hb (ob := .map (es'.eraseIdxIfInBounds j2) clock) ⟨_, rfl, ?_⟩ (chg_obj hh)⟩
      · simp [Builtin.delete_, ht0, run_underlying hmt, MapKept.run_getObj_map hh, hck, MapKept.run_findKey hK.under q5, MapKept.run_setObj_map _ hh]
      · rw [Array.eraseIdxIfInBounds, dif_pos hlt, Array.toList_eraseIdx]
        exact eraseE_rel _ hr
  · rename_i hf
    rcases findE_rel hr hf with ⟨_, e2⟩ | ⟨_, _, _, q1, _⟩
    · simp only [Option.some.injEq] at hl; subst hl
      refine ⟨w, ?_, Good.refl h⟩
      have : ({ w with heap := w.heap.setIfInBounds b (.map es' clock) } : World) = w := by
        have : w.heap.setIfInBounds b (.map es' clock) = w.heap := by
          apply Array.ext_getElem?
          intro k
          rw [Array.getElem?_setIfInBounds]
          split
          · rename_i e; subst e
            rw [hh, if_pos (Array.getElem?_eq_some_iff.1 hh).1]
          · rfl
        rw [this]
      simp [Builtin.delete_, ht0, run_underlying hmt, MapKept.run_getObj_map hh, hck, MapKept.run_findKey hK.under e2, MapKept.run_setObj_map _ hh, this]
    · cases q1
  · cases hl

theorem run_makeMap (h : Inv cx B β st w) (hfl : fl ≤ st.next) (t : TypeId) : ∃ v' β' w', (Instr.makeMap t none).run P w = .ok v' w' ∧ VRel β' (.a (.c (.mp st.next))) v' ∧ Good cx B fl β st w β' (st.new (.map [] 0)) w' := by
  refine ⟨.map (some w.heap.size), upd β st.next (w.heap.size, 0), w.alloc (.map #[] 0), ?_, ⟨w.heap.size, 0, upd_self _ _ _, rfl⟩, Good.alloc h hfl ⟨#[], rfl, trivial⟩ rfl rfl rfl rfl⟩
  simp [Instr.makeMap]

theorem run_range (hx : CxOk cx P) {t : TypeId} {ty : Ty} (ht : cx.ty t = some ty) {x v : V} {x' : Value} (hxr : VRel β x x') (h : Inv cx B β st w) (hfl : fl ≤ st.next) {st' : St} (hl : rangeOp cx ty x st = some (v, st')) :
    ∃ v' β' w', (Instr.range t x').run P w = .ok v' w' ∧ VRel β' v v' ∧ Good cx B fl β st w β' st' w' := by
  obtain ⟨i, z, hT⟩ := hx.is ht
  unfold rangeOp at hl
  split at hl
  · rename_i s hu
    have e1 : x' = _ := hxr
    subst e1
    simp only [Option.some.injEq, Prod.mk.injEq] at hl
    obtain ⟨rfl, rfl⟩ := hl
    refine ⟨adr w.heap.size 0, upd β st.next (w.heap.size, 0), w.alloc (.stringIter s 0), ?_, ⟨w.heap.size, 0, upd_self _ _ _, rfl⟩, Good.alloc h hfl rfl rfl rfl rfl rfl⟩
    simp [Instr.range, hT.run_under, hu, adr]
  · rename_i k o n hu
    obtain ⟨l, rfl, hn, hy⟩ := hxr
    simp only [Option.some.injEq, Prod.mk.injEq] at hl
    obtain ⟨rfl, rfl⟩ := hl
    refine ⟨adr w.heap.size 0, upd β st.next (w.heap.size, 0), w.alloc (.stringIter ⟨l.toArray⟩ 0), ?_, ⟨w.heap.size, 0, upd_self _ _ _, rfl⟩, Good.alloc h hfl ⟨l, rfl, hn, hy⟩ rfl rfl rfl rfl⟩
    simp [Instr.range, hT.run_under, hu, adr]
  · rename_i kt et hu
    have e1 : x' = _ := hxr
    subst e1
    simp only [Option.some.injEq, Prod.mk.injEq] at hl
    obtain ⟨rfl, rfl⟩ := hl
    refine ⟨adr w.heap.size 0, upd β st.next (w.heap.size, 0), w.alloc (.mapIter none 0 #[] 0), ?_, ⟨w.heap.size, 0, upd_self _ _ _, rfl⟩, Good.alloc h hfl rfl rfl rfl rfl rfl⟩
    simp [Instr.range, hT.run_under, hu, adr]
  · rename_i kt et id hu
    simp only [St.get] at hl
    split at hl
    · rename_i es clock hg
      simp only [Option.some.injEq, Prod.mk.injEq] at hl
      obtain ⟨rfl, rfl⟩ := hl
      obtain ⟨b, e, hb, rfl⟩ := hxr
      obtain ⟨b', e', ob, hb', hh, es', rfl, hr⟩ := h.live id _ hg
      rw [hb] at hb'; cases hb'
      refine ⟨adr w.heap.size 0, upd β st.next (w.heap.size, 0), w.alloc (.mapIter (some b) clock #[] clock), ?_, ⟨w.heap.size, 0, upd_self _ _ _, rfl⟩, Good.alloc h hfl ⟨b, e, (ext_upd h _).ids _ _ hb, rfl⟩ rfl rfl rfl rfl⟩
      simp [Instr.range, hT.run_under, hu, adr, MapKept.run_getObj_map hh]
    · cases hl
  · cases hl

theorem memN_eq (b : Nat) : ∀ l : List Nat, memN b l = l.contains b
  | [] => rfl
  | x :: l => by
    simp only [memN, List.contains_cons, memN_eq b l]
    cases h : Nat.beq b x with
    | true => have := Nat.eq_of_beq_eq_true h; subst this; simp
    | false =>
      have : b ≠ x := fun e => by subst e; rw [T.beq_true rfl] at h; cases h
      simp [this]

theorem unseen_rel (seen : List Nat) : ∀ {es : List (C × A × Nat)} {es' : List MapEntry}, All2 (ERel β) es es' → All2 (ERel β) (unseen seen es) (es'.filter fun e => !seen.contains e.born)
  | [], [], _ => trivial
  | [], _ :: _, h => h.elim
  | _ :: _, [], h => h.elim
  | (k, v, b) :: es, e' :: es', h => by
    have ih := unseen_rel seen h.2
    have hb : e'.born = b := h.1.2.2
    simp only [unseen, memN_eq, List.filter_cons, hb]
    cases hs : seen.contains b with
    | true => simpa using ih
    | false => exact ⟨h.1, ih⟩

theorem allBelow_rel {n : Nat} : ∀ {es : List (C × A × Nat)} {es' : List MapEntry}, All2 (ERel β) es es' → allBelow n es = true → ∀ e ∈ es', e.born < n
  | [], [], _, _ => by simp
  | [], _ :: _, h, _ => h.elim
  | _ :: _, [], h, _ => h.elim
  | (k, v, b) :: es, e' :: es', h, ha => by
    simp only [allBelow, Bool.and_eq_true] at ha
    have hb : e'.born = b := h.1.2.2
    intro e he
    rcases List.mem_cons.1 he with rfl | he
    · rw [hb]; simpa [Nat.blt, Nat.ble_eq, Nat.succ_le_iff] using ha.1
    · exact allBelow_rel h.2 ha.2 e he

theorem run_choose_next (P : Program) (w : World) (n : Nat) (hn : 0 < n) : ∃ k w2, k < n ∧ w2.heap = w.heap ∧ w2.os = w.os ∧ w2.tape = w.tape ∧ w2.output = w.output ∧ (choose (.mapNext n)).run P w = .ok k w2 := by
  by_cases h : n ≤ 1
  · exact ⟨0, w, hn, rfl, rfl, rfl, rfl, by simp [Question.forced, h]⟩
  · exact ⟨w.tape w.drawn (.mapNext n) % n, { w with drawn := w.drawn + 1 }, Nat.mod_lt _ hn, rfl, rfl, rfl, rfl, by simp [choose, Sem.run, Question.forced, h, Question.cut]⟩

/-- 'next' at a map: the candidates -/
def nextT (r m since : Nat) (seen : Array Nat) (clock : Nat) (candidates : Array (Option MapEntry)) : Sem Value := do
  match candidates[← choose (.mapNext candidates.size)]? with
  | some (some e) =>
    setObj r (.mapIter (some m) since (seen.push e.born) clock)
    pure (.tuple #[.bool true, e.key, e.val])
  | some none => pure (.tuple #[.bool false])
  | none => stuck "Next: no such candidate"

theorem run_next_map {w : World} {r m since : Nat} {seen : Array Nat} {es : Array MapEntry} (hr : w.heap[r]? = some (.mapIter (some m) since seen since)) (hm : w.heap[m]? = some (.map es since)) (hb : ∀ e ∈ es.toList, e.born < since) (ty : TypeId) :
    (Instr.next (adr r 0) false ty).run P w = (nextT r m since seen since ((if (es.filter fun e => !seen.contains e.born).isEmpty then #[none] else #[]) ++ (es.filter fun e => !seen.contains e.born).map some)).run P w := by
  have h1 : (!seen.isEmpty && !es.isEmpty && es.all (fun e => decide (e.born ≥ since))) = false := by
    cases he : es.isEmpty with
    | true => simp
    | false =>
      have : es.all (fun e => decide (e.born ≥ since)) = false := by
        have hne : es.toList ≠ [] := by
          intro h0
          have : es = #[] := by apply Array.toList_inj.1; simpa using h0
          subst this; simp at he
        obtain ⟨x, l, hxl⟩ := List.exists_cons_of_ne_nil hne
        have hx := hb x (by rw [hxl]; simp)
        rw [← Array.all_toList, hxl]
        simp; intro; omega
      simp [this]
  have hsub : ∀ e ∈ (es.filter fun e => !seen.contains e.born), e.born < since := fun e he => hb e (by
    have := (Array.mem_filter.1 he).1
    simpa using this)
  have h2 : (es.filter fun e => !seen.contains e.born).filter (fun e => decide (e.born < since)) = es.filter fun e => !seen.contains e.born := by
    apply Array.filter_eq_self.2
    intro e he; simpa using hsub e he
  have h3 : (es.filter fun e => !seen.contains e.born).filter (fun e => decide (e.born ≥ since)) = #[] := by
    apply Array.filter_eq_empty_iff.2
    intro e he; have := hsub e he; simp; omega
  have hdef : Instr.next (adr r 0) false ty = (do
    match ← getObj r, false with
    | .stringIter s pos, true =>
      if pos < s.size then
        let (c, width) := Utf8.decode s pos
        setObj r (.stringIter s (pos + width))
        pure (.tuple #[.bool true, goInt pos, .int .i32 c])
      else pure (.tuple #[.bool false])
    | .mapIter none _ _ _, false => pure (.tuple #[.bool false])
    | .mapIter (some m) since seen last, false =>
      let .map es clock ← getObj m | stuck "Next: map expected"
      if !seen.isEmpty && !es.isEmpty && es.all (·.born ≥ last) then
        unsupported (.noEntry "instr/Next: every entry that the ranged map held at the last iteration is gone, and it holds new ones")
      let left := es.filter fun e => !seen.contains e.born
      let old := left.filter (·.born < since)
      let new := left.filter (·.born ≥ since)
      let candidates := (if old.isEmpty then #[none] else #[]) ++ (old ++ new).map some
      nextT r m since seen clock candidates
    | _, _ => stuck "Next: iterator of the other kind") := rfl
  rw [hdef]
  have hg : (getObj r).run P w = .ok (.mapIter (some m) since seen since) w := by simp [getObj, Sem.run, hr]
  have hg2 : (getObj m).run P w = .ok (.map es since) w := by simp [getObj, Sem.run, hm]
  simp only [Sem.run_bind, hg, hg2, Result.andThen_ok, h1, h2, h3, Bool.false_eq_true, if_false, Array.append_empty]

/-- One step of the evaluator as the model takes it. -/
def OkV (cx : Cx) (B fl : Nat) (β : Be) (st : St) (w : World) (P : Program) (e : Sem Value) (v : V) (st' : St) : Prop :=
  ∃ v' β' w', e.run P w = .ok v' w' ∧ VRel β' v v' ∧ Good cx B fl β st w β' st' w'

theorem over_rel : VRel β overV (.tuple #[.bool false]) := ⟨#[.bool false], rfl, rfl, trivial⟩

theorem run_nextT {r m : Nat} (h : Inv cx B β st w) {id im e em since : Nat} (hfl : fl ≤ id) {seen : List Nat} (hg : st.heap.get id = some (.mit (some im) since seen since)) (hb : β id = some (r, e)) (hm : β im = some (m, em))
    {left : List (C × A × Nat)} {left' : Array MapEntry} (hr : All2 (ERel β) left left'.toList) (hw : w.heap[r]? = some (.mapIter (some m) since seen.toArray since)) (hne : left ≠ []) :
    ∃ c, c ∈ left ∧ OkV cx B fl β st w P (nextT r m since seen.toArray since ((if left'.isEmpty then #[none] else #[]) ++ left'.map some)) (.tup [.c (.sc (.bool true)), .c c.1, c.2.1]) (st.put id (some (.mit (some im) since (seen ++ [c.2.2]) since))) := by
  have hl : left'.toList.length = left.length := hr.length.symm
  have hpos : 0 < left'.size := by
    rw [← Array.length_toList, hl]
    exact List.length_pos_iff.2 hne
  have hemp : left'.isEmpty = false := by
    simp only [Array.isEmpty, decide_eq_false_iff_not]; omega
  obtain ⟨k, w2, hk, q1, q2, q3, q4, hc⟩ := run_choose_next P w (left'.map some).size (by simpa using hpos)
  have hk' : k < left'.size := by simpa using hk
  have hek : left'.toList[k]? = some left'[k] := by simp [hk']
  obtain ⟨c, hck, hcr⟩ := hr.get' k hek
  refine ⟨c, List.mem_of_getElem? hck, .tuple #[.bool true, left'[k].key, left'[k].val], β, { w2 with heap := w2.heap.setIfInBounds r (.mapIter (some m) since (seen.toArray.push left'[k].born) since) }, ?_, ?_, ?_⟩
  · have hw2 : w2.heap[r]? = some (.mapIter (some m) since seen.toArray since) := by rw [q1]; exact hw
    have hs : ∀ o, (setObj r o).run P w2 = .ok () { w2 with heap := w2.heap.setIfInBounds r o } := fun o => by simp [setObj, Sem.run, hw2]
    have hcand : (left'.map some)[k]? = some (some left'[k]) := by simp [hk']
    simp only [nextT, hemp, Bool.false_eq_true, if_false, Array.empty_append, Sem.run_bind, hc, Result.andThen_ok, hcand, hs, Sem.run_pure]
  · exact ⟨_, rfl, rfl, hcr.1, hcr.2.1, trivial⟩
  · refine Good.write h hfl hg hb (ob := .mapIter (some m) since (seen.toArray.push left'[k].born) since) ⟨m, em, hm, ?_⟩ ?_
    · rw [hcr.2.2]; simp
    · have := chg_obj (ob := .mapIter (some m) since (seen.toArray.push left'[k].born) since) hw
      refine ⟨q2, q3, q4, by simp [q1], ?_, ?_⟩
      · simpa [q1] using this.here
      · intro k' hk'; simpa [q1] using this.other k' hk'

/-- What a step's answer says of the run. -/
def RRel (cx : Cx) (B fl : Nat) (β : Be) (st : St) (w : World) (P : Program) (e : Sem Value) : R → Prop
  | .val v st' => OkV cx B fl β st w P e v st'
  | .any l => ∃ v st', (v, st') ∈ l ∧ OkV cx B fl β st w P e v st'
  | .fail => True
  | _ => False

theorem dec_lo {s : ByteArray} {i : Nat} (h : (s.get! i).toNat < 128) : Utf8.decode s i = ((s.get! i).toNat, 1) := by
  unfold Utf8.decode
  simp only [Nat.add_zero]
  rw [if_pos h]
theorem dec_hi {s : ByteArray} {i : Nat} (h : ¬ (s.get! i).toNat < 128) : 128 ≤ (Utf8.decode s i).1 := by
  unfold Utf8.decode
  simp only [Nat.add_zero]
  rw [if_neg h]
  repeat' split
  all_goals first | omega | (simp only [Utf8.runeError]; omega) | (rename_i hc; simp only [Bool.and_eq_true, decide_eq_true_eq] at hc; omega)
theorem get_of {l : List UInt8} {i : Nat} {b : UInt8} (h : l[i]? = some b) : (ByteArray.mk l.toArray).get! i = b := by
  show l.toArray[i]! = b
  simp [h]

theorem run_next {x : V} {x' : Value} {isS : Bool} (ty : TypeId) (hxr : VRel β x x') (h : Inv cx B β st w) : RRel cx B fl β st w P (Instr.next x' isS ty) (nextOp cx fl x isS st) := by
  unfold nextOp
  split
  case h_2 => trivial
  rename_i r
  cases hfid : Nat.ble fl r with
  | false => trivial
  | true =>
  have hfl := Nat.le_of_ble_eq_true hfid
  simp only [cond_true, St.get]
  obtain ⟨b, e, hb, rfl⟩ := hxr
  split
  · rename_i s pos hg
    obtain ⟨b', e', ob, hb', hh, ho⟩ := h.live r _ hg
    rw [hb] at hb'; cases hb'
    have ho' : ob = .stringIter s pos := ho
    subst ho'
    cases hlt : Nat.blt pos s.size with
    | true =>
      have hlt' : pos < s.size := by simpa [Nat.blt, Nat.ble_eq, Nat.succ_le_iff] using hlt
      refine ⟨.tuple #[.bool true, .int .i64 pos, .int .i32 (Utf8.decode s pos).1], β, { w with heap := w.heap.setIfInBounds b (.stringIter s (pos + (Utf8.decode s pos).2)) }, ?_, ⟨_, rfl, rfl, rfl, rfl, trivial⟩, Good.write h hfl hg hb rfl (chg_obj hh)⟩
      simp [Instr.next, adr, getObj, setObj, Sem.run, hh, hlt', goInt]
    | false =>
      have hlt' : ¬ pos < s.size := by
        intro hc
        have : Nat.blt pos s.size = true := by simpa [Nat.blt, Nat.ble_eq, Nat.succ_le_iff] using hc
        rw [this] at hlt; cases hlt
      refine ⟨.tuple #[.bool false], β, w, ?_, over_rel, Good.refl h⟩
      simp [Instr.next, adr, getObj, Sem.run, hh, hlt']
  · rename_i k o n pos hg
    obtain ⟨b', e', ob, hb', hh, l, rfl, hn, hy⟩ := h.live r _ hg
    rw [hb] at hb'; cases hb'
    split
    · rename_i hq
      have hle : n.val β.env ≤ pos := by have := ask_holds h.facts hq; simpa [Tst.holds, E.val, E.vals] using this
      have hlt' : ¬ pos < (ByteArray.mk l.toArray).size := by
        show ¬ pos < l.toArray.size
        simp only [List.size_toArray]; omega
      refine ⟨.tuple #[.bool false], β, w, ?_, over_rel, Good.refl h⟩
      simp [Instr.next, adr, getObj, Sem.run, hh, hlt']
    · rename_i hq
      have hle : ¬ n.val β.env ≤ pos := by have := ask_holds h.facts hq; simpa [Tst.holds, E.val, E.vals] using this
      have hl : pos < l.length := by omega
      have hlt' : pos < (ByteArray.mk l.toArray).size := by
        show pos < l.toArray.size
        simpa using hl
      have hget : l[pos]? = some l[pos] := List.getElem?_eq_getElem hl
      have hbv : (byteE k o pos).val β.env = (l[pos].toNat : Int) := (hy pos _ hget).symm
      have hgb := get_of hget
      split
      · rename_i hq2
        have h1 : (byteE k o pos).val β.env ≤ 127 := by have := ask_holds h.facts hq2; exact of_decide_eq_true this
        have hd : Utf8.decode ⟨l.toArray⟩ pos = (l[pos].toNat, 1) := by
          rw [dec_lo (by rw [hgb]; omega), hgb]
        refine ⟨.tuple #[.bool true, .int .i64 pos, .int .i32 (l[pos].toNat : Nat)], β, { w with heap := w.heap.setIfInBounds b (.stringIter ⟨l.toArray⟩ (pos + 1)) }, ?_, ⟨_, rfl, rfl, rfl, ?_, trivial⟩, Good.write h hfl hg hb ⟨l, rfl, hn, hy⟩ (chg_obj hh)⟩
        · simp [Instr.next, adr, getObj, setObj, Sem.run, hh, hlt', goInt, hd]
        · show Value.int .i32 _ = Value.int .i32 _
          rw [hbv]
      · rename_i hq2
        have h1 : ¬ (byteE k o pos).val β.env ≤ 127 := by have := ask_holds h.facts hq2; exact of_decide_eq_false this
        have hd := dec_hi (s := ⟨l.toArray⟩) (i := pos) (by rw [hgb]; omega)
        refine ⟨.tuple #[.bool true, .int .i64 pos, .int .i32 (Utf8.decode ⟨l.toArray⟩ pos).1], β, { w with heap := w.heap.setIfInBounds b (.stringIter ⟨l.toArray⟩ (pos + (Utf8.decode ⟨l.toArray⟩ pos).2)) }, ?_, ⟨_, rfl, rfl, rfl, ⟨_, rfl, ?_⟩, trivial⟩, Good.write h hfl hg hb ⟨_, _, rfl⟩ (chg_obj hh)⟩
        · simp [Instr.next, adr, getObj, setObj, Sem.run, hh, hlt', goInt]
        · omega
      · trivial
    · trivial
  · rename_i hg
    obtain ⟨b', e', ob, hb', hh, ho⟩ := h.live r _ hg
    rw [hb] at hb'; cases hb'
    have ho' : ob = _ := ho
    subst ho'
    refine ⟨.tuple #[.bool false], β, w, ?_, over_rel, Good.refl h⟩
    simp [Instr.next, adr, getObj, Sem.run, hh]
  · rename_i im since seen last hg
    split
    case h_2 => trivial
    rename_i es clock hgm
    obtain ⟨b', e', ob, hb', hh, m, em, hm, rfl⟩ := h.live r _ hg
    rw [hb] at hb'; cases hb'
    obtain ⟨b2, e2, ob2, hb2, hh2, es', rfl, hr⟩ := h.live im _ hgm
    rw [hm] at hb2; cases hb2
    cases hc : (Nat.beq clock since && Nat.beq last since && allBelow since es) with
    | false => trivial
    | true =>
    simp only [Bool.and_eq_true] at hc
    have h1 := Nat.eq_of_beq_eq_true hc.1.1
    have h2 := Nat.eq_of_beq_eq_true hc.1.2
    subst h1 h2
    simp only [cond_true]
    have hbelow := allBelow_rel hr hc.2
    have hun := unseen_rel seen hr
    have hrun := run_next_map (P := P) (seen := seen.toArray) hh hh2 hbelow ty
    have hfilter : (es'.filter fun e => !seen.toArray.contains e.born).toList = es'.toList.filter fun e => !seen.contains e.born := by simp
    rw [← hfilter] at hun
    split
    · rename_i hnil
      rw [hnil] at hun
      have h0 : es'.filter (fun e => !seen.toArray.contains e.born) = #[] := by
        apply Array.toList_inj.1
        have := hun.length
        exact List.eq_nil_of_length_eq_zero this.symm
      refine ⟨.tuple #[.bool false], β, w, ?_, over_rel, Good.refl h⟩
      rw [hrun, h0]
      simp [nextT, Question.forced]
    · rename_i hnil
      obtain ⟨c, hcm, v', β', w', q1, q2, q3⟩ := run_nextT (P := P) h hfl hg hb hm hun hh hnil
      exact ⟨_, _, List.mem_map_of_mem hcm, v', β', w', hrun ▸ q1, q2, q3⟩
  · trivial

theorem lastOf_eq : ∀ l : List Nat, lastOf l = l.getLast?
  | [] => rfl
  | [x] => rfl
  | x :: y :: l => by simp only [lastOf, lastOf_eq (y :: l), List.getLast?_cons_cons]

theorem findB_rel (b : Nat) : ∀ {es : List (C × A × Nat)} {es' : List MapEntry} {k : C} {x : A}, All2 (ERel β) es es' → findB b es = some (k, x) → ∃ e', es'.find? (fun e => e.born == b) = some e' ∧ CRel β k e'.key ∧ ARel β x e'.val
  | [], [], _, _, _, h => by simp [findB] at h
  | [], _ :: _, _, _, h, _ => h.elim
  | _ :: _, [], _, _, h, _ => h.elim
  | (k0, v0, b0) :: es, e' :: es', k, x, hr, h => by
    have hb : e'.born = b0 := hr.1.2.2
    simp only [findB] at h
    cases hq : Nat.beq b0 b with
    | true =>
      rw [hq] at h
      simp only [cond_true, Option.some.injEq, Prod.mk.injEq] at h
      obtain ⟨rfl, rfl⟩ := h
      have := Nat.eq_of_beq_eq_true hq
      exact ⟨e', by simp [hb, this], hr.1.1, hr.1.2.1⟩
    | false =>
      rw [hq] at h
      simp only [cond_false] at h
      obtain ⟨e2, q1, q2, q3⟩ := findB_rel b hr.2 h
      have : (e'.born == b) = false := by
        rw [hb]
        have : b0 ≠ b := fun e => by subst e; rw [T.beq_true rfl] at hq; cases hq
        simpa using this
      exact ⟨e2, by simp [this, q1], q2, q3⟩

theorem run_entry {x v : V} {x' : Value} (hxr : VRel β x x') (h : Inv cx B β st w) (hl : entryOp x st = some v) : ∃ v', (Instr.entry x').run P w = .ok v' w ∧ VRel β v v' := by
  unfold entryOp at hl
  split at hl
  case h_2 => cases hl
  rename_i r
  simp only [St.get] at hl
  obtain ⟨b, e, hb, rfl⟩ := hxr
  split at hl
  case h_2 => cases hl
  rename_i im since seen stepped hg
  split at hl
  case h_2 => cases hl
  rename_i es clock bn hgm hlast
  obtain ⟨b', e', ob, hb', hh, m, em, hm, rfl⟩ := h.live r _ hg
  rw [hb] at hb'; cases hb'
  obtain ⟨b2, e2, ob2, hb2, hh2, es', rfl, hr⟩ := h.live im _ hgm
  rw [hm] at hb2; cases hb2
  cases hc : Nat.beq clock stepped with
  | false => rw [hc] at hl; simp at hl
  | true =>
  rw [hc] at hl
  simp only [cond_true, Option.map_eq_some_iff] at hl
  have h1 := Nat.eq_of_beq_eq_true hc
  subst h1
  obtain ⟨⟨k, x⟩, hf, rfl⟩ := hl
  obtain ⟨en, q1, q2, q3⟩ := findB_rel bn hr hf
  rw [lastOf_eq] at hlast
  refine ⟨.tuple #[en.key, en.val], ?_, _, rfl, q2, q3, trivial⟩
  have hback : seen.toArray.back? = some bn := by simpa using hlast
  have hfind : es'.find? (fun e => e.born == bn) = some en := by rw [← Array.find?_toList]; exact q1
  simp [Instr.entry, adr, getObj, Sem.run, hh, hh2, hback, hfind]

end Go.Am

namespace Go.Am
open Go

variable {cx : Cx} {P : Program} {B fl : Nat} {β : Be} {st : St} {w : World}

theorem resB_rel {β : Be} (hf : Facts cx β.env) {x v : V} {u : Value} (hx : VRel β x u) (h : resB cx x = some v) : VRel β v u := by
  unfold resB at h
  split at h
  · rename_i e
    simp only [Option.map_eq_some_iff] at h
    obtain ⟨b, hb, rfl⟩ := h
    have h1 := ask_holds hf hb
    have h2 : u = _ := hx
    rw [h2]
    show Value.bool _ = Value.bool _
    rw [← h1]
    simp only [Tst.holds]
    congr 1
    rw [Bool.eq_iff_iff]
    simp [E.val, E.vals]
  · simp only [Option.some.injEq] at h; subst h; exact hx

theorem tryB_rel {β : Be} (hf : Facts cx β.env) {x : V} {u : Value} (hx : VRel β x u) : VRel β (tryB cx x) u := by
  unfold tryB
  split
  · rename_i e
    split
    · rename_i b hb
      exact resB_rel hf hx (x := .a (.c (.sb e))) (by simp only [resB, hb, Option.map_some])
    · exact hx
  · exact hx

/-- The operands are what the frame says they are. -/
def EvOk (β : Be) (fr : Fr) (a : Act) (xs : List Operand) : Prop := ∀ x ∈ xs, ∀ v, ev fr x = some v → VRel β v (a.eval x)

theorem EvOk.of {fr : Fr} {a : Act} (r : FrRel β fr a) (xs : List Operand) : EvOk β fr a xs := fun _ _ _ hv => ev_rel r hv

theorem evParts_relM {fr : Fr} {a : Act} : ∀ {l : List (Nat × Operand)} {ps : List (Nat × V)}, EvOk β fr a (l.map (·.2)) → evParts fr l = some ps →
    All2 (fun (p : Nat × V) (q : Nat × Value) => p.1 = q.1 ∧ VRel β p.2 q.2) ps (l.map fun (i, x) => (i, a.eval x))
  | [], ps, _, h => by simp only [evParts, Option.some.injEq] at h; subst h; trivial
  | (i, x) :: l, ps, r, h => by
    simp only [evParts] at h
    split at h
    · rename_i v rs hv hr
      simp only [Option.some.injEq] at h; subst h
      exact ⟨⟨rfl, r x (by simp) v hv⟩, evParts_relM (fun y hy => r y (List.mem_cons_of_mem _ hy)) hr⟩
    · cases h

theorem evArgs_relM {fr : Fr} {a : Act} : ∀ {l : List Operand} {vs : List V}, EvOk β fr a l → evArgs fr l = some vs → All2 (VRel β) vs (l.map a.eval)
  | [], vs, _, h => by simp only [evArgs, Option.some.injEq] at h; subst h; trivial
  | x :: l, vs, r, h => by
    simp only [evArgs] at h
    split at h
    · rename_i v rs hv hr
      simp only [Option.some.injEq] at h; subst h
      exact ⟨r x (by simp) v hv, evArgs_relM (fun y hy => r y (List.mem_cons_of_mem _ hy)) hr⟩
    · cases h

theorem evO_rel {fr : Fr} {a : Act} {x : Option Operand} {v : Option V} (r : ∀ y, x = some y → ∀ v, ev fr y = some v → VRel β v (a.eval y)) (h : evO fr x = some v) : ORelV β v (x.map a.eval) := by
  cases x with
  | none => simp only [evO, Option.some.injEq] at h; subst h; exact ⟨by simp, fun _ => rfl⟩
  | some y =>
    simp only [evO, Option.map_eq_some_iff] at h
    obtain ⟨u, hu, rfl⟩ := h
    exact ⟨fun v hv => ⟨_, rfl, by cases hv; exact r y rfl u hu⟩, fun h => by cases h⟩

/-- What a step's answer says of the operation's run. -/
def StepOk (cx : Cx) (B fl : Nat) (β : Be) (st : St) (w : World) (P : Program) (s : Sem Next) : R → Prop
  | .val v st' => ∃ v' β' w', s.run P w = .ok (.value v') w' ∧ VRel β' v v' ∧ Good cx B fl β st w β' st' w'
  | .skip st' => ∃ β' w', s.run P w = .ok .skip w' ∧ Good cx B fl β st w β' st' w'
  | .any l => ∃ v st', (v, st') ∈ l ∧ ∃ v' β' w', s.run P w = .ok (.value v') w' ∧ VRel β' v v' ∧ Good cx B fl β st w β' st' w'
  | .call f args => ∃ args' : Array Value, All2 (VRel β) args args'.toList ∧ s.run P w = (callFunc f args').run P w
  | .fail => True
  | .yield id args => ∃ (b e : Nat) (args' : Array Value), β id = some (b, e) ∧ All2 (VRel β) args args'.toList ∧ s.run P w = (Instr.yield b args').run P w

theorem StepOk.ofV (h : Inv cx B β st w) {s : Sem Value} {o : Option V} (hs : ∀ v, o = some v → ∃ v', s.run P w = .ok v' w ∧ VRel β v v') : StepOk cx B fl β st w P (do pure (.value (← s))) (.ofV st o) := by
  cases o with
  | none => trivial
  | some v =>
    obtain ⟨v', h1, h2⟩ := hs v rfl
    exact ⟨v', β, w, by simp [h1], h2, Good.refl h⟩

theorem StepOk.ofVS {s : Sem Value} {o : Option (V × St)} (hs : ∀ v st', o = some (v, st') → OkV cx B fl β st w P s v st') : StepOk cx B fl β st w P (do pure (.value (← s))) (.ofVS o) := by
  cases o with
  | none => trivial
  | some p =>
    obtain ⟨v', β', w', h1, h2, h3⟩ := hs p.1 p.2 rfl
    exact ⟨v', β', w', by simp [h1], h2, h3⟩

theorem StepOk.ofS {s : Sem Unit} {o : Option St} (hs : ∀ st', o = some st' → ∃ w', s.run P w = .ok () w' ∧ Good cx B fl β st w β st' w') : StepOk cx B fl β st w P (do s; pure .skip) (.ofS o) := by
  cases o with
  | none => trivial
  | some p =>
    obtain ⟨w', h1, h2⟩ := hs p rfl
    exact ⟨β, w', by simp [h1], h2⟩

theorem StepOk.ofR {s : Sem Value} {r : R} (hr : RRel cx B fl β st w P s r) : StepOk cx B fl β st w P (do pure (.value (← s))) r := by
  cases r with
  | val v st' => obtain ⟨v', β', w', h1, h2, h3⟩ := hr; exact ⟨v', β', w', by simp [h1], h2, h3⟩
  | any l => obtain ⟨v, st', hm, v', β', w', h1, h2, h3⟩ := hr; exact ⟨v, st', hm, v', β', w', by simp [h1], h2, h3⟩
  | skip st' => exact hr.elim
  | call f a => exact hr.elim
  | fail => trivial
  | yield id as => exact hr.elim

theorem toC_some {v : V} {c : C} (h : toC v = some c) : v = .a (.c c) := by
  unfold toC at h; split at h
  · simp only [Option.some.injEq] at h; subst h; rfl
  · cases h

theorem toBool_rel {v : V} {v' : Value} {b : Bool} (h : VRel β v v') (hb : toBool v = some b) : v' = .bool b := by
  unfold toBool at hb; split at hb
  · simp only [Option.some.injEq] at hb; subst hb; exact h
  · cases hb

theorem capIds_rel : ∀ {vs : List V} {ids : List Nat} {l : List Value}, All2 (VRel β) vs l → capIds vs = some ids → ∃ bs : List Nat, All2 (fun id b => ∃ e, β id = some (b, e)) ids bs ∧ l = bs.map fun b => adr b 0
  | [], ids, [], _, h => by simp only [capIds, Option.some.injEq] at h; subst h; exact ⟨[], trivial, rfl⟩
  | [], _, _ :: _, h, _ => h.elim
  | _ :: _, _, [], h, _ => h.elim
  | v :: vs, ids, x :: l, hr, h => by
    unfold capIds at h
    split at h
    · rename_i h0; cases h0
    · rename_i id vs2 h0
      simp only [List.cons.injEq] at h0
      obtain ⟨rfl, rfl⟩ := h0
      simp only [Option.map_eq_some_iff] at h
      obtain ⟨ids', h1, rfl⟩ := h
      obtain ⟨bs, h2, rfl⟩ := capIds_rel hr.2 h1
      obtain ⟨b, e, hb, rfl⟩ := hr.1
      exact ⟨b :: bs, ⟨⟨e, hb⟩, h2⟩, rfl⟩
    · cases h

theorem bytesOf_rel : ∀ {l : List C} {bs : List UInt8} {vs : List Value}, bytesOf l = some bs → All2 (CRel β) l vs → vs = Lib.byteCells bs
  | [], bs, [], h, _ => by simp only [bytesOf, Option.some.injEq] at h; subst h; rfl
  | [], _, _ :: _, _, h => h.elim
  | _ :: _, _, [], _, h => h.elim
  | c :: l, bs, v :: vs, h, hr => by
    unfold bytesOf at h
    split at h
    · rename_i h0; cases h0
    · rename_i n l2 h0
      simp only [List.cons.injEq] at h0
      obtain ⟨rfl, rfl⟩ := h0
      cases hn : Nat.blt n 256 with
      | false => rw [hn] at h; simp at h
      | true =>
        rw [hn] at h
        simp only [cond_true, Option.map_eq_some_iff] at h
        obtain ⟨bs', h1, rfl⟩ := h
        have hlt : n < 256 := by simpa [Nat.blt, Nat.ble_eq, Nat.succ_le_iff] using hn
        have hv : v = .int .u8 (Int.ofNat n) := hr.1
        rw [bytesOf_rel h1 hr.2, hv]
        have : (UInt8.ofNat n).toNat = n := by simp; omega
        simp [Lib.byteCells, this]
    · cases h

theorem run_unsafeString (hx : CxOk cx P) {pt it ty : TypeId} {p n v : V} {p' n' : Value} (hp : VRel β p p') (hn : VRel β n n') (h : Inv cx B β st w) {st' : St} (hl : unsafeStr cx fl pt p n st = some (v, st')) :
    OkV cx B fl β st w P (Builtin.unsafeString_ #[pt, it] ty #[p', n']) v st' := by
  unfold unsafeStr at hl
  split at hl
  · have e1 : n' = _ := hn
    subst e1
    cases hq : isPtrV p with
    | false => rw [hq] at hl; simp at hl
    | true =>
      rw [hq] at hl
      simp only [cond_true, Option.some.injEq, Prod.mk.injEq] at hl
      obtain ⟨rfl, rfl⟩ := hl
      obtain ⟨q, rfl⟩ : ∃ q, p' = .pointer q := by
        unfold isPtrV at hq
        split at hq
        · obtain ⟨b, e, _, rfl⟩ := hp; exact ⟨_, rfl⟩
        · have e1 : p' = _ := hp; exact ⟨_, e1⟩
        · cases hq
      exact ⟨_, β, w, Lib.run_unsafeString_none w pt it ty q, rfl, Good.refl h⟩
  · rename_i n hnz
    have e1 : n' = _ := hn
    subst e1
    split at hl
    case h_2 => cases hl
    rename_i id pty hpt
    obtain ⟨i, z, hT⟩ := hx.is hpt
    cases hfid : Nat.ble fl id with
    | false => rw [hfid] at hl; simp at hl
    | true =>
    rw [hfid] at hl
    simp only [cond_true, St.get] at hl
    split at hl
    case h_2 => cases hl
    rename_i l e fx e' hg hu
    split at hl
    case h_2 => cases hl
    rename_i ety het
    obtain ⟨i2, z2, hE⟩ := hx.is het
    cases hc : (Nat.beq e e' && Nat.beq ety.size 1 && Nat.ble n 9223372036854775807 && !(Nat.beq n 0)) with
    | false => rw [hc] at hl; simp at hl
    | true =>
    rw [hc] at hl
    simp only [cond_true] at hl
    simp only [Bool.and_eq_true] at hc
    have c1 := Nat.eq_of_beq_eq_true hc.1.1.1
    have c2 := Nat.eq_of_beq_eq_true hc.1.1.2
    have c3 := Nat.le_of_ble_eq_true hc.1.2
    subst c1
    split at hl
    case h_2 => cases hl
    rename_i bs hbs
    simp only [Option.some.injEq, Prod.mk.injEq] at hl
    obtain ⟨rfl, rfl⟩ := hl
    simp only [Option.bind_eq_some_iff] at hbs
    obtain ⟨l2, hl2, hbs⟩ := hbs
    obtain ⟨rfl, hlen⟩ := sub_some hl2
    obtain ⟨b, ex, hb, rfl⟩ := hp
    obtain ⟨b', ex', ob, hb', hh, cur, pre, rest, rfl, hcur, hrel, hsl, _, _⟩ := h.live id _ hg
    rw [hb] at hb'; cases hb'
    have hv := bytesOf_rel hbs ((hrel.drop 0).take n)
    have hbl : bs.length = n := by
      have := congrArg List.length hv
      rw [Lib.byteCells_length] at this
      rw [← this, ← ((hrel.drop 0).take n).length]; exact hlen
    have hn0 : n ≠ 0 := fun e => by subst e; simp at hc
    have hne : bs ≠ [] := fun e => by subst e; simp at hbl; exact hn0 hbl.symm
    have hshape : w.shape? b = some (e, cur.size) := by simp [World.shape?, hh]
    have hsz : P.cellsOf e = 1 := by simp [Program.cellsOf, hE.info, hE.size, c2]
    have hnl : n ≤ cur.size := by
      have h1 : (List.take n (List.drop 0 l)).length = n := hlen
      have : n ≤ l.length := by simp at h1; omega
      rw [hrel.length] at this
      rw [← Array.length_toList, hcur, List.length_append]; omega
    have hcell : ∀ j x, bs[j]? = some x → w.cell? ((⟨b, 0, none⟩ : Addr).add j) = some (.int .u8 x.toNat) := fun j x hj => by
      rw [add_adr]
      have h1 : (List.take n (List.drop 0 pre))[j]? = some (.int .u8 x.toNat) := by
        rw [hv]; simp [Lib.byteCells, hj]
      have hjn : j < n := by rw [← hbl]; exact (List.getElem?_eq_some_iff.1 hj).1
      rw [List.getElem?_take, if_pos hjn, List.drop_zero] at h1
      have hj2 := (List.getElem?_eq_some_iff.1 h1).1
      simp only [World.cell?, hh, Option.isSome, Bool.false_eq_true, if_false, Nat.zero_add]
      rw [← Array.getElem?_toList, hcur, List.getElem?_append_left hj2]
      exact h1
    have hrun := Lib.run_unsafeString_row (P := P) w pt it ty e (by rw [hT.under, hu]) hsz b cur.size hshape bs hne (by rw [hbl]; exact hnl) (by rw [hbl]; exact c3) hcell
    rw [hbl] at hrun
    have hfz : w.freeze ⟨b, 0, none⟩ n = { w with heap := w.heap.setIfInBounds b (.cells cur e (0, n)) } := by
      simp only [World.freeze, if_neg hn0]
      congr 1
      apply Array.ext_getElem?
      intro k
      rw [Array.getElem?_modify, Array.getElem?_setIfInBounds]
      by_cases hk : b = k
      · subst hk
        have := (Array.getElem?_eq_some_iff.1 hh).1
        rw [if_pos rfl, if_pos rfl, hh, if_pos this]; simp
      · simp [hk]
    rw [hfz] at hrun
    exact ⟨_, β, _, hrun, rfl, Good.drop h (Nat.le_of_ble_eq_true hfid) hg hb (chg_obj hh)⟩
  · cases hl

theorem builtin_ok (hx : CxOk cx P) (h : Inv cx B β st w) (hfl : fl ≤ st.next) (b : Builtin) (tl : List TypeId) (ty : TypeId) (consts : Array Bool) {args : List V} {args' : Array Value} (hargs : All2 (VRel β) args args'.toList) :
    StepOk cx B fl β st w P (builtin b tl.toArray ty consts args') (builtinOp cx fl b tl ty args st) := by
  obtain ⟨al⟩ := args'
  simp only at hargs
  unfold builtinOp
  split
  · rename_i t tl x
    obtain ⟨x', rfl, hx1⟩ : ∃ x', al = [x'] ∧ VRel β x x' := by
      match al, hargs with
      | [x'], hr => exact ⟨x', rfl, hr.1⟩
    exact StepOk.ofV h fun v hv => run_len hx hx1 h (by simp) hv
  · rename_i t tl x
    obtain ⟨x', rfl, hx1⟩ : ∃ x', al = [x'] ∧ VRel β x x' := by
      match al, hargs with
      | [x'], hr => exact ⟨x', rfl, hr.1⟩
    exact StepOk.ofV h fun v hv => run_cap hx hx1 (by simp) hv w
  · rename_i t xt s x
    obtain ⟨s', x', rfl, hs1, hx1⟩ : ∃ s' x', al = [s', x'] ∧ VRel β s s' ∧ VRel β x x' := by
      match al, hargs with
      | [s', x'], hr => exact ⟨s', x', rfl, hr.1, hr.2.1⟩
    exact StepOk.ofVS fun v st' hv => run_appendX hx hs1 hx1 h hfl hv
  · rename_i t tl s x
    obtain ⟨s', x', rfl, hs1, hx1⟩ : ∃ s' x', al = [s', x'] ∧ VRel β s s' ∧ VRel β x x' := by
      match al, hargs with
      | [s', x'], hr => exact ⟨s', x', rfl, hr.1, hr.2.1⟩
    refine StepOk.ofVS fun v st' hv => ?_
    obtain ⟨v', w', q1, q2, q3⟩ := run_copy (fl := fl) (ts := (t :: tl).toArray) (ty := ty) hx hs1 hx1 h (by simp) hv
    exact ⟨v', β, w', q1, q2, q3⟩
  · rename_i t tl x
    obtain ⟨x', rfl, hx1⟩ : ∃ x', al = [x'] ∧ VRel β x x' := by
      match al, hargs with
      | [x'], hr => exact ⟨x', rfl, hr.1⟩
    refine StepOk.ofVS fun v st' hv => ?_
    obtain ⟨v', w', q1, q2, q3⟩ := run_clear (fl := fl) (ts := (t :: tl).toArray) (ty := ty) hx hx1 h (by simp) hv
    exact ⟨v', β, w', q1, q2, q3⟩
  · rename_i t tl m k
    obtain ⟨m', k', rfl, hs1, hx1⟩ : ∃ s' x', al = [s', x'] ∧ VRel β m s' ∧ VRel β k x' := by
      match al, hargs with
      | [s', x'], hr => exact ⟨s', x', rfl, hr.1, hr.2.1⟩
    split
    · rename_i st' hv
      obtain ⟨w', q1, q3⟩ := run_mapDelete (fl := fl) (ts := (t :: tl).toArray) (ty := ty) hx (by simp) hs1 hx1 h hv
      exact ⟨_, β, w', by simp only [builtin, Sem.run_bind, q1, Result.andThen_ok, Sem.run_pure], ⟨#[], rfl, trivial⟩, q3⟩
    · trivial
  · rename_i id off len cap fx
    obtain ⟨x', rfl, hx1⟩ : ∃ x', al = [x'] ∧ VRel β (.a (.c (.sl id off len cap fx))) x' := by
      match al, hargs with
      | [x'], hr => exact ⟨x', rfl, hr.1⟩
    cases hc : Nat.beq cap 0 with
    | true => trivial
    | false =>
      have hc0 : cap ≠ 0 := fun e => by subst e; simp at hc
      obtain ⟨b, e, hb, rfl⟩ := hx1
      refine ⟨adr b off, β, w, ?_, ⟨b, e, hb, rfl⟩, Good.refl h⟩
      have := Lib.run_unsafeSliceData_row (P := P) w tl.toArray ty ⟨b, off, none⟩ len (bif fx then cap + e else cap) (by cases fx <;> simp <;> omega)
      simp only [builtin, Sem.run_bind, this, Result.andThen_ok, Sem.run_pure]; rfl
  · rename_i n c
    obtain ⟨x', rfl, hx1⟩ : ∃ x', al = [x'] ∧ VRel β (.a (.c (.sc (.slice none n c)))) x' := by
      match al, hargs with
      | [x'], hr => exact ⟨x', rfl, hr.1⟩
    have e1 : x' = _ := hx1
    subst e1
    refine ⟨.pointer none, β, w, ?_, rfl, Good.refl h⟩
    have := Lib.run_unsafeSliceData_nil (P := P) w tl.toArray ty n c
    simp only [builtin, Sem.run_bind, this, Result.andThen_ok, Sem.run_pure]
  · rename_i pt it p n
    obtain ⟨s', x', rfl, hs1, hx1⟩ : ∃ s' x', al = [s', x'] ∧ VRel β p s' ∧ VRel β n x' := by
      match al, hargs with
      | [s', x'], hr => exact ⟨s', x', rfl, hr.1, hr.2.1⟩
    exact StepOk.ofVS fun v st' hv => run_unsafeString hx hs1 hx1 h hv
  · rename_i x xs
    obtain ⟨x', xs', rfl, hx1, hxs⟩ : ∃ x' xs', al = x' :: xs' ∧ VRel β x x' ∧ All2 (VRel β) xs xs' := by
      match al, hargs with
      | x' :: xs', hr => exact ⟨x', xs', rfl, hr.1, hr.2⟩
    exact StepOk.ofV h fun v hv => fold2_rel (f := max2) (g := Builtin.max2) (fun _ _ _ _ _ q1 q2 q3 => max2_rel q1 q2 q3) hxs hx1 hv w
  · rename_i x xs
    obtain ⟨x', xs', rfl, hx1, hxs⟩ : ∃ x' xs', al = x' :: xs' ∧ VRel β x x' ∧ All2 (VRel β) xs xs' := by
      match al, hargs with
      | x' :: xs', hr => exact ⟨x', xs', rfl, hr.1, hr.2⟩
    exact StepOk.ofV h fun v hv => fold2_rel (f := min2) (g := Builtin.min2) (fun _ _ _ _ _ q1 q2 q3 => min2_rel q1 q2 q3) hxs hx1 hv w
  · trivial

theorem step_ok (hx : CxOk cx P) {fr : Fr} {a : Act} (h : Inv cx B β st w) (hfl : fl ≤ st.next) (o : Oper) (hr : EvOk β fr a o.op.operands.toList) : StepOk cx B fl β st w P (execOp a.eval o) (stepOp cx fl fr st o.op o.type) := by
  obtain ⟨dst, op, type, pos, after, guard⟩ := o
  simp only at hr ⊢
  cases op
  case move x =>
    simp only [stepOp, execOp]
    cases hv : ev fr x with
    | none => trivial
    | some v => exact ⟨_, β, w, rfl, tryB_rel h.facts (hr x (by simp [Op.operands]) v hv), Good.refl h⟩
  case assign x =>
    simp only [stepOp, execOp]
    cases hv : ev fr x with
    | none => trivial
    | some v => exact ⟨_, β, w, rfl, hr x (by simp [Op.operands]) v hv, Good.refl h⟩
  case pick c p q =>
    simp only [stepOp, execOp]
    split
    · rename_i hb
      simp only [Option.bind_eq_some_iff] at hb
      obtain ⟨u', ⟨u, hu, hu'⟩, hb⟩ := hb
      have := toBool_rel (resB_rel h.facts (hr c (by simp [Op.operands]) u hu) hu') hb
      cases hv : ev fr p with
      | none => trivial
      | some v => exact ⟨_, β, w, by simp [this, asBool], hr p (by simp [Op.operands]) v hv, Good.refl h⟩
    · rename_i hb
      simp only [Option.bind_eq_some_iff] at hb
      obtain ⟨u', ⟨u, hu, hu'⟩, hb⟩ := hb
      have := toBool_rel (resB_rel h.facts (hr c (by simp [Op.operands]) u hu) hu') hb
      cases hv : ev fr q with
      | none => trivial
      | some v => exact ⟨_, β, w, by simp [this, asBool], hr q (by simp [Op.operands]) v hv, Good.refl h⟩
    · trivial
  case alloc t =>
    simp only [stepOp, execOp]
    split
    · rename_i ty ht
      obtain ⟨v', β', w', q1, q2, q3⟩ := run_alloc (fl := fl) hx ht h hfl
      exact ⟨v', β', w', by simp [q1], q2, q3⟩
    · trivial
  case box t x =>
    simp only [stepOp, execOp]
    split
    · rename_i l hl
      simp only [Option.bind_eq_some_iff] at hl
      obtain ⟨u, hu, hl⟩ := hl
      obtain ⟨v', β', w', q1, q2, q3⟩ := run_box (P := P) (fl := fl) (t := t) (hr x (by simp [Op.operands]) u hu) hl h hfl
      exact ⟨v', β', w', by simp [q1], q2, q3⟩
    · trivial
  case build t parts =>
    simp only [stepOp, execOp]
    refine StepOk.ofV h fun v hv => ?_
    simp only [Option.bind_eq_some_iff] at hv
    obtain ⟨ps, hp, hv⟩ := hv
    have hp' := evParts_relM (a := a) (β := β) (l := parts.toList) (fun x hx => hr x (by simpa [Op.operands] using hx)) hp
    obtain ⟨v', q1, q2⟩ := run_build hx hp' hv w
    exact ⟨v', by rw [← q1]; congr 2; apply Array.toList_inj.1; simp, q2⟩
  case buildSlice t len parts =>
    simp only [stepOp, execOp]
    refine StepOk.ofVS fun v st' hv => ?_
    simp only [Option.bind_eq_some_iff] at hv
    obtain ⟨ps, hp, hv⟩ := hv
    have hp' := evParts_relM (a := a) (β := β) (l := parts.toList) (fun x hx => hr x (by simpa [Op.operands] using hx)) hp
    obtain ⟨v', β', w', q1, q2, q3⟩ := run_buildSlice hx hp' h hfl hv
    exact ⟨v', β', w', by rw [← q1]; congr 2; apply Array.toList_inj.1; simp, q2, q3⟩
  case load t x =>
    simp only [stepOp, execOp]
    split
    · rename_i ty p ht hp
      simp only [Option.bind_eq_some_iff] at hp
      obtain ⟨u, hu, hp⟩ := hp
      have := toC_some hp; subst this
      exact StepOk.ofV h fun v hv => run_loadVar hx ht h (hr x (by simp [Op.operands]) _ hu) hv
    · trivial
  case store t x y =>
    simp only [stepOp, execOp]
    split
    · rename_i ty p l ht hp hl
      simp only [Option.bind_eq_some_iff] at hp hl
      obtain ⟨u, hu, hp⟩ := hp
      obtain ⟨u2, hu2, hl⟩ := hl
      have := toC_some hp; subst this
      cases hc : (Nat.beq l.length ty.size && !(Nat.beq ty.size 0)) with
      | false => trivial
      | true =>
      simp only [Bool.and_eq_true] at hc
      have hlen := Nat.eq_of_beq_eq_true hc.1
      exact StepOk.ofS fun st' hs => run_storeVar hx ht h (hr x (by simp [Op.operands]) _ hu) (hr y (by simp [Op.operands]) _ hu2) hl hlen hs
    · trivial
  case nilCheck x =>
    simp only [stepOp]
    split
    · rename_i id off hv
      obtain ⟨b, e, hb, h2⟩ := hr x (by simp [Op.operands]) _ hv
      exact ⟨adr b off, β, w, by simp only [execOp]; rw [h2]; rfl, ⟨b, e, hb, rfl⟩, Good.refl h⟩
    · rename_i f cs hv
      obtain ⟨bs, hb, h2⟩ := hr x (by simp [Op.operands]) _ hv
      exact ⟨_, β, w, by simp only [execOp]; rw [h2]; rfl, ⟨bs, hb, rfl⟩, Good.refl h⟩
    · rename_i q hv
      have h2 : a.eval x = _ := hr x (by simp [Op.operands]) _ hv
      exact ⟨_, β, w, by simp only [execOp]; rw [h2]; rfl, rfl, Good.refl h⟩
    · trivial
  case binOp op t x y e =>
    simp only [stepOp, execOp]
    split
    · rename_i u v hu hv
      refine StepOk.ofV h fun r hr' => run_binop hx h.facts (hr x (by simp [Op.operands]) _ hu) (hr y (by simp [Op.operands]) _ hv) hr' x y w
    · trivial
  case unOp op t x =>
    simp only [stepOp, execOp]
    refine StepOk.ofV h fun v hv => ?_
    simp only [Option.bind_eq_some_iff] at hv
    obtain ⟨u', ⟨u, hu, hu'⟩, hv⟩ := hv
    exact run_unop (resB_rel h.facts (hr x (by simp [Op.operands]) _ hu) hu') hv w
  case convert s d x =>
    simp only [stepOp, execOp]
    refine StepOk.ofV h fun v hv => ?_
    simp only [Option.bind_eq_some_iff] at hv
    obtain ⟨u, hu, hv⟩ := hv
    exact run_conv hx (hr x (by simp [Op.operands]) _ hu) h hv
  case makeFunc fn first caps =>
    cases fn <;> try trivial
    rename_i f
    simp only [stepOp, execOp]
    cases hf : Nat.beq first.size 0 with
    | false => trivial
    | true =>
    simp only [cond_true]
    split
    · rename_i ids hi
      simp only [Option.bind_eq_some_iff] at hi
      obtain ⟨vs, hvs, hi⟩ := hi
      have hvr := evArgs_relM (a := a) (β := β) (l := caps.toList) (fun x hx => hr x (by simp [Op.operands]; exact .inr (by simpa using hx))) hvs
      obtain ⟨bs, hbs, hl⟩ := capIds_rel hvr hi
      have hf0 : first = #[] := by
        have := Nat.eq_of_beq_eq_true hf
        exact Array.eq_empty_of_size_eq_zero this
      subst hf0
      refine ⟨_, β, w, ?_, ⟨bs, hbs, rfl⟩, Good.refl h⟩
      have : caps.map a.eval = (bs.map fun b => adr b 0).toArray := by
        apply Array.toList_inj.1; simp [← hl]
      simp [Instr.makeFunc, this]
    · trivial
  case makeMap t r =>
    cases r with
    | some r => trivial
    | none =>
      simp only [stepOp, execOp]
      obtain ⟨v', β', w', q1, q2, q3⟩ := run_makeMap (P := P) (fl := fl) h hfl t
      exact ⟨v', β', w', by simp [q1], q2, q3⟩
  case makeSlice t l c =>
    simp only [stepOp, execOp]
    split
    · rename_i u v hu hv
      exact StepOk.ofVS fun r st' hr' => run_makeSlice hx (hr l (by simp [Op.operands]) _ hu) (hr c (by simp [Op.operands]) _ hv) h hfl hr'
    · trivial
  case slice t x lo hi mx =>
    simp only [stepOp, execOp]
    split
    · rename_i u l2 h2 m2 hu hl hh hm
      have ho : ∀ y ∈ (#[x] ++ lo.toArray ++ hi.toArray ++ mx.toArray).toList, ∀ v, ev fr y = some v → VRel β v (a.eval y) := hr
      refine StepOk.ofV h fun v hv => run_sliceAt hx h.facts (hr x (by simp [Op.operands]) _ hu) (evO_rel (fun y hy => ho y (by subst hy; simp)) hl) (evO_rel (fun y hy => ho y (by subst hy; simp)) hh) (evO_rel (fun y hy => ho y (by subst hy; simp)) hm) hv w
    · trivial
  case fieldAddr t x f =>
    simp only [stepOp, execOp]
    refine StepOk.ofV h fun v hv => ?_
    simp only [Option.bind_eq_some_iff] at hv
    obtain ⟨u, hu, hv⟩ := hv
    exact run_fieldAt hx (hr x (by simp [Op.operands]) _ hu) hv w
  case field t x f =>
    simp only [stepOp, execOp]
    refine StepOk.ofV h fun v hv => ?_
    simp only [Option.bind_eq_some_iff] at hv
    obtain ⟨u, hu, hv⟩ := hv
    exact run_field hx (hr x (by simp [Op.operands]) _ hu) hv w
  case indexAddr t x i =>
    simp only [stepOp, execOp]
    split
    · rename_i u v hu hv
      exact StepOk.ofV h fun r hr' => run_indexX hx h.facts (hr x (by simp [Op.operands]) _ hu) (hr i (by simp [Op.operands]) _ hv) hr' w
    · trivial
  case index t x i =>
    simp only [stepOp, execOp]
    split
    · rename_i u v hu hv
      exact StepOk.ofV h fun r hr' => run_index hx h.facts (hr x (by simp [Op.operands]) _ hu) (hr i (by simp [Op.operands]) _ hv) hr' w
    · trivial
  case lookup t m k ok =>
    simp only [stepOp, execOp]
    split
    · rename_i u v hu hv
      exact StepOk.ofV h fun r hr' => run_lookup hx (hr m (by simp [Op.operands]) _ hu) (hr k (by simp [Op.operands]) _ hv) h hr'
    · trivial
  case mapUpdate t m k x =>
    simp only [stepOp, execOp]
    split
    · rename_i u v y hu hv hy
      exact StepOk.ofS fun st' hs => run_mapUpdate hx (hr m (by simp [Op.operands]) _ hu) (hr k (by simp [Op.operands]) _ hv) (hr x (by simp [Op.operands]) _ hy) h hs
    · trivial
  case range t x =>
    simp only [stepOp, execOp]
    split
    · rename_i ty v ht hv
      exact StepOk.ofVS fun r st' hs => run_range hx ht (hr x (by simp [Op.operands]) _ hv) h hfl hs
    · trivial
  case next it isS =>
    simp only [stepOp, execOp]
    split
    · rename_i v hv
      have := run_next (P := P) (cx := cx) (B := B) (fl := fl) (isS := isS) type (hr it (by simp [Op.operands]) _ hv) h
      exact StepOk.ofR this
    · trivial
  case entry it =>
    simp only [stepOp, execOp]
    refine StepOk.ofV h fun v hv => ?_
    simp only [Option.bind_eq_some_iff] at hv
    obtain ⟨u, hu, hv⟩ := hv
    exact run_entry (hr it (by simp [Op.operands]) _ hu) h hv
  case extract t ix =>
    simp only [stepOp, execOp]
    split
    · rename_i l hv
      split
      · rename_i x hx'
        obtain ⟨arr, h2, h3⟩ := hr t (by simp [Op.operands]) _ hv
        obtain ⟨y, hy, hxy⟩ := h3.get ix hx'
        have hy' : arr[ix]? = some y := by simpa using hy
        exact ⟨y, β, w, by simp [h2, Instr.extract, hy'], hxy, Good.refl h⟩
      · trivial
    · trivial
  case call c =>
    obtain ⟨callee, cargs, atypes⟩ := c
    cases callee with
    | invoke r n => trivial
    | builtin b =>
      simp only [stepOp]
      split
      · rename_i args hargs
        have hvr := evArgs_relM (a := a) (β := β) (l := cargs.toList) (fun x hx => hr x (by simp [Op.operands, Call.operands]; simpa using hx)) hargs
        exact builtin_ok hx h hfl b atypes.toList type _ (args' := cargs.map a.eval) (by simpa using hvr)
      · trivial
    | value f =>
      simp only [stepOp]
      split
      · rename_i g caps args hf hargs
        have hvr := evArgs_relM (a := a) (β := β) (l := cargs.toList) (fun x hx => hr x (by simp [Op.operands, Call.operands]; exact .inr (by simpa using hx))) hargs
        obtain ⟨bs, hbs, h2⟩ := hr f (by simp [Op.operands, Call.operands]) _ hf
        refine ⟨cargs.map a.eval ++ (bs.map fun b => adr b 0).toArray, ?_, ?_⟩
        · rw [Array.toList_append, Array.toList_map]
          refine hvr.append ?_
          have : ∀ {ids : List Nat} {bs : List Nat}, All2 (fun id b => ∃ e, β id = some (b, e)) ids bs → All2 (VRel β) (ids.map fun id => V.a (.c (.ptr id 0))) (bs.map fun b => adr b 0) := by
            intro ids
            induction ids with
            | nil => intro bs hb; cases bs with | nil => trivial | cons _ _ => exact hb.elim
            | cons i ids ih => intro bs hb; cases bs with
              | nil => exact hb.elim
              | cons b bs => exact ⟨⟨b, hb.1.choose, hb.1.choose_spec, rfl⟩, ih hb.2⟩
          exact this hbs
        · simp [execOp, resolve, invoke, h2, Deferred.ofValue]
      · rename_i id args hf hargs
        have hvr := evArgs_relM (a := a) (β := β) (l := cargs.toList) (fun x hx => hr x (by simp [Op.operands, Call.operands]; exact .inr (by simpa using hx))) hargs
        obtain ⟨b, e, hb, h2⟩ := hr f (by simp [Op.operands, Call.operands]) _ hf
        refine ⟨b, e, cargs.map a.eval, hb, by rw [Array.toList_map]; exact hvr, ?_⟩
        simp [execOp, resolve, invoke, h2, Deferred.ofValue]
      · trivial
  all_goals trivial
end Go.Am

namespace Go.Am
open Go

variable {cx : Cx} {P : Program} {B fl : Nat} {β : Be} {st : St} {w : World}

/-- A call that comes back. -/
def CallRet (P : Program) (f : FuncId) (args : Array Value) (w : World) (Ψ : Value → World → Prop) : Prop :=
  (∃ v w', (callFunc f args).run P w = .ok (.value v) w' ∧ Ψ v w') ∨
  ((callFunc f args).run P w = .ok (.enter f args) w ∧ Calls P f args w fun e w' => ∃ v, e = .returned v ∧ Ψ v w')

theorem CallRet.mono {f : FuncId} {args : Array Value} {Ψ Φ : Value → World → Prop} (h : CallRet P f args w Ψ) (hm : ∀ v w', Ψ v w' → Φ v w') : CallRet P f args w Φ := by
  rcases h with ⟨v, w', h1, h2⟩ | ⟨h1, h2⟩
  · exact .inl ⟨v, w', h1, hm _ _ h2⟩
  · exact .inr ⟨h1, h2.mono fun e w' ⟨v, h3, h4⟩ => ⟨v, h3, hm _ _ h4⟩⟩

/-- The marks of the ranges over functions that an activation has entered. -/
def Marks (N : Nat) (w : World) : List Deferred → Prop
  | [] => True
  | d :: ds => ∃ D, d = { target := .collected D, args := #[] } ∧ N ≤ D ∧ w.heap[D]? = some (.deferred (some [])) ∧ (∀ d' ∈ ds, d'.target ≠ .collected D) ∧ Marks N w ds

def DefOk (N : Nat) (w : World) (ds : List Deferred) : Prop := N ≤ w.heap.size ∧ Marks N w ds

theorem ORel.notDef {ex : Nat} {x : Option (List Deferred)} : ∀ {o : O}, ¬ ORel cx β ex o (.deferred x)
  | .cells _ _ _, ⟨_, _, _, e, _⟩ => by cases e
  | .map _ _, ⟨_, e, _⟩ => by cases e
  | .sit _ _, e => by cases e
  | .sot _ _ _ _, ⟨_, e, _⟩ => by cases e
  | .sun, ⟨_, _, e⟩ => by cases e
  | .mit none _ _ _, e => by cases e
  | .mit (some _) _ _ _, ⟨_, _, _, e⟩ => by cases e
  | .lp _ _ _ _ _ _ _ _, ⟨_, e, _⟩ => by cases e

theorem not_own (h : Inv cx B β st w) {D : Nat} {x : Option (List Deferred)} (hD : w.heap[D]? = some (.deferred x)) {id : Nat} {o : O} {e : Nat} (ho : st.heap.get id = some o) : β id ≠ some (D, e) := by
  intro hb
  obtain ⟨b, e', ob, hb', hh, hr⟩ := h.live id o ho
  rw [hb] at hb'; cases hb'
  rw [hD] at hh; cases hh
  exact hr.notDef

theorem Marks.keep {N : Nat} {β' : Be} {st' : St} {w' : World} (h : Inv cx B β st w) (G : Good cx B fl β st w β' st' w') : ∀ {ds : List Deferred}, Marks N w ds → Marks N w' ds
  | [], _ => trivial
  | _ :: _, ⟨D, e, hN, hD, hne, hr⟩ => ⟨D, e, hN, (G.frame D (Array.getElem?_eq_some_iff.1 hD).1 fun _ _ _ _ ho => not_own h hD ho).trans hD, hne, Marks.keep h G hr⟩

theorem DefOk.keep {N : Nat} {β' : Be} {st' : St} {w' : World} {ds : List Deferred} (h : Inv cx B β st w) (G : Good cx B fl β st w β' st' w') (hd : DefOk N w ds) : DefOk N w' ds :=
  ⟨Nat.le_trans hd.1 G.size, hd.2.keep h G⟩

/-- A frame of any kind, whatever the function, however deep. -/
abbrev Fw (ro : Option Nat) : Fence := { Fence.wide with round := ro }

theorem callsIn_fw {ro : Option Nat} {n : Nat} {f : FuncId} {args : Array Value} {R : Ending → World → Prop} : CallsIn (Fw ro) n P f args w R ↔ Calls P f args w R :=
  show CallsIn Fence.wide n P f args w R ↔ _ from callsIn_wide

/-- What holds when the code is left: the continuation's word, at a state that the world answers to. -/
def Post (cx : Cx) (B fl N : Nat) (β : Be) (st : St) (w : World) (K : Exit → Fr → St → Bool) : Exit → Act → World → Prop :=
  fun e a' w' => ∃ fr' st' β', K e fr' st' = true ∧ Good cx B fl β st w β' st' w' ∧ FrRel β' fr' a' ∧ DefOk N w' a'.defers

theorem Post.trans {N : Nat} {β1 : Be} {st1 : St} {w1 : World} {K : Exit → Fr → St → Bool} {e : Exit} {a : Act} {w' : World} (h : Good cx B fl β st w β1 st1 w1) (hp : Post cx B fl N β1 st1 w1 K e a w') : Post cx B fl N β st w K e a w' := by
  obtain ⟨fr', st', β', h1, h2, h3, h4⟩ := hp
  exact ⟨fr', st', β', h1, h.trans h2, h3, h4⟩

/-- Code that may run: its plans are plans, and within a round no further range over a function is entered. -/
def CodeFit (cx : Cx) (ro : Option Nat) (g : FuncId) (c : Code) : Prop := plansOk cx g c = true ∧ (ro.isSome = true → noRange c = true)

section
variable {ro : Option Nat} {g : FuncId} {a b : Code}
theorem CodeFit.seq (h : CodeFit cx ro g (.seq a b)) : CodeFit cx ro g a ∧ CodeFit cx ro g b := by
  obtain ⟨h1, h2⟩ := h
  simp only [plansOk, noRange, Bool.and_eq_true] at h1 h2
  exact ⟨⟨h1.1, fun q => (h2 q).1⟩, ⟨h1.2, fun q => (h2 q).2⟩⟩
theorem CodeFit.cond {c : Operand} (h : CodeFit cx ro g (.cond c a b)) : CodeFit cx ro g a ∧ CodeFit cx ro g b := by
  obtain ⟨h1, h2⟩ := h
  simp only [plansOk, noRange, Bool.and_eq_true] at h1 h2
  exact ⟨⟨h1.1, fun q => (h2 q).1⟩, ⟨h1.2, fun q => (h2 q).2⟩⟩
theorem CodeFit.block {id : Nat} (h : CodeFit cx ro g (.block id a)) : CodeFit cx ro g a := h
theorem CodeFit.loop (h : CodeFit cx ro g (.loop a)) : CodeFit cx ro g a := h
theorem CodeFit.scope (h : CodeFit cx ro g (.scope a)) : CodeFit cx ro g a := h
theorem CodeFit.plain (h : plansOk cx g a = true) : CodeFit cx none g a := ⟨h, fun q => by cases q⟩
end

/-- The evaluator's word for code is the model's. -/
def CodeOk (cx : Cx) (P : Program) (B : Nat) (R : RunT) : Prop :=
  ∀ ro N fl g c fr st K, R fl g c fr st K = true → CodeFit cx ro g c → fl ≤ st.next → ∀ a w β, Inv cx B β st w → FrRel β fr a → DefOk N w a.defers → c.wpIn (Fw ro) 0 P (Post cx B fl N β st w K) a w

/-- The given primitives say what the calls do. -/
def PrimsOk (cx : Cx) (P : Program) (B : Nat) : Prop :=
  ∀ f p, cx.prim f = some p → ∀ fl β st w args (args' : Array Value) v st', Inv cx B β st w → fl ≤ st.next → All2 (VRel β) args args'.toList → p fl args st = some (v, st') →
    CallRet P f args' w fun v' w' => ∃ β', VRel β' v v' ∧ Good cx B fl β st w β' st' w'

theorem mkArgs_get : ∀ (l : List V) (i : Nat) (t : T V) (k : Nat), (mkArgs l i t).get k = if i ≤ k ∧ k - i < l.length then l[k - i]? else t.get k
  | [], i, t, k => by simp [mkArgs]
  | v :: vs, i, t, k => by
    rw [mkArgs, mkArgs_get vs (i + 1), T.get_set]
    by_cases h1 : k = i
    · subst h1
      rw [if_neg (by omega), if_pos rfl, if_pos (by simp)]; simp
    · by_cases h2 : i + 1 ≤ k ∧ k - (i + 1) < vs.length
      · rw [if_pos h2, if_pos ⟨by omega, by simp; omega⟩]
        have : k - i = (k - (i + 1)) + 1 := by omega
        rw [this]; simp
      · rw [if_neg h2, if_neg h1, if_neg (by simp; omega)]

theorem frame_enter {args : List V} {args' : Array Value} {n : Nat} (h : All2 (VRel β) args args'.toList) (hn : args.length ≤ n) :
    FrRel β ⟨n, mkArgs args 0 .nil⟩ { tmps := args' ++ Array.replicate (n - args'.size) undef, defers := [] } := by
  have hl : args'.size = args.length := by rw [← Array.length_toList, h.length]
  refine ⟨by simp [hl]; omega, fun t v hv => ?_⟩
  simp only at hv
  rw [mkArgs_get] at hv
  by_cases ht : 0 ≤ t ∧ t - 0 < args.length
  · rw [if_pos ht] at hv
    simp only [Nat.sub_zero] at hv ht
    obtain ⟨u, hu, hr⟩ := h.get t hv
    have hlt : t < args'.size := by omega
    have e : (args' ++ Array.replicate (n - args'.size) undef).getD t undef = u := by
      rw [Array.getD_eq_getD_getElem?, Array.getElem?_append_left hlt]
      have : args'[t]? = some u := by simpa using hu
      rw [this]; rfl
    rw [e]; exact hr
  · rw [if_neg ht] at hv
    simp [T.get] at hv

theorem loadN_ptr {p : C} {v : Value} {n : Nat} {l : List C} (hp : CRel β p v) (h : loadN cx st p n = some l) : ∃ q, v = .pointer (some q) := by
  unfold loadN at h
  split at h
  · obtain ⟨b, e, _, rfl⟩ := hp; exact ⟨_, rfl⟩
  · have e1 : v = _ := hp; exact ⟨_, e1⟩
  · have e1 : v = _ := hp; exact ⟨_, e1⟩
  · obtain ⟨b, off, rfl, _⟩ := hp; exact ⟨_, rfl⟩
  · cases h

/-- one result's value -/
def resM (tmps : Array Value) : ResultVar → Sem Value
  | .tmp t => pure (tmps.getD t undef)
  | .cell c t => do loadVar t (← asAddr (tmps.getD c undef))

theorem resultsOf_rel (hx : CxOk cx P) (h : Inv cx B β st w) {fr : Fr} {a : Act} (hf : FrRel β fr a) : ∀ {rs : List ResultVar} {vs : List V}, resultsOf cx fr st rs = some vs →
    ∃ vs', (rs.mapM (resM a.tmps)).run P w = .ok vs' w ∧ All2 (VRel β) vs vs'
  | [], vs, h0 => by simp only [resultsOf, Option.some.injEq] at h0; subst h0; exact ⟨[], by simp, trivial⟩
  | .tmp t :: rs, vs, h0 => by
    simp only [resultsOf] at h0
    split at h0
    · rename_i v l hv hl
      simp only [Option.some.injEq] at h0; subst h0
      obtain ⟨vs', h1, h2⟩ := resultsOf_rel hx h hf hl
      exact ⟨_ :: vs', by simp only [List.mapM_cons, resM, Sem.run_bind, Sem.run_pure, Result.andThen_ok, h1], hf.val t v hv, h2⟩
    · cases h0
  | .cell c t :: rs, vs, h0 => by
    simp only [resultsOf] at h0
    split at h0
    · rename_i p ty l hp ht hl
      split at h0
      · rename_i v hv
        simp only [Option.some.injEq] at h0; subst h0
        obtain ⟨vs', h1, h2⟩ := resultsOf_rel hx h hf hl
        simp only [Option.bind_eq_some_iff] at hp
        obtain ⟨u, hu, hp⟩ := hp
        have := toC_some hp; subst this
        have hpr : CRel β p (a.tmps.getD c undef) := hf.val c _ hu
        obtain ⟨u', q1, q2⟩ := run_loadVar hx ht h hpr hv
        simp only [Option.bind_eq_some_iff] at hv
        obtain ⟨cs, hcs, _⟩ := hv
        obtain ⟨q, hq⟩ := loadN_ptr hpr hcs
        rw [hq] at q1
        have q3 : (do loadVar t (← asAddr (.pointer (some q))) : Sem Value).run P w = .ok u' w := by
          rw [← q1]; rfl
        refine ⟨u' :: vs', ?_, q2, h2⟩
        have q4 : (resM a.tmps (.cell c t)).run P w = .ok u' w := by
          rw [← q3]; unfold resM; simp only [hq]
        simp only [List.mapM_cons, Sem.run_bind, q4, Sem.run_pure, Result.andThen_ok, h1]
      · cases h0
    · cases h0

theorem toAs_rel : ∀ {l : List V} {m : List A} {l' : List Value}, toAs l = some m → All2 (VRel β) l l' → All2 (ARel β) m l'
  | [], m, [], h, _ => by simp only [toAs, Option.some.injEq] at h; subst h; trivial
  | [], _, _ :: _, _, h => h.elim
  | _ :: _, _, [], _, h => h.elim
  | .a x :: l, m, y :: l', h, hr => by
    simp only [toAs, Option.map_eq_some_iff] at h
    obtain ⟨m', h1, rfl⟩ := h
    exact ⟨hr.1, toAs_rel h1 hr.2⟩
  | .tup _ :: _, _, _ :: _, h, _ => by simp [toAs] at h

theorem result_rel (hx : CxOk cx P) (h : Inv cx B β st w) {fr : Fr} {a : Act} (hf : FrRel β fr a) {F : Func} {v : V} (hr : result cx F fr st = some v) :
    ∃ v', (results F a.tmps).run P w = .ok v' w ∧ VRel β v v' := by
  unfold result at hr
  cases hrs : resultsOf cx fr st F.results.toList with
  | none => rw [hrs] at hr; simp at hr
  | some vs =>
    rw [hrs] at hr
    obtain ⟨vs', h1, h2⟩ := resultsOf_rel hx h hf hrs
    have hrun : (results F a.tmps).run P w = .ok (if h : vs'.toArray.size = 1 then vs'.toArray[0] else .tuple vs'.toArray) w := by
      have hm : (F.results.mapM (resM a.tmps)).run P w = .ok vs'.toArray w := by
        rw [Array.mapM_eq_mapM_toList]
        simp only [Sem.run_map]
        rw [h1]; rfl
      have hd : results F a.tmps = (do
          let vs ← F.results.mapM (resM a.tmps)
          pure (if h : vs.size = 1 then vs[0] else .tuple vs)) := by
        unfold results; rfl
      rw [hd, Sem.run_bind, hm]
      rfl
    rw [hrun]
    match vs, vs', h2, hr with
    | [], [], _, hr =>
      simp only [toAs, Option.map_some, Option.some.injEq] at hr
      subst hr
      exact ⟨_, rfl, #[], rfl, trivial⟩
    | [x], [y], h2, hr =>
      simp only [Option.some.injEq] at hr
      subst hr
      exact ⟨_, rfl, h2.1⟩
    | x :: x2 :: l, y :: y2 :: l', h2, hr =>
      simp only [Option.map_eq_some_iff] at hr
      obtain ⟨m, hm, rfl⟩ := hr
      exact ⟨.tuple (y :: y2 :: l').toArray, by simp, _, rfl, by simpa using toAs_rel hm h2⟩

theorem callFunc_enter (hx : CxOk cx P) {f : FuncId} {F : Func} (hf : cx.fn f = some F) {c : Code} (hb : F.body = some c) (args : Array Value) (w : World) : (callFunc f args).run P w = .ok (.enter f args) w := by
  obtain ⟨h1, h2⟩ := hx.fn f F hf
  have h3 : F.name ≠ "runtime.NumGoroutine" := by simpa using h2
  simp [callFunc, h1, h3, hb]

/-- Blocks for deferred calls, shut; nothing else turns. -/
structure Shut (N : Nat) (w w' : World) : Prop where
  os : w'.os = w.os
  tape : w'.tape = w.tape
  output : w'.output = w.output
  size : w'.heap.size = w.heap.size
  other : ∀ k, w'.heap[k]? = w.heap[k]? ∨ (N ≤ k ∧ w.heap[k]? = some (.deferred (some [])))

theorem Shut.refl (N : Nat) (w : World) : Shut N w w := ⟨rfl, rfl, rfl, rfl, fun _ => .inl rfl⟩

theorem Shut.put {N D : Nat} {w : World} (hN : N ≤ D) (h : w.heap[D]? = some (.deferred (some []))) : Shut N w (w.putObj D (.deferred none)) :=
  ⟨rfl, rfl, rfl, by simp, fun k => if e : k = D then .inr ⟨e ▸ hN, e ▸ h⟩ else .inl (World.putObj_heap_other e)⟩

theorem Shut.trans {N : Nat} {a b c : World} (h : Shut N a b) (h' : Shut N b c) : Shut N a c := by
  refine ⟨h'.os.trans h.os, h'.tape.trans h.tape, h'.output.trans h.output, h'.size.trans h.size, fun k => ?_⟩
  rcases h'.other k with h1 | ⟨h1, h2⟩
  · rcases h.other k with h3 | h3
    · exact .inl (h1.trans h3)
    · exact .inr h3
  · rcases h.other k with h3 | h3
    · exact .inr ⟨h1, h3 ▸ h2⟩
    · exact .inr h3

theorem Good.shut {β' : Be} {st' : St} {w' w2 : World} (h : Inv cx B β st w) (G : Good cx B fl β st w β' st' w') (hs : Shut w.heap.size w' w2) : Good cx B fl β st w β' st' w2 := by
  have low : ∀ k, k < w.heap.size → w2.heap[k]? = w'.heap[k]? := fun k hk => (hs.other k).resolve_right fun q => by omega
  refine ⟨G.ext, G.old, ⟨fun id p hp => ?_, fun id o ho => ?_, G.inv.inj, fun b o v hv => ?_, by rw [hs.size]; exact G.inv.size, G.inv.facts, ?_⟩, G.keep, G.next, hs.os.trans G.os, hs.tape.trans G.tape, hs.output.trans G.output, by rw [hs.size]; exact G.size, fun k hk hn => (low k hk).trans (G.frame k hk hn), G.fresh, G.zn⟩
  · have := G.inv.low id p hp
    exact ⟨this.1, this.2.1, by rw [hs.size]; exact this.2.2⟩
  · obtain ⟨b, e, ob, hb, hh, hr⟩ := G.inv.live id o ho
    refine ⟨b, e, ob, hb, ?_, hr⟩
    rcases hs.other b with q | ⟨_, q⟩
    · exact q.trans hh
    · exact absurd hb (not_own G.inv q ho)
  · obtain ⟨h1, h2⟩ := G.inv.base b o v hv
    refine ⟨h1, ?_⟩
    rw [← h2]
    simp only [World.cell?]
    rw [low b (Nat.lt_of_lt_of_le h1 h.size)]
  · intro b o v hv
    obtain ⟨h1, h2⟩ := G.inv.still b o v hv
    refine ⟨?_, h2⟩
    rcases hs.other b with q | ⟨_, q⟩
    · rw [← h1]; simp only [World.cell?]; rw [q]
    · simp only [World.cell?] at h1
      rw [q] at h1; cases h1

theorem leaves_of {N n : Nat} {F : Func} {tmps : Array Value} {R : Ending → World → Prop} : ∀ (ds : List Deferred) (w : World), Marks N w ds → (∀ w', Shut N w w' → ∃ v, (results F tmps).run P w' = .ok v w' ∧ R (.returned v) w') →
    LeavesInM (Fw none) n P F tmps R ds .returning w
  | [], w, _, h => h w (Shut.refl N w)
  | d :: ds, w, ⟨D, e, hN, hD, hne, hr⟩, h => by
    refine ⟨by simp, .inl ⟨D, w.putObj D (.deferred none), by rw [e], run_takeDeferred hD, leaves_of ds _ ?_ fun w' hs => h w' ((Shut.put hN hD).trans hs)⟩⟩
    have : ∀ ds : List Deferred, (∀ d' ∈ ds, d'.target ≠ .collected D) → Marks N w ds → Marks N (w.putObj D (.deferred none)) ds := by
      intro ds
      induction ds with
      | nil => intro _ _; trivial
      | cons d2 ds ih =>
        rintro hne ⟨D2, e2, hN2, hD2, hne2, hr2⟩
        refine ⟨D2, e2, hN2, (World.putObj_heap_other fun e3 => ?_).trans hD2, hne2, ih (fun d' hd' => hne d' (by simp [hd'])) hr2⟩
        exact hne d2 (by simp) (by rw [e2, e3])
    exact this ds hne hr

/-- A scope whose jumps none takes. -/
theorem wpIn_scope {F : Fence} {n : Nat} {c : Code} {Q : Exit → Act → World → Prop} {a : Act} (h : c.wpIn F n P (fun e a w => match e with | .goto _ => False | e => Q e a w) a w) : (Code.scope c).wpIn F n P Q a w := by
  intro b k cs hro hb hr
  have h0 : (lone (b.atR a (.code (.scope c) :: k)) cs w).fenced P F := fenced_calm hb hr rfl
  have s0 : step P (lone (b.atR a (.code (.scope c) :: k)) cs w) = .next (lone (b.atR a (.code c :: .inScope c :: k)) cs w) := step_lone_go (by simp [stepG, stepG.exec, Frame.atR])
  obtain ⟨e, a₁, w₁, hq, harr⟩ := h b (.inScope c :: k) cs hro hb hr
  cases e with
  | normal =>
    have s1 : step P (lone (b.atR a₁ (.inScope c :: k)) cs w₁) = .next (lone (b.atR a₁ k) cs w₁) := step_lone_go (by simp [stepG, stepG.exec, Frame.atR])
    exact ⟨.normal, a₁, w₁, hq, .head h0 s0 (StepsIn.trans harr (.one (fenced_calm hb hr rfl) s1))⟩
  | exit id =>
    have hx : exitTo id (.inScope c :: k) = exitTo id k := by simp [exitTo]
    exact ⟨.exit id, a₁, w₁, hq, fun k' hk => .head h0 s0 (harr.1 k' (by rw [hx]; exact hk)),
      fun hr' hk => let ⟨k₁, h1, h2⟩ := harr.2 hr' (by rw [hx]; exact hk); ⟨k₁, h1, .head h0 s0 h2⟩⟩
  | goto l => exact hq.elim
  | ret => exact ⟨_, a₁, w₁, hq, .of_steps (.one h0 s0) harr⟩
  | panic ch => exact ⟨_, a₁, w₁, hq, .of_steps (.one h0 s0) harr⟩
  | outgrown => exact ⟨_, a₁, w₁, hq, .of_steps (.one h0 s0) harr⟩

/-- A call's body. -/
theorem callB0_ok (hx : CxOk cx P) {R : RunT} (hR : CodeOk cx P B R) {f : FuncId} {args : List V} {args' : Array Value} {K : V → St → Bool} (hk : callB0 cx R fl f args st K = true) (hfl : fl ≤ st.next)
    (h : Inv cx B β st w) (ha : All2 (VRel β) args args'.toList) :
    (callFunc f args').run P w = .ok (.enter f args') w ∧ Calls P f args' w fun e w' => ∃ v', e = .returned v' ∧ ∃ v st' β', K v st' = true ∧ VRel β' v v' ∧ Good cx B fl β st w β' st' w' := by
  unfold callB0 at hk
  split at hk
  · cases hk
  rename_i F hF
  split at hk
  · cases hk
  rename_i c hb
  cases hn : Nat.ble args.length F.ntmps with
  | false => rw [hn] at hk; simp at hk
  | true =>
  rw [hn] at hk
  simp only [cond_true] at hk
  have hn' := Nat.le_of_ble_eq_true hn
  refine ⟨callFunc_enter hx hF hb args' w, ?_⟩
  refine (callsIn_fw (ro := none) (n := 0)).1 (callsIn_of_wp_marks (hx.fn f F hF).1 hb trivial ?_ rfl)
  refine wpIn_mono (hR none w.heap.size fl f c _ st _ hk (.plain (hx.plans f F c hF hb)) hfl _ w β h (frame_enter ha hn') ⟨Nat.le_refl _, trivial⟩) ?_
  rintro e a' w' ⟨fr', st', β', hK, hG, hF', hd⟩
  have fin : ∀ v, result cx F fr' st' = some v → K v st' = true → LeavesInM (Fw none) 0 P F a'.tmps (fun e w' => ∃ v', e = .returned v' ∧ ∃ v st' β', K v st' = true ∧ VRel β' v v' ∧ Good cx B fl β st w β' st' w') a'.defers .returning w' := fun v hv hkv =>
    leaves_of a'.defers w' hd.2 fun w2 hs => by
      have hG2 := hG.shut h hs
      obtain ⟨v', q1, q2⟩ := result_rel hx hG2.inv hF' hv
      exact ⟨v', q1, v', rfl, v, st', β', hkv, q2, hG2⟩
  cases e with
  | normal =>
    simp only at hK
    split at hK
    · rename_i v hv; exact fin v hv hK
    · cases hK
  | ret =>
    simp only at hK
    split at hK
    · rename_i v hv; exact fin v hv hK
    · cases hK
  | exit id => cases hK
  | goto l => cases hK
  | panic ch => cases hK
  | outgrown => cases hK

theorem callF_ok (hx : CxOk cx P) (hp : PrimsOk cx P B) {R : RunT} (hR : CodeOk cx P B R) {f : FuncId} {args : List V} {args' : Array Value} {K : V → St → Bool} (hk : callF cx R fl f args st K = true) (hfl : fl ≤ st.next)
    (h : Inv cx B β st w) (ha : All2 (VRel β) args args'.toList) :
    CallRet P f args' w fun v' w' => ∃ v st' β', K v st' = true ∧ VRel β' v v' ∧ Good cx B fl β st w β' st' w' := by
  unfold callF at hk
  split at hk
  · rename_i p hpf
    split at hk
    · rename_i v st' hv
      exact (hp f p hpf fl β st w args args' v st' h hfl ha hv).mono fun v' w' ⟨β', q1, q2⟩ => ⟨v, st', β', hk, q1, q2⟩
    · cases hk
  · obtain ⟨h1, h2⟩ := callB0_ok hx hR hk hfl h ha
    exact .inr ⟨h1, h2⟩

/-! ### a range over a function -/
theorem setPs_rel {n : Nat} : ∀ {ps : List Tmp} {as : List V} {t t' : T V} {as' : List Value} {tm : Array Value}, setPs n ps as t = some t' → All2 (VRel β) as as' → n = tm.size → (∀ i v, t.get i = some v → VRel β v (tm.getD i undef)) →
    ps.length = as'.length ∧ n = ((ps.zip as').foldl (fun tm (p : Tmp × Value) => tm.setIfInBounds p.1 p.2) tm).size ∧ ∀ i v, t'.get i = some v → VRel β v (((ps.zip as').foldl (fun tm (p : Tmp × Value) => tm.setIfInBounds p.1 p.2) tm).getD i undef)
  | [], [], t, t', as', tm, h, ha, hn, hv => by
    simp only [setPs, Option.some.injEq] at h; subst h
    cases as' with
    | nil => exact ⟨rfl, hn, hv⟩
    | cons _ _ => exact ha.elim
  | p :: ps, v :: as, t, t', [], tm, _, ha, _, _ => ha.elim
  | p :: ps, v :: as, t, t', v' :: as', tm, h, ha, hn, hv => by
    simp only [setPs] at h
    cases hb : Nat.blt p n with
    | false => rw [hb] at h; cases h
    | true =>
    rw [hb] at h
    simp only [cond_true] at h
    have hlt : p < n := by simpa [Nat.blt, Nat.ble_eq, Nat.succ_le_iff] using hb
    obtain ⟨h1, h2, h3⟩ := setPs_rel (tm := tm.setIfInBounds p v') h ha.2 (by simpa using hn) fun i u hu => by
      rw [T.get_set] at hu
      by_cases e : i = p
      · subst e
        rw [if_pos rfl] at hu
        cases hu
        have : i < tm.size := by rw [← hn]; exact hlt
        simpa [Array.getD, this] using ha.1
      · rw [if_neg e] at hu
        have := hv i u hu
        have e' : p ≠ i := fun h => e h.symm
        simpa [Array.getD_eq_getD_getElem?, Array.getElem?_setIfInBounds_ne e'] using this
    exact ⟨by simp [h1], h2, h3⟩
  | [], _ :: _, _, _, _, _, h, _, _, _ => by cases h
  | _ :: _, [], _, _, _, _, h, _, _, _ => by cases h

/-- One round, at the call of yield. -/
theorem yield_ok {R : RunT} (hR : CodeOk cx P B R) {ro : Option Nat} {id b e : Nat} {args : List V} {args' : Array Value} {K : V → St → Bool} (hk : yieldF R fl id args st K = true) (hfl : fl ≤ st.next)
    (h : Inv cx B β st w) (hb : β id = some (b, e)) (ha : All2 (VRel β) args args'.toList) :
    ∃ f tmps as bd, (Instr.yield b args').run P w = .ok (.round b f tmps as bd) w ∧
      RoundIn (Fw ro) 0 P b f tmps as bd w fun e w' => ∃ v', e = .returned v' ∧ ∃ v st' β', K v st' = true ∧ VRel β' v v' ∧ Good cx B fl β st w β' st' w' := by
  unfold yieldF at hk
  cases hc : Nat.ble fl id with
  | false => rw [hc] at hk; cases hk
  | true =>
  rw [hc] at hk
  simp only [cond_true, St.get] at hk
  have hid := Nat.le_of_ble_eq_true hc
  split at hk
  case h_2 => cases hk
  rename_i n t ps as bd s p g hg
  split at hk
  case h_2 => cases hk
  rename_i t' ht'
  obtain ⟨b', e', ob, hb', hh, r, rfl, r1, r2, r3, r4, r5, r6, r7, r8, r9, r10, r11⟩ := h.live id _ hg
  rw [hb] at hb'; cases hb'
  obtain ⟨p1, p2, p3⟩ := setPs_rel ht' ha r6 r7
  have hz : (r.params.zip args').foldl (fun tmps (t, a) => tmps.setIfInBounds t a) r.tmps = (ps.zip args'.toList).foldl (fun tm (p : Tmp × Value) => tm.setIfInBounds p.1 p.2) r.tmps := by
    rw [← Array.foldl_toList, Array.toList_zip, r1]
  refine ⟨r.fn, _, r.assign, r.body, run_yield hh (by rw [← Array.length_toList, ← Array.length_toList, r1, p1]), ?_⟩
  rw [hz]
  refine roundIn_of_wpIn (F := Fw ro) trivial ?_
  subst r2 r3
  refine wpIn_mono (hR (some b) w.heap.size fl g r.assign ⟨n, t'⟩ st _ hk ⟨r8, fun _ => r10⟩ hfl { tmps := _, defers := [] } w β h ⟨p2, p3⟩ ⟨Nat.le_refl _, trivial⟩) ?_
  rintro e1 a1 w1 ⟨fr1, st1, β1, k1, G1, F1, d1⟩
  unfold bodyRd at k1
  simp only [St.get] at k1
  split at k1
  case h_2 => cases k1
  rename_i n1 t1 ps1 as1 bd1 s1 q1 g1 hg1
  cases hs : stReady s1 with
  | false => rw [hs] at k1; cases k1
  | true =>
  rw [hs] at k1
  simp only [cond_true] at k1
  have hb1 := G1.ext.ids _ _ hb
  obtain ⟨b', e', ob, hb', hh1, x, rfl, x1, x2, x3, x4, x5, x6, x7, x8⟩ := G1.inv.live id _ hg1
  rw [hb1] at hb'; cases hb'
  have hready : x.state = .ready := by
    rw [x4]
    cases s1 <;> first | rfl | cases hs
  refine ⟨_, run_beginRound hh1 hready, ?_⟩
  have G2 : Good cx B fl β1 st1 w1 β1 (st1.put id (some (.lp n1 t1 ps1 as1 bd1 .busy q1 g1))) (w1.putObj b (.loop { x with state := .busy })) :=
    Good.write G1.inv hid hg1 hb1 ⟨{ x with state := .busy }, rfl, x1, x2, x3, rfl, x5, x6, x7, x8⟩ (chg_obj hh1)
  refine wpIn_mono (hR (some b) w.heap.size fl g r.body fr1 _ _ k1 ⟨r9, fun _ => r11⟩ (Nat.le_trans hfl (Nat.le_trans G1.next G2.next)) a1 _ β1 G2.inv F1 (d1.keep G1.inv G2)) ?_
  rintro e2 a2 w3 ⟨fr2, st2, β2, k2, G3, F2, d2⟩
  change endRd id K e2 st2 = true at k2
  have fin : ∀ j, jumpOf e2 = some j → ∃ v w', (Instr.endRound b j).run P w3 = .ok v w' ∧ ∃ v', Ending.returned v = .returned v' ∧ ∃ v st' β', K v st' = true ∧ VRel β' v v' ∧ Good cx B fl β st w β' st' w' := by
    intro j hj
    unfold endRd at k2
    rw [hj] at k2
    simp only [St.get] at k2
    split at k2
    case h_2 => cases k2
    rename_i j' n2 t2 ps2 as2 bd2 s2 q2 g2 hj' hg2
    cases hj'
    have hb2 := G3.ext.ids _ _ hb1
    obtain ⟨b', e', ob, hb', hh2, y, rfl, y1, y2, y3, y4, y5, y6, y7, y8⟩ := G3.inv.live id _ hg2
    rw [hb2] at hb'; cases hb'
    have G4 : Good cx B fl β2 st2 w3 β2 (st2.put id (some (.lp n2 t2 ps2 as2 bd2 (stAfter j) j g2))) (w3.putObj b (.loop { y with state := if j.isNone then .ready else .done, pending := j })) :=
      Good.write G3.inv hid hg2 hb2 ⟨{ y with state := if j.isNone then .ready else .done, pending := j }, rfl, y1, y2, y3, by cases j <;> rfl, rfl, y6, y7, y8⟩ (chg_obj hh2)
    exact ⟨_, _, run_endRound j hh2, _, rfl, _, _, β2, k2, rfl, G1.trans (G2.trans (G3.trans G4))⟩
  cases e2 with
  | normal => exact fin none rfl
  | ret => exact fin _ rfl
  | exit i => exact fin _ rfl
  | goto l => simp [endRd, jumpOf] at k2
  | panic c => simp [endRd, jumpOf] at k2
  | outgrown => simp [endRd, jumpOf] at k2

/-- A block more, that is not the call's own. -/
theorem Good.extra (h : Inv cx B β st w) (ob : Obj) : Good cx B fl β st w β st (w.alloc ob) := by
  have hw : (w.alloc ob).heap = w.heap.push ob := rfl
  have old : ∀ k, k < w.heap.size → (w.alloc ob).heap[k]? = w.heap[k]? := fun k hk => by rw [hw, Array.getElem?_push, if_neg (by omega)]
  have hs : w.heap.size ≤ (w.alloc ob).heap.size := by rw [hw]; simp
  refine ⟨Ext.refl _, fun _ _ => rfl, ⟨fun id p hp => ?_, fun id o ho => ?_, h.inj, fun b o v hv => ?_, Nat.le_trans h.size hs, h.facts, still_of h.still rfl fun b hb hn => ⟨old b hb, hn⟩⟩, fun _ _ => rfl, Nat.le_refl _, rfl, rfl, rfl, hs, fun k hk _ => old k hk, fun id o b e h1 h2 h3 => .inr ⟨id, o, e, h1, h2, h3⟩, fun _ _ _ h => .inl h⟩
  · have := h.low id p hp; exact ⟨this.1, this.2.1, Nat.lt_of_lt_of_le this.2.2 hs⟩
  · obtain ⟨b, e, ob', hb, hh, hr⟩ := h.live id o ho
    exact ⟨b, e, ob', hb, (old b (h.low _ _ hb).2.2).trans hh, hr⟩
  · obtain ⟨h1, h2⟩ := h.base b o v hv
    exact ⟨h1, by rw [← h2]; simp only [World.cell?]; rw [old b (Nat.lt_of_lt_of_le h1 h.size)]⟩

/-- The statement. -/
theorem range_ok (hx : CxOk cx P) {R : RunT} (hR : CodeOk cx P B R) {N : Nat} {g : FuncId} {f : Operand} {ps : Array Tmp} {as bd : Code} {fr : Fr} {a : Act} {K : Exit → Fr → St → Bool} (hk : rangeF cx R fl g (ev fr f) ps as bd fr st K = true)
    (hok : plansOk cx g (.rangeFunc f ps as bd) = true) (hfl : fl ≤ st.next) (h : Inv cx B β st w) (hf : FrRel β fr a) (hd : DefOk N w a.defers) : (Code.rangeFunc f ps as bd).wpIn (Fw none) 0 P (Post cx B fl N β st w K) a w := by
  unfold rangeF at hk
  split at hk
  case h_2 => cases hk
  rename_i g' caps hv
  cases hc : (noRange as && noRange bd) with
  | false => rw [hc] at hk; cases hk
  | true =>
  rw [hc] at hk
  simp only [cond_true] at hk
  simp only [plansOk, Bool.and_eq_true] at hok hc
  obtain ⟨bs, hbs, hev⟩ := ev_rel hf hv
  refine wpIn_rangeFunc fun fn _ => ?_
  have G0 : Good cx B fl β st w β st (w.alloc (.deferred (some []))) := Good.extra h _
  have hsz : (w.alloc (.deferred (some []))).heap.size = w.heap.size + 1 := World.size_alloc _ _
  obtain ⟨w1, hw1⟩ : ∃ w1, (w.alloc (.deferred (some []))).alloc (.loop { state := .ready, pending := none, fn := fn, tmps := a.tmps, params := ps, assign := as, body := bd, defers := w.heap.size }) = w1 := ⟨_, rfl⟩
  have G1 : Good cx B fl β st (w.alloc (.deferred (some []))) (upd β st.next (w.heap.size + 1, 0)) (st.new (.lp fr.n fr.t ps.toList as bd .ready none g)) w1 := by
    rw [← hsz, ← hw1]
    refine Good.alloc (e := 0) G0.inv hfl ⟨_, rfl, rfl, rfl, rfl, rfl, rfl, hf.size, fun i v hi => (hf.val i v hi).mono (ext_upd h _), hok.1, hok.2, hc.1, hc.2⟩ rfl rfl rfl rfl
  have hargs : All2 (VRel (upd β st.next (w.heap.size + 1, 0))) (.a (.c (.yl st.next)) :: ptrsOf caps) (#[Value.func (.yield (w.heap.size + 1)) #[] #[]] ++ (bs.map fun b => adr b 0).toArray).toList := by
    have e1 : (#[Value.func (.yield (w.heap.size + 1)) #[] #[]] ++ (bs.map fun b => adr b 0).toArray).toList = Value.func (.yield (w.heap.size + 1)) #[] #[] :: bs.map fun b => adr b 0 := by simp
    rw [e1]
    refine ⟨⟨w.heap.size + 1, 0, by simp [upd_at], rfl⟩, ?_⟩
    have hext := ext_upd h (w.heap.size + 1, 0)
    have : ∀ {ids : List Nat} {bs : List Nat}, All2 (fun id b => ∃ e, β id = some (b, e)) ids bs → All2 (VRel (upd β st.next (w.heap.size + 1, 0))) (ptrsOf ids) (bs.map fun b => adr b 0) := by
      intro ids
      induction ids with
      | nil => intro bs hb; cases bs with | nil => trivial | cons _ _ => exact hb.elim
      | cons i ids ih => intro bs hb; cases bs with
        | nil => exact hb.elim
        | cons b bs => exact ⟨⟨b, hb.1.choose, hext.ids _ _ hb.1.choose_spec, rfl⟩, ih hb.2⟩
    exact this hbs
  obtain ⟨henter, hcalls⟩ := callB0_ok hx hR hk (Nat.le_trans hfl G1.next) G1.inv hargs
  refine ⟨w.heap.size + 1, [{ target := .collected w.heap.size, args := #[] }], w1, { target := .fn (.func g') (bs.map fun b => adr b 0).toArray, args := #[.func (.yield (w.heap.size + 1)) #[] #[]] }, w1, g',
    #[.func (.yield (w.heap.size + 1)) #[] #[]] ++ (bs.map fun b => adr b 0).toArray, w1, ?_, ?_, fun _ _ => trivial, ?_, fun q => (by cases q), ?_⟩
  · rw [← hw1]; exact run_enterLoop_outer _ _ _ _ _
  · simp only [resolve]
    have : a.eval f = _ := hev
    simp [this, Deferred.ofValue]; rfl
  · simp only [invoke]; exact henter
  · refine callsIn_fw.2 (hcalls.mono ?_)
    rintro e w3 ⟨v', rfl, v, st3, β3, k3, _, G3⟩
    unfold afterRange at k3
    simp only [St.get] at k3
    split at k3
    case h_2 => cases k3
    rename_i n3 t3 ps3 as3 bd3 s3 p3 g3 hg3
    cases hbusy : stBusy s3 with
    | true => rw [hbusy] at k3; cases k3
    | false =>
    rw [hbusy] at k3
    simp only [cond_false] at k3
    split at k3
    case h_2 => cases k3
    rename_i ex hex
    have hb3 : β3 st.next = some (w.heap.size + 1, 0) := G3.ext.ids _ _ (by simp [upd_at])
    obtain ⟨b', e', ob, hb', hh3, y, rfl, y1, y2, y3, y4, y5, y6⟩ := G3.inv.live _ _ hg3
    rw [hb3] at hb'; cases hb'
    have hnb : y.state ≠ .busy := by
      intro q; rw [y4] at q; subst q; cases hbusy
    have G4 : Good cx B fl β3 st3 w3 β3 (st3.put st.next (some (.lp n3 t3 ps3 as3 bd3 .exhausted p3 g3))) (w3.putObj (w.heap.size + 1) (.loop { y with state := .exhausted })) :=
      Good.write G3.inv hfl hg3 hb3 ⟨{ y with state := .exhausted }, rfl, y1, y2, y3, rfl, y5, y6⟩ (chg_obj hh3)
    refine ⟨p3, _, (run_endLoop hh3 hnb).trans (congrArg (fun q => Result.ok q _) y5), ?_⟩
    have hdef1 : DefOk N w1 ([{ target := .collected w.heap.size, args := #[] }] ++ a.defers) := by
      refine ⟨Nat.le_trans hd.1 (Nat.le_trans G0.size G1.size), w.heap.size, rfl, hd.1, ?_, fun d' hd' hc => ?_, ((hd.keep h G0).keep G0.inv G1).2⟩
      · rw [← hw1]
        have e1 : ∀ (w0 : World) (ob : Obj), (w0.alloc ob).heap = w0.heap.push ob := fun _ _ => rfl
        rw [e1, Array.getElem?_push, if_neg (by rw [hsz]; omega)]
        exact World.alloc_heap_new w _
      · have : ∀ ds : List Deferred, Marks N w ds → ∀ d' ∈ ds, d'.target ≠ .collected w.heap.size := by
          intro ds
          induction ds with
          | nil => intro _ d' hd'; cases hd'
          | cons d2 ds ih =>
            rintro ⟨D2, e2, _, hD2, _, hr2⟩ d' hd' hc
            rcases List.mem_cons.1 hd' with q | q
            · rw [q, e2] at hc
              cases hc
              have := (Array.getElem?_eq_some_iff.1 hD2).1
              omega
            · exact ih hr2 d' q hc
        exact this _ hd.2 d' hd' hc
    have hpost : Post cx B fl N β st w K ex { a with defers := [{ target := .collected w.heap.size, args := #[] }] ++ a.defers } (w3.putObj (w.heap.size + 1) (.loop { y with state := .exhausted })) :=
      ⟨fr, _, β3, k3, G0.trans (G1.trans (G3.trans G4)), ⟨hf.size, fun t v hv => ((hf.val t v hv).mono (ext_upd h _)).mono G3.ext⟩, (hdef1.keep G1.inv G3).keep G3.inv G4⟩
    unfold jumpBack at hex
    split at hex
    · cases hex; exact hpost
    · cases hex; exact wpIn_ret hpost
    · cases hex; exact wpIn_exit hpost
    · cases hex
end Go.Am
