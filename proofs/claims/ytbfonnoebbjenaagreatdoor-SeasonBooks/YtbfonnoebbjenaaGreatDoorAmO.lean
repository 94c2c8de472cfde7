/- The abstract machine: maps and iterators as the model runs them. -/
import Derived.Test.YtbfonnoebbjenaaGreatDoorAmN
import Derived.MapKept
namespace Go.Am
open Go

variable {cx : Cx} {P : Program} {B fl : Nat} {β : Be} {st : St} {w : World}

theorem keyEq_rel {kd : TypeDesc} {kv key : Value} {c : C} {r : Bool} (hc : CRel β c key) (h : keyEq kd kv c = some r) : Instr.sameNow kd kv key = some r ∧ (r = true → key = kv ∧ ∃ d, MapKept.IsKey d kv) := by
  unfold keyEq at h
  split at h
  · have e1 : key = _ := hc
    subst e1
    rename_i k a k' b
    cases hd : decide (k = k') with
    | false => rw [hd] at h; simp at h
    | true =>
      rw [hd] at h
      simp only [cond_true, Option.some.injEq] at h; subst h
      have := of_decide_eq_true hd; subst this
      refine ⟨by simp [Instr.sameNow], fun e => ?_⟩
      have := eq_of_beq e; subst this; exact ⟨rfl, .int k, rfl⟩
  · have e1 : key = _ := hc
    subst e1
    simp only [Option.some.injEq] at h; subst h
    exact ⟨rfl, fun e => ⟨by rw [(MapKept.bytes_beq _ _).1 e], .string, trivial⟩⟩
  · have e1 : key = _ := hc
    subst e1
    simp only [Option.some.injEq] at h; subst h
    exact ⟨rfl, fun e => ⟨by rw [eq_of_beq e], .bool, trivial⟩⟩
  · cases h

theorem findE_rel {kd : TypeDesc} {kv : Value} : ∀ {es : List (C × A × Nat)} {es' : List MapEntry} {i : Nat} {r : Option (Nat × A)}, All2 (ERel β) es es' → findE kd kv es i = some r →
    (r = none ∧ Instr.findNow kd kv es' i = some none) ∨ ∃ j x e', r = some (i + j, x) ∧ es'[j]? = some e' ∧ (e'.key = kv ∧ ∃ d, MapKept.IsKey d kv) ∧ ARel β x e'.val ∧ Instr.findNow kd kv es' i = some (some (i + j, e'.val))
  | [], [], i, r, _, h => by simp only [findE, Option.some.injEq] at h; exact .inl ⟨h.symm, rfl⟩
  | [], _ :: _, _, _, h, _ => h.elim
  | _ :: _, [], _, _, h, _ => h.elim
  | (c, v, b) :: es, e' :: es', i, r, hr, h => by
    simp only [findE] at h
    split at h
    · rename_i hk
      obtain ⟨h1, h2⟩ := keyEq_rel hr.1.1 hk
      simp only [Option.some.injEq] at h; subst h
      exact .inr ⟨0, v, e', rfl, rfl, h2 rfl, hr.1.2.1, by simp [Instr.findNow, h1]⟩
    · rename_i hk
      obtain ⟨h1, _⟩ := keyEq_rel hr.1.1 hk
      rcases findE_rel hr.2 h with ⟨e1, e2⟩ | ⟨j, x, e2, q1, q2, q3, q4, q5⟩
      · exact .inl ⟨e1, by simp [Instr.findNow, h1, e2]⟩
      · exact .inr ⟨j + 1, x, e2, by rw [q1]; simp; omega, by simpa using q2, q3, q4, by simp [Instr.findNow, h1, q5]; omega⟩
    · cases h

theorem run_checkKeyable {kt : TypeId} {d : TypeDesc} {k : Value} (hd : P.underlying kt = some d) (hk : keyable d = true) (e : Bool) (w : World) : (Instr.checkKey e 10000 kt k).run P w = .ok () w := by
  rw [show 10000 = 9999 + 1 from rfl]
  unfold Instr.checkKey
  simp only [Sem.run_bind, run_underlying hd, Result.andThen]
  cases d <;> simp_all [keyable]

theorem modifyE_rel {kd : TypeDesc} {kv : Value} {x : A} {x' : Value} (hx : ARel β x x') : ∀ {es : List (C × A × Nat)} {es' : List MapEntry} (i : Nat), All2 (ERel β) es es' →
    All2 (ERel β) (modifyE es i (.sc kv) x) (es'.modify i fun e => { e with key := kv, val := x' })
  | [], [], _, _ => by simp [modifyE]; trivial
  | [], _ :: _, _, h => h.elim
  | _ :: _, [], _, h => h.elim
  | (c, v, b) :: es, e' :: es', 0, h => by
    simp only [modifyE, List.modify_zero_cons]
    exact ⟨⟨rfl, hx, h.1.2.2⟩, h.2⟩
  | e :: es, e' :: es', i + 1, h => by
    simp only [modifyE, List.modify_succ_cons]
    exact ⟨h.1, modifyE_rel (kd := kd) hx i h.2⟩

theorem eraseE_rel : ∀ {es : List (C × A × Nat)} {es' : List MapEntry} (i : Nat), All2 (ERel β) es es' → All2 (ERel β) (eraseE es i) (es'.eraseIdx i)
  | [], [], _, _ => by simp [eraseE]; trivial
  | [], _ :: _, _, h => h.elim
  | _ :: _, [], _, h => h.elim
  | _ :: _, _ :: _, 0, h => h.2
  | _ :: _, _ :: _, i + 1, h => ⟨h.1, eraseE_rel i h.2⟩

/-- 'lookup' once the entries are in hand. -/
def lookT (kt et : TypeId) (k : Value) (ok : Bool) (es : Array MapEntry) : Sem Value := do
  Instr.checkKey es.isEmpty 10000 kt k
  let (v, ok2) ← match ← Instr.findKey kt k es.toList with
    | some (_, v) => pure (v, true)
    | none => pure (← zeroValue et, false)
  pure (if ok then .tuple #[v, .bool ok2] else v)

theorem run_lookup_none {t kt et : TypeId} (ht : P.underlying t = some (.map kt et)) (k : Value) (ok : Bool) (w : World) : (Instr.lookup t (.map none) k ok).run P w = (lookT kt et k ok #[]).run P w := by
  simp only [Instr.lookup, Sem.run_bind, run_underlying ht, Result.andThen_ok, Sem.run_pure, lookT]
  rfl

theorem run_lookup_some {t kt et : TypeId} (ht : P.underlying t = some (.map kt et)) {b c : Nat} {es : Array MapEntry} (hb : w.heap[b]? = some (.map es c)) (k : Value) (ok : Bool) : (Instr.lookup t (.map (some b)) k ok).run P w = (lookT kt et k ok es).run P w := by
  simp only [Instr.lookup, Sem.run_bind, run_underlying ht, Result.andThen_ok, Sem.run_pure, lookT, MapKept.run_getObj_map hb]
  rfl

theorem zero_rel {t : TypeId} {ty : Ty} {i : TypeInfo} {z : Value} (hE : TyIs P t ty i z) {v : V} (hz : pack ty (zeroC ty) = some v) : VRel β v z := by
  obtain ⟨r1, r2⟩ := zeroC_rel (β := β) hE
  have hag := hE.agg
  rcases pack_rel hz r1 r2 with ⟨ha, hv⟩ | ⟨ha, y, hy, hv, hs⟩
  · rw [ha] at hag
    cases z <;> simp [isAggV] at hag
    simpa [Value.cells] using hv
  · rw [ha] at hag
    have : z = y := by
      cases z <;> first
        | (simp [isAggV] at hag; done)
        | simpa [Value.cells] using hy
    rw [this]; exact hv

theorem run_lookup (hx : CxOk cx P) {t : TypeId} {m k v : V} {m' k' : Value} {ok : Bool} (hm : VRel β m m') (hk : VRel β k k') (h : Inv cx B β st w) (hl : lookup cx t m k ok st = some v) :
    ∃ v', (Instr.lookup t m' k' ok).run P w = .ok v' w ∧ VRel β v v' := by
  unfold lookup at hl
  split at hl
  case h_2 => cases hl
  rename_i ty ht
  obtain ⟨i, z, hT⟩ := hx.is ht
  split at hl
  case h_2 => cases hl
  rename_i kt et hu
  split at hl
  case h_2 => cases hl
  rename_i kty ety es clock kv hkt het hes
  obtain ⟨i1, z1, hK⟩ := hx.is hkt
  obtain ⟨i2, z2, hE⟩ := hx.is het
  have hk' : k' = kv := hk
  subst hk'
  cases hkd : keyable kty.under with
  | false => rw [hkd] at hl; simp at hl
  | true =>
  rw [hkd] at hl
  simp only [cond_true] at hl
  have hck := fun e => run_checkKeyable (P := P) (k := k') hK.under hkd e w
  have hmt : P.underlying t = some (.map kt et) := by rw [hT.under, hu]
  obtain ⟨es', hr, hrun⟩ : ∃ es' : Array MapEntry, All2 (ERel β) es es'.toList ∧ (Instr.lookup t m' k' ok).run P w = (lookT kt et k' ok es').run P w := by
    rcases mapEs_rel h hm hes with ⟨rfl, rfl⟩ | ⟨id, b, e', es', _, _, rfl, _, hh, hr⟩
    · exact ⟨#[], trivial, run_lookup_none hmt _ _ _⟩
    · exact ⟨es', hr, run_lookup_some hmt hh _ _⟩
  rw [hrun]
  unfold lookT
  simp only [Sem.run_bind, hck, Result.andThen_ok]
  split at hl
  · rename_i j x hf
    rcases findE_rel hr hf with ⟨e1, _⟩ | ⟨j2, x2, e2, q1, q2, q3, q4, q5⟩
    · cases e1
    · cases q1
      rw [MapKept.run_findKey hK.under q5]
      simp only [Option.some.injEq] at hl; subst hl
      cases ok with
      | true => exact ⟨_, rfl, #[e2.val, .bool true], rfl, q4, rfl, trivial⟩
      | false => exact ⟨_, rfl, q4⟩
  · rename_i hf
    rcases findE_rel hr hf with ⟨_, e2⟩ | ⟨_, _, _, q1, _⟩
    · rw [MapKept.run_findKey hK.under e2]
      simp only [Result.andThen_ok, Sem.run_bind, hE.run_zero, Sem.run_pure]
      split at hl
      · rename_i zz hz
        simp only [Option.some.injEq] at hl
        have hzr : ARel β zz z2 := zero_rel hE hz
        subst hl
        cases ok with
        | true => exact ⟨_, rfl, #[z2, .bool false], rfl, hzr, rfl, trivial⟩
        | false => exact ⟨_, rfl, hzr⟩
      · cases hl
    · cases q1
  · cases hl

theorem run_mapUpdate (hx : CxOk cx P) {t : TypeId} {m k x : V} {m' k' x' : Value} (hm : VRel β m m') (hk : VRel β k k') (hxr : VRel β x x') (h : Inv cx B β st w) {st' : St} (hl : mapUpdate cx fl t m k x st = some st') :
    ∃ w', (Instr.mapUpdate t m' k' x').run P w = .ok () w' ∧ Good cx B fl β st w β st' w' := by
  unfold mapUpdate at hl
  split at hl
  case h_2 => cases hl
  rename_i ty ht
  obtain ⟨i, z, hT⟩ := hx.is ht
  split at hl
  case h_2 => cases hl
  rename_i kt et hu
  split at hl
  case h_2 => cases hl
  rename_i kty id kv xa hkt hxa
  obtain ⟨i1, z1, hK⟩ := hx.is hkt
  have hk' : k' = kv := hk
  subst hk'
  have hxr' : ARel β xa x' := by
    cases x with
    | tup l => cases hxa
    | a y => simp only [toA, Option.some.injEq] at hxa; subst hxa; exact hxr
  cases hkd : (keyable kty.under && Nat.ble fl id) with
  | false => rw [hkd] at hl; simp at hl
  | true =>
  rw [hkd] at hl
  simp only [cond_true, St.get] at hl
  simp only [Bool.and_eq_true] at hkd
  have hfl := Nat.le_of_ble_eq_true hkd.2
  have hmt : P.underlying t = some (.map kt et) := by rw [hT.under, hu]
  split at hl
  case h_2 => cases hl
  rename_i es clock hg
  obtain ⟨b, e, hb, rfl⟩ := hm
  obtain ⟨b', e', ob, hb', hh, es', rfl, hr⟩ := h.live id _ hg
  rw [hb] at hb'; cases hb'
  have hck := run_checkKeyable (P := P) (k := k') hK.under hkd.1 false w
  split at hl
  · rename_i j x2 hf
    rcases findE_rel hr hf with ⟨e1, _⟩ | ⟨j2, x3, e2, q1, q2, q3, q4, q5⟩
    · cases e1
    · cases q1
      simp only [Option.some.injEq] at hl; subst hl
      have hj : es'[j2]? = some e2 := by simpa using q2
      obtain ⟨q3, d, hd⟩ := q3
      rw [Nat.zero_add] at q5 ⊢
      refine ⟨_, ?_, Good.write h hfl hg hb (ob := .map (es'.modify j2 fun e => { e with key := k', val := x' }) clock) ⟨_, rfl, ?_⟩ (chg_obj hh)⟩
      · simp [Instr.mapUpdate, run_underlying hmt, MapKept.run_getObj_map hh, hck, MapKept.run_findKey hK.under q5, hj, q3, MapKept.run_keyThatStays hd, MapKept.run_setObj_map _ hh]
      · simpa using modifyE_rel (kd := kty.under) (kv := k') hxr' _ hr
  · rename_i hf
    rcases findE_rel hr hf with ⟨_, e2⟩ | ⟨_, _, _, q1, _⟩
    · simp only [Option.some.injEq] at hl; subst hl
      refine ⟨_, ?_, Good.write h hfl hg hb (ob := .map (es'.push { key := k', val := x', born := clock }) (clock + 1)) ⟨_, rfl, ?_⟩ (chg_obj hh)⟩
      · simp [Instr.mapUpdate, run_underlying hmt, MapKept.run_getObj_map hh, hck, MapKept.run_findKey hK.under e2, MapKept.run_setObj_map _ hh]
      · rw [Array.toList_push]
        exact hr.append ⟨⟨rfl, hxr', rfl⟩, trivial⟩
    · cases q1
  · cases hl


theorem run_mapDelete (hx : CxOk cx P) {t : TypeId} {ty : TypeId} {m k : V} {m' k' : Value} {ts : Array TypeId} (ht0 : ts[0]? = some t) (hm : VRel β m m') (hk : VRel β k k') (h : Inv cx B β st w) {st' : St} (hl : mapDelete cx fl t m k st = some st') :
    ∃ w', (Builtin.delete_ ts ty #[m', k']).run P w = .ok (.tuple #[]) w' ∧ Good cx B fl β st w β st' w' := by
  unfold mapDelete at hl
  split at hl
  case h_2 => cases hl
  rename_i tty ht
  obtain ⟨i, z, hT⟩ := hx.is ht
  split at hl
  case h_2 => cases hl
  rename_i kt et hu
  split at hl
  case h_2 => cases hl
  rename_i kty id kv hkt
  obtain ⟨i1, z1, hK⟩ := hx.is hkt
  have hk' : k' = kv := hk
  subst hk'
  cases hkd : (keyable kty.under && Nat.ble fl id) with
  | false => rw [hkd] at hl; simp at hl
  | true =>
  rw [hkd] at hl
  simp only [cond_true, St.get] at hl
  simp only [Bool.and_eq_true] at hkd
  have hfl := Nat.le_of_ble_eq_true hkd.2
  have hmt : P.underlying t = some (.map kt et) := by rw [hT.under, hu]
  split at hl
  case h_2 => cases hl
  rename_i es clock hg
  obtain ⟨b, e, hb, rfl⟩ := hm
  obtain ⟨b', e', ob, hb', hh, es', rfl, hr⟩ := h.live id _ hg
  rw [hb] at hb'; cases hb'
  have hck := fun e => run_checkKeyable (P := P) (k := k') hK.under hkd.1 e w
  split at hl
  · rename_i j x2 hf
    rcases findE_rel hr hf with ⟨e1, _⟩ | ⟨j2, x3, e2, q1, q2, q3, q4, q5⟩
    · cases e1
    · cases q1
      simp only [Option.some.injEq] at hl; subst hl
      rw [Nat.zero_add] at q5 ⊢
      have hlt : j2 < es'.size := by have := (List.getElem?_eq_some_iff.1 q2).1; simpa using this
      refine ⟨_, ?_, Good.write h hfl hg hb (ob := .map (es'.eraseIdxIfInBounds j2) clock) ⟨_, rfl, ?_⟩ (chg_obj hh)⟩
      · simp [Builtin.delete_, ht0, run_underlying hmt, MapKept.run_getObj_map hh, hck, MapKept.run_findKey hK.under q5, MapKept.run_setObj_map _ hh]
      · rw [Array.eraseIdxIfInBounds, dif_pos hlt, Array.toList_eraseIdx]
        exact eraseE_rel _ hr
  · rename_i hf
    rcases findE_rel hr hf with ⟨_, e2⟩ | ⟨_, _, _, q1, _⟩
    · simp only [Option.some.injEq] at hl; subst hl
      refine ⟨w, ?_, Good.refl h⟩
      have : ({ w with heap := w.heap.setIfInBounds b (.map es' clock) } : World) = w := by
        have : w.heap.setIfInBounds b (.map es' clock) = w.heap := by
          apply Array.ext_getElem?
          intro k
          rw [Array.getElem?_setIfInBounds]
          split
          · rename_i e; subst e
            rw [hh, if_pos (Array.getElem?_eq_some_iff.1 hh).1]
          · rfl
        rw [this]
      simp [Builtin.delete_, ht0, run_underlying hmt, MapKept.run_getObj_map hh, hck, MapKept.run_findKey hK.under e2, MapKept.run_setObj_map _ hh, this]
    · cases q1
  · cases hl

theorem run_makeMap (h : Inv cx B β st w) (hfl : fl ≤ st.next) (t : TypeId) : ∃ v' β' w', (Instr.makeMap t none).run P w = .ok v' w' ∧ VRel β' (.a (.c (.mp st.next))) v' ∧ Good cx B fl β st w β' (st.new (.map [] 0)) w' := by
  refine ⟨.map (some w.heap.size), upd β st.next (w.heap.size, 0), w.alloc (.map #[] 0), ?_, ⟨w.heap.size, 0, upd_self _ _ _, rfl⟩, Good.alloc h hfl ⟨#[], rfl, trivial⟩ rfl rfl rfl rfl⟩
  simp [Instr.makeMap]

theorem run_range (hx : CxOk cx P) {t : TypeId} {ty : Ty} (ht : cx.ty t = some ty) {x v : V} {x' : Value} (hxr : VRel β x x') (h : Inv cx B β st w) (hfl : fl ≤ st.next) {st' : St} (hl : rangeOp cx ty x st = some (v, st')) :
    ∃ v' β' w', (Instr.range t x').run P w = .ok v' w' ∧ VRel β' v v' ∧ Good cx B fl β st w β' st' w' := by
  obtain ⟨i, z, hT⟩ := hx.is ht
  unfold rangeOp at hl
  split at hl
  · rename_i s hu
    have e1 : x' = _ := hxr
    subst e1
    simp only [Option.some.injEq, Prod.mk.injEq] at hl
    obtain ⟨rfl, rfl⟩ := hl
    refine ⟨adr w.heap.size 0, upd β st.next (w.heap.size, 0), w.alloc (.stringIter s 0), ?_, ⟨w.heap.size, 0, upd_self _ _ _, rfl⟩, Good.alloc h hfl rfl rfl rfl rfl rfl⟩
    simp [Instr.range, hT.run_under, hu, adr]
  · rename_i kt et hu
    have e1 : x' = _ := hxr
    subst e1
    simp only [Option.some.injEq, Prod.mk.injEq] at hl
    obtain ⟨rfl, rfl⟩ := hl
    refine ⟨adr w.heap.size 0, upd β st.next (w.heap.size, 0), w.alloc (.mapIter none 0 #[] 0), ?_, ⟨w.heap.size, 0, upd_self _ _ _, rfl⟩, Good.alloc h hfl rfl rfl rfl rfl rfl⟩
    simp [Instr.range, hT.run_under, hu, adr]
  · rename_i kt et id hu
    simp only [St.get] at hl
    split at hl
    · rename_i es clock hg
      simp only [Option.some.injEq, Prod.mk.injEq] at hl
      obtain ⟨rfl, rfl⟩ := hl
      obtain ⟨b, e, hb, rfl⟩ := hxr
      obtain ⟨b', e', ob, hb', hh, es', rfl, hr⟩ := h.live id _ hg
      rw [hb] at hb'; cases hb'
      refine ⟨adr w.heap.size 0, upd β st.next (w.heap.size, 0), w.alloc (.mapIter (some b) clock #[] clock), ?_, ⟨w.heap.size, 0, upd_self _ _ _, rfl⟩, Good.alloc h hfl ⟨b, e, (ext_upd h _).ids _ _ hb, rfl⟩ rfl rfl rfl rfl⟩
      simp [Instr.range, hT.run_under, hu, adr, MapKept.run_getObj_map hh]
    · cases hl
  · cases hl

theorem memN_eq (b : Nat) : ∀ l : List Nat, memN b l = l.contains b
  | [] => rfl
  | x :: l => by
    simp only [memN, List.contains_cons, memN_eq b l]
    cases h : Nat.beq b x with
    | true => have := Nat.eq_of_beq_eq_true h; subst this; simp
    | false =>
      have : b ≠ x := fun e => by subst e; rw [T.beq_true rfl] at h; cases h
      simp [this]

theorem unseen_rel (seen : List Nat) : ∀ {es : List (C × A × Nat)} {es' : List MapEntry}, All2 (ERel β) es es' → All2 (ERel β) (unseen seen es) (es'.filter fun e => !seen.contains e.born)
  | [], [], _ => trivial
  | [], _ :: _, h => h.elim
  | _ :: _, [], h => h.elim
  | (k, v, b) :: es, e' :: es', h => by
    have ih := unseen_rel seen h.2
    have hb : e'.born = b := h.1.2.2
    simp only [unseen, memN_eq, List.filter_cons, hb]
    cases hs : seen.contains b with
    | true => simpa using ih
    | false => exact ⟨h.1, ih⟩

theorem allBelow_rel {n : Nat} : ∀ {es : List (C × A × Nat)} {es' : List MapEntry}, All2 (ERel β) es es' → allBelow n es = true → ∀ e ∈ es', e.born < n
  | [], [], _, _ => by simp
  | [], _ :: _, h, _ => h.elim
  | _ :: _, [], h, _ => h.elim
  | (k, v, b) :: es, e' :: es', h, ha => by
    simp only [allBelow, Bool.and_eq_true] at ha
    have hb : e'.born = b := h.1.2.2
    intro e he
    rcases List.mem_cons.1 he with rfl | he
    · rw [hb]; simpa [Nat.blt, Nat.ble_eq, Nat.succ_le_iff] using ha.1
    · exact allBelow_rel h.2 ha.2 e he

theorem run_choose_next (P : Program) (w : World) (n : Nat) (hn : 0 < n) : ∃ k w2, k < n ∧ w2.heap = w.heap ∧ w2.os = w.os ∧ w2.tape = w.tape ∧ w2.output = w.output ∧ (choose (.mapNext n)).run P w = .ok k w2 := by
  by_cases h : n ≤ 1
  · exact ⟨0, w, hn, rfl, rfl, rfl, rfl, by simp [Question.forced, h]⟩
  · exact ⟨w.tape w.drawn (.mapNext n) % n, { w with drawn := w.drawn + 1 }, Nat.mod_lt _ hn, rfl, rfl, rfl, rfl, by simp [choose, Sem.run, Question.forced, h, Question.cut]⟩

/-- 'next' at a map: the candidates -/
def nextT (r m since : Nat) (seen : Array Nat) (clock : Nat) (candidates : Array (Option MapEntry)) : Sem Value := do
  match candidates[← choose (.mapNext candidates.size)]? with
  | some (some e) =>
    setObj r (.mapIter (some m) since (seen.push e.born) clock)
    pure (.tuple #[.bool true, e.key, e.val])
  | some none => pure (.tuple #[.bool false])
  | none => stuck "Next: no such candidate"

theorem run_next_map {w : World} {r m since : Nat} {seen : Array Nat} {es : Array MapEntry} (hr : w.heap[r]? = some (.mapIter (some m) since seen since)) (hm : w.heap[m]? = some (.map es since)) (hb : ∀ e ∈ es.toList, e.born < since) (ty : TypeId) :
    (Instr.next (adr r 0) false ty).run P w = (nextT r m since seen since ((if (es.filter fun e => !seen.contains e.born).isEmpty then #[none] else #[]) ++ (es.filter fun e => !seen.contains e.born).map some)).run P w := by
  have h1 : (!seen.isEmpty && !es.isEmpty && es.all (fun e => decide (e.born ≥ since))) = false := by
    cases he : es.isEmpty with
    | true => simp
    | false =>
      have : es.all (fun e => decide (e.born ≥ since)) = false := by
        have hne : es.toList ≠ [] := by
          intro h0
          have : es = #[] := by apply Array.toList_inj.1; simpa using h0
          subst this; simp at he
        obtain ⟨x, l, hxl⟩ := List.exists_cons_of_ne_nil hne
        have hx := hb x (by rw [hxl]; simp)
        rw [← Array.all_toList, hxl]
        simp; intro; omega
      simp [this]
  have hsub : ∀ e ∈ (es.filter fun e => !seen.contains e.born), e.born < since := fun e he => hb e (by
    have := (Array.mem_filter.1 he).1
    simpa using this)
  have h2 : (es.filter fun e => !seen.contains e.born).filter (fun e => decide (e.born < since)) = es.filter fun e => !seen.contains e.born := by
    apply Array.filter_eq_self.2
    intro e he; simpa using hsub e he
  have h3 : (es.filter fun e => !seen.contains e.born).filter (fun e => decide (e.born ≥ since)) = #[] := by
    apply Array.filter_eq_empty_iff.2
    intro e he; have := hsub e he; simp; omega
  have hdef : Instr.next (adr r 0) false ty = (do
    match ← getObj r, false with
    | .stringIter s pos, true =>
      if pos < s.size then
        let (c, width) := Utf8.decode s pos
        setObj r (.stringIter s (pos + width))
        pure (.tuple #[.bool true, goInt pos, .int .i32 c])
      else pure (.tuple #[.bool false])
    | .mapIter none _ _ _, false => pure (.tuple #[.bool false])
    | .mapIter (some m) since seen last, false =>
      let .map es clock ← getObj m | stuck "Next: map expected"
      if !seen.isEmpty && !es.isEmpty && es.all (·.born ≥ last) then
        unsupported (.noEntry "instr/Next: every entry that the ranged map held at the last iteration is gone, and it holds new ones")
      let left := es.filter fun e => !seen.contains e.born
      let old := left.filter (·.born < since)
      let new := left.filter (·.born ≥ since)
      let candidates := (if old.isEmpty then #[none] else #[]) ++ (old ++ new).map some
      nextT r m since seen clock candidates
    | _, _ => stuck "Next: iterator of the other kind") := rfl
  rw [hdef]
  have hg : (getObj r).run P w = .ok (.mapIter (some m) since seen since) w := by simp [getObj, Sem.run, hr]
  have hg2 : (getObj m).run P w = .ok (.map es since) w := by simp [getObj, Sem.run, hm]
  simp only [Sem.run_bind, hg, hg2, Result.andThen_ok, h1, h2, h3, Bool.false_eq_true, if_false, Array.append_empty]

/-- One step of the evaluator as the model takes it. -/
def OkV (cx : Cx) (B fl : Nat) (β : Be) (st : St) (w : World) (P : Program) (e : Sem Value) (v : V) (st' : St) : Prop :=
  ∃ v' β' w', e.run P w = .ok v' w' ∧ VRel β' v v' ∧ Good cx B fl β st w β' st' w'

theorem over_rel : VRel β overV (.tuple #[.bool false]) := ⟨#[.bool false], rfl, rfl, trivial⟩

theorem run_nextT {r m : Nat} (h : Inv cx B β st w) {id im e em since : Nat} (hfl : fl ≤ id) {seen : List Nat} (hg : st.heap.get id = some (.mit (some im) since seen since)) (hb : β id = some (r, e)) (hm : β im = some (m, em))
    {left : List (C × A × Nat)} {left' : Array MapEntry} (hr : All2 (ERel β) left left'.toList) (hw : w.heap[r]? = some (.mapIter (some m) since seen.toArray since)) (hne : left ≠ []) :
    ∃ c, c ∈ left ∧ OkV cx B fl β st w P (nextT r m since seen.toArray since ((if left'.isEmpty then #[none] else #[]) ++ left'.map some)) (.tup [.c (.sc (.bool true)), .c c.1, c.2.1]) (st.put id (some (.mit (some im) since (seen ++ [c.2.2]) since))) := by
  have hl : left'.toList.length = left.length := hr.length.symm
  have hpos : 0 < left'.size := by
    rw [← Array.length_toList, hl]
    exact List.length_pos_iff.2 hne
  have hemp : left'.isEmpty = false := by
    simp only [Array.isEmpty, decide_eq_false_iff_not]; omega
  obtain ⟨k, w2, hk, q1, q2, q3, q4, hc⟩ := run_choose_next P w (left'.map some).size (by simpa using hpos)
  have hk' : k < left'.size := by simpa using hk
  have hek : left'.toList[k]? = some left'[k] := by simp [hk']
  obtain ⟨c, hck, hcr⟩ := hr.get' k hek
  refine ⟨c, List.mem_of_getElem? hck, .tuple #[.bool true, left'[k].key, left'[k].val], β, { w2 with heap := w2.heap.setIfInBounds r (.mapIter (some m) since (seen.toArray.push left'[k].born) since) }, ?_, ?_, ?_⟩
  · have hw2 : w2.heap[r]? = some (.mapIter (some m) since seen.toArray since) := by rw [q1]; exact hw
    have hs : ∀ o, (setObj r o).run P w2 = .ok () { w2 with heap := w2.heap.setIfInBounds r o } := fun o => by simp [setObj, Sem.run, hw2]
    have hcand : (left'.map some)[k]? = some (some left'[k]) := by simp [hk']
    simp only [nextT, hemp, Bool.false_eq_true, if_false, Array.empty_append, Sem.run_bind, hc, Result.andThen_ok, hcand, hs, Sem.run_pure]
  · exact ⟨_, rfl, rfl, hcr.1, hcr.2.1, trivial⟩
  · refine Good.write h hfl hg hb (ob := .mapIter (some m) since (seen.toArray.push left'[k].born) since) ⟨m, em, hm, ?_⟩ ?_
    · rw [hcr.2.2]; simp
    · have := chg_obj (ob := .mapIter (some m) since (seen.toArray.push left'[k].born) since) hw
      refine ⟨q2, q3, q4, by simp [q1], ?_, ?_⟩
      · simpa [q1] using this.here
      · intro k' hk'; simpa [q1] using this.other k' hk'

/-- What a step's answer says of the run. -/
def RRel (cx : Cx) (B fl : Nat) (β : Be) (st : St) (w : World) (P : Program) (e : Sem Value) : R → Prop
  | .val v st' => OkV cx B fl β st w P e v st'
  | .any l => ∃ v st', (v, st') ∈ l ∧ OkV cx B fl β st w P e v st'
  | .fail => True
  | _ => False

theorem run_next {x : V} {x' : Value} {isS : Bool} (ty : TypeId) (hxr : VRel β x x') (h : Inv cx B β st w) : RRel cx B fl β st w P (Instr.next x' isS ty) (nextOp fl x isS st) := by
  unfold nextOp
  split
  case h_2 => trivial
  rename_i r
  cases hfid : Nat.ble fl r with
  | false => trivial
  | true =>
  have hfl := Nat.le_of_ble_eq_true hfid
  simp only [cond_true, St.get]
  obtain ⟨b, e, hb, rfl⟩ := hxr
  split
  · rename_i s pos hg
    obtain ⟨b', e', ob, hb', hh, ho⟩ := h.live r _ hg
    rw [hb] at hb'; cases hb'
    have ho' : ob = .stringIter s pos := ho
    subst ho'
    cases hlt : Nat.blt pos s.size with
    | true =>
      have hlt' : pos < s.size := by simpa [Nat.blt, Nat.ble_eq, Nat.succ_le_iff] using hlt
      refine ⟨.tuple #[.bool true, .int .i64 pos, .int .i32 (Utf8.decode s pos).1], β, { w with heap := w.heap.setIfInBounds b (.stringIter s (pos + (Utf8.decode s pos).2)) }, ?_, ⟨_, rfl, rfl, rfl, rfl, trivial⟩, Good.write h hfl hg hb rfl (chg_obj hh)⟩
      simp [Instr.next, adr, getObj, setObj, Sem.run, hh, hlt', goInt]
    | false =>
      have hlt' : ¬ pos < s.size := by
        intro hc
        have : Nat.blt pos s.size = true := by simpa [Nat.blt, Nat.ble_eq, Nat.succ_le_iff] using hc
        rw [this] at hlt; cases hlt
      refine ⟨.tuple #[.bool false], β, w, ?_, over_rel, Good.refl h⟩
      simp [Instr.next, adr, getObj, Sem.run, hh, hlt']
  · rename_i hg
    obtain ⟨b', e', ob, hb', hh, ho⟩ := h.live r _ hg
    rw [hb] at hb'; cases hb'
    have ho' : ob = _ := ho
    subst ho'
    refine ⟨.tuple #[.bool false], β, w, ?_, over_rel, Good.refl h⟩
    simp [Instr.next, adr, getObj, Sem.run, hh]
  · rename_i im since seen last hg
    split
    case h_2 => trivial
    rename_i es clock hgm
    obtain ⟨b', e', ob, hb', hh, m, em, hm, rfl⟩ := h.live r _ hg
    rw [hb] at hb'; cases hb'
    obtain ⟨b2, e2, ob2, hb2, hh2, es', rfl, hr⟩ := h.live im _ hgm
    rw [hm] at hb2; cases hb2
    cases hc : (Nat.beq clock since && Nat.beq last since && allBelow since es) with
    | false => trivial
    | true =>
    simp only [Bool.and_eq_true] at hc
    have h1 := Nat.eq_of_beq_eq_true hc.1.1
    have h2 := Nat.eq_of_beq_eq_true hc.1.2
    subst h1 h2
    simp only [cond_true]
    have hbelow := allBelow_rel hr hc.2
    have hun := unseen_rel seen hr
    have hrun := run_next_map (P := P) (seen := seen.toArray) hh hh2 hbelow ty
    have hfilter : (es'.filter fun e => !seen.toArray.contains e.born).toList = es'.toList.filter fun e => !seen.contains e.born := by simp
    rw [← hfilter] at hun
    split
    · rename_i hnil
      rw [hnil] at hun
      have h0 : es'.filter (fun e => !seen.toArray.contains e.born) = #[] := by
        apply Array.toList_inj.1
        have := hun.length
        exact List.eq_nil_of_length_eq_zero this.symm
      refine ⟨.tuple #[.bool false], β, w, ?_, over_rel, Good.refl h⟩
      rw [hrun, h0]
      simp [nextT, Question.forced]
    · rename_i hnil
      obtain ⟨c, hcm, v', β', w', q1, q2, q3⟩ := run_nextT (P := P) h hfl hg hb hm hun hh hnil
      exact ⟨_, _, List.mem_map_of_mem hcm, v', β', w', hrun ▸ q1, q2, q3⟩
  · trivial

theorem lastOf_eq : ∀ l : List Nat, lastOf l = l.getLast?
  | [] => rfl
  | [x] => rfl
  | x :: y :: l => by simp only [lastOf, lastOf_eq (y :: l), List.getLast?_cons_cons]

theorem findB_rel (b : Nat) : ∀ {es : List (C × A × Nat)} {es' : List MapEntry} {k : C} {x : A}, All2 (ERel β) es es' → findB b es = some (k, x) → ∃ e', es'.find? (fun e => e.born == b) = some e' ∧ CRel β k e'.key ∧ ARel β x e'.val
  | [], [], _, _, _, h => by simp [findB] at h
  | [], _ :: _, _, _, h, _ => h.elim
  | _ :: _, [], _, _, h, _ => h.elim
  | (k0, v0, b0) :: es, e' :: es', k, x, hr, h => by
    have hb : e'.born = b0 := hr.1.2.2
    simp only [findB] at h
    cases hq : Nat.beq b0 b with
    | true =>
      rw [hq] at h
      simp only [cond_true, Option.some.injEq, Prod.mk.injEq] at h
      obtain ⟨rfl, rfl⟩ := h
      have := Nat.eq_of_beq_eq_true hq
      exact ⟨e', by simp [hb, this], hr.1.1, hr.1.2.1⟩
    | false =>
      rw [hq] at h
      simp only [cond_false] at h
      obtain ⟨e2, q1, q2, q3⟩ := findB_rel b hr.2 h
      have : (e'.born == b) = false := by
        rw [hb]
        have : b0 ≠ b := fun e => by subst e; rw [T.beq_true rfl] at hq; cases hq
        simpa using this
      exact ⟨e2, by simp [this, q1], q2, q3⟩

theorem run_entry {x v : V} {x' : Value} (hxr : VRel β x x') (h : Inv cx B β st w) (hl : entryOp x st = some v) : ∃ v', (Instr.entry x').run P w = .ok v' w ∧ VRel β v v' := by
  unfold entryOp at hl
  split at hl
  case h_2 => cases hl
  rename_i r
  simp only [St.get] at hl
  obtain ⟨b, e, hb, rfl⟩ := hxr
  split at hl
  case h_2 => cases hl
  rename_i im since seen stepped hg
  split at hl
  case h_2 => cases hl
  rename_i es clock bn hgm hlast
  obtain ⟨b', e', ob, hb', hh, m, em, hm, rfl⟩ := h.live r _ hg
  rw [hb] at hb'; cases hb'
  obtain ⟨b2, e2, ob2, hb2, hh2, es', rfl, hr⟩ := h.live im _ hgm
  rw [hm] at hb2; cases hb2
  cases hc : Nat.beq clock stepped with
  | false => rw [hc] at hl; simp at hl
  | true =>
  rw [hc] at hl
  simp only [cond_true, Option.map_eq_some_iff] at hl
  have h1 := Nat.eq_of_beq_eq_true hc
  subst h1
  obtain ⟨⟨k, x⟩, hf, rfl⟩ := hl
  obtain ⟨en, q1, q2, q3⟩ := findB_rel bn hr hf
  rw [lastOf_eq] at hlast
  refine ⟨.tuple #[en.key, en.val], ?_, _, rfl, q2, q3, trivial⟩
  have hback : seen.toArray.back? = some bn := by simpa using hlast
  have hfind : es'.find? (fun e => e.born == bn) = some en := by rw [← Array.find?_toList]; exact q1
  simp [Instr.entry, adr, getObj, Sem.run, hh, hh2, hback, hfind]

end Go.Am
