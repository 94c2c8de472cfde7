/- The abstract machine: copy, clear, len, cap; arithmetic and comparisons. -/
import Derived.Test.YtbfonnoebbjenaaGreatDoorAmK
namespace Go.Am
open Go

variable {cx : Cx} {P : Program} {B fl : Nat} {β : Be} {st : St} {w : World}

theorem run_copy (hx : CxOk cx P) {t : TypeId} {ts : Array TypeId} {ty : TypeId} {d x : V} {d' x' : Value} (hd : VRel β d d') (hxr : VRel β x x') (h : Inv cx B β st w) (ht0 : ts[0]? = some t) {v : V} {st' : St}
    (hc : copyOp cx fl t d x st = some (v, st')) :
    ∃ v' w', (Builtin.copy_ ts ty #[d', x']).run P w = .ok v' w' ∧ VRel β v v' ∧ Good cx B fl β st w β st' w' := by
  unfold copyOp at hc
  split at hc
  case h_2 => cases hc
  rename_i dty b dlen cap fx xl hdt hso hln
  obtain ⟨i, z, hT⟩ := hx.is hdt
  have hl := lenOf_rel (P := P) hxr hln
  split at hc
  case h_2 => cases hc
  rename_i e hu
  split at hc
  case h_2 => cases hc
  rename_i ety het
  obtain ⟨i', z', hE⟩ := hx.is het
  simp only at hc
  split at hc
  case h_2 => cases hc
  rename_i new hnew
  obtain ⟨vs, hvs, hva, hvsc, hvl⟩ := srcCells_rel (P := P) h hxr hnew
  have hgo : ((Nat.min xl dlen : Nat) : Int) = ((Nat.min xl dlen : Nat) : Int) := rfl
  rcases sliceOf_rel hd hso with ⟨rfl, rfl, rfl⟩ | ⟨p, bb, off, c, rfl, hp, rfl, hcc, hf1, hf2⟩
  · simp only [Option.some.injEq, Prod.mk.injEq] at hc
    obtain ⟨rfl, rfl⟩ := hc
    refine ⟨.int .i64 ((Nat.min xl dlen : Nat) : Int), w, ?_, rfl, Good.refl h⟩
    simp [Builtin.copy_, ht0, hT.run_under, hu, hl, hE.run_size, hvs w rfl, goInt]
  · simp only at hc
    cases hz : Nat.beq (Nat.min xl dlen * ety.size) 0 with
    | true =>
      have h0 := Nat.eq_of_beq_eq_true hz
      rw [hz] at hc
      simp only [cond_true, Option.some.injEq, Prod.mk.injEq] at hc
      obtain ⟨rfl, rfl⟩ := hc
      have hnil : vs = [] := by
        apply List.eq_nil_of_length_eq_zero
        rw [← hva.length, hvl, h0]
      subst hnil
      refine ⟨.int .i64 ((Nat.min xl dlen : Nat) : Int), w, ?_, rfl, Good.refl h⟩
      simp [Builtin.copy_, ht0, hT.run_under, hu, hl, hE.run_size, hvs w rfl, goInt, storeCells]
    | false =>
      rw [hz] at hc
      simp only [cond_false, Option.map_eq_some_iff, Prod.mk.injEq] at hc
      obtain ⟨h1, hs1, rfl, rfl⟩ := hc
      obtain ⟨b2, o2, w', heq, hrun, hg⟩ := storeN_rel (P := P) h hp hs1 hva hvsc
      simp only [adr, Value.pointer.injEq, Option.some.injEq, Addr.mk.injEq, and_true] at heq
      obtain ⟨rfl, rfl⟩ := heq
      refine ⟨.int .i64 ((Nat.min xl dlen : Nat) : Int), w', ?_, rfl, hg⟩
      simp [Builtin.copy_, ht0, hT.run_under, hu, hl, hE.run_size, hvs w rfl, goInt, hrun]

theorem run_clear (hx : CxOk cx P) {t : TypeId} {ts : Array TypeId} {ty : TypeId} {x : V} {x' : Value} (hxr : VRel β x x') (h : Inv cx B β st w) (ht0 : ts[0]? = some t) {v : V} {st' : St}
    (hc : clearOp cx fl t x st = some (v, st')) :
    ∃ v' w', (Builtin.clear_ ts ty #[x']).run P w = .ok v' w' ∧ VRel β v v' ∧ Good cx B fl β st w β st' w' := by
  unfold clearOp at hc
  split at hc
  case h_2 => cases hc
  rename_i tty b n cap fx htt hso
  obtain ⟨i, z, hT⟩ := hx.is htt
  split at hc
  case h_2 => cases hc
  rename_i e hu
  split at hc
  case h_3 => cases hc
  · rename_i ety p het
    obtain ⟨i', z', hE⟩ := hx.is het
    rcases sliceOf_rel hxr hso with ⟨h1, _⟩ | ⟨p', bb, off, c, h1, hp, rfl, hcc, hf1, hf2⟩
    · cases h1
    cases h1
    cases hz : Nat.beq n 0 with
    | true =>
      have h0 := Nat.eq_of_beq_eq_true hz
      subst h0
      simp only [hz, cond_true, Option.some.injEq, Prod.mk.injEq] at hc
      obtain ⟨rfl, rfl⟩ := hc
      refine ⟨.tuple #[], w, ?_, ⟨#[], rfl, trivial⟩, Good.refl h⟩
      simp [Builtin.clear_, ht0, hT.run_under, hu]
    | false =>
      have h0 : n ≠ 0 := fun e => by rw [e] at hz; simp at hz
      rw [hz] at hc
      simp only [cond_false, Option.map_eq_some_iff, Prod.mk.injEq] at hc
      obtain ⟨h1, hs1, rfl, rfl⟩ := hc
      obtain ⟨z1, z2⟩ := zeroC_rel (β := β) hE
      obtain ⟨r1, r2⟩ := rep_rel z1 z2 n
      obtain ⟨b2, o2, w', heq, hrun, hg⟩ := storeN_rel (P := P) h hp hs1 r1 r2
      simp only [adr, Value.pointer.injEq, Option.some.injEq, Addr.mk.injEq, and_true] at heq
      obtain ⟨rfl, rfl⟩ := heq
      refine ⟨.tuple #[], w', ?_, ⟨#[], rfl, trivial⟩, hg⟩
      obtain ⟨n, rfl⟩ := Nat.exists_eq_succ_of_ne_zero h0
      simp only [Builtin.clear_, ht0, Sem.run_bind, hT.run_under, hu, Result.andThen_ok, List.getElem?_toArray, List.getElem?_cons_zero]
      simp only [hE.run_zero, zeroCells_toList, hrun, Result.andThen_ok, Sem.run_pure]
  · rename_i ety het
    rcases sliceOf_rel hxr hso with ⟨_, _, rfl⟩ | ⟨p', bb, off, c, h1, _⟩
    · simp only [Option.some.injEq, Prod.mk.injEq] at hc
      obtain ⟨rfl, rfl⟩ := hc
      refine ⟨.tuple #[], w, ?_, ⟨#[], rfl, trivial⟩, Good.refl h⟩
      simp [Builtin.clear_, ht0, hT.run_under, hu]
    · cases h1

theorem mapEs_rel (h : Inv cx B β st w) {m : V} {m' : Value} (hm : VRel β m m') {es : List (C × A × Nat)} {clock : Nat} (he : mapEs st m = some (es, clock)) :
    (m' = .map none ∧ es = []) ∨ ∃ id b e es', m = .a (.c (.mp id)) ∧ β id = some (b, e) ∧ m' = .map (some b) ∧ st.heap.get id = some (.map es clock) ∧ w.heap[b]? = some (.map es' clock) ∧ All2 (ERel β) es es'.toList := by
  unfold mapEs at he
  split at he
  · rename_i id
    simp only [St.get] at he
    split at he
    · rename_i es1 c1 hg
      simp only [Option.some.injEq, Prod.mk.injEq] at he
      obtain ⟨rfl, rfl⟩ := he
      obtain ⟨b, e, hb, rfl⟩ := hm
      obtain ⟨b', e', ob, hb', hh, es', rfl, hr⟩ := h.live id _ hg
      rw [hb] at hb'; cases hb'
      exact .inr ⟨id, b, e, es', rfl, hb, rfl, hg, hh, hr⟩
    · cases he
  · simp only [Option.some.injEq, Prod.mk.injEq] at he
    obtain ⟨rfl, rfl⟩ := he
    exact .inl ⟨hm, rfl⟩
  · cases he

theorem run_len (hx : CxOk cx P) {t : TypeId} {ts : Array TypeId} {ty : TypeId} {x : V} {x' : Value} (hxr : VRel β x x') (h : Inv cx B β st w) (ht0 : ts[0]? = some t) {v : V} (hc : lenOp cx t x st = some v) :
    ∃ v', (Builtin.len_ ts ty #[x']).run P w = .ok v' w ∧ VRel β v v' := by
  unfold lenOp at hc
  split at hc
  case h_2 => cases hc
  rename_i tty htt
  obtain ⟨i, z, hT⟩ := hx.is htt
  split at hc
  · rename_i hu
    split at hc
    · rename_i s
      have hx' : x' = .string s := hxr
      subst hx'
      simp only [Option.some.injEq] at hc; subst hc
      exact ⟨.int .i64 s.size, by simp [Builtin.len_, ht0, hT.run_under, hu, goInt], rfl⟩
    · obtain ⟨s, hx', hs⟩ := hxr
      subst hx'
      simp only [Option.some.injEq] at hc; subst hc
      exact ⟨.int .i64 s.size, by simp [Builtin.len_, ht0, hT.run_under, hu, goInt], by show Value.int _ _ = _; rw [hs]⟩
    · cases hc
  · rename_i n e hu
    simp only [Option.some.injEq] at hc; subst hc
    exact ⟨.int .i64 n, by simp [Builtin.len_, ht0, hT.run_under, hu, goInt], rfl⟩
  · rename_i e hu
    split at hc
    · rename_i ety het
      obtain ⟨i', z', hE⟩ := hx.is het
      split at hc
      · rename_i n e' hu'
        simp only [Option.some.injEq] at hc; subst hc
        exact ⟨.int .i64 n, by simp [Builtin.len_, ht0, hT.run_under, hu, hE.run_under, hu', goInt], rfl⟩
      · cases hc
    · cases hc
  · rename_i e hu
    split at hc
    · obtain ⟨a, n, c, hx', hs⟩ := hxr
      subst hx'
      simp only [Option.some.injEq] at hc; subst hc
      exact ⟨.int .i64 n, by simp [Builtin.len_, ht0, hT.run_under, hu, goInt], by show Value.int _ _ = _; rw [hs]⟩
    simp only [Option.map_eq_some_iff] at hc
    obtain ⟨⟨a, n⟩, hs, rfl⟩ := hc
    rcases sliceRd_rel hxr hs with ⟨_, _, rfl⟩ | ⟨p, b, off, c, _, _, rfl⟩
    · exact ⟨.int .i64 n, by simp [Builtin.len_, ht0, hT.run_under, hu, goInt], rfl⟩
    · exact ⟨.int .i64 n, by simp [Builtin.len_, ht0, hT.run_under, hu, goInt], rfl⟩
  · rename_i k e hu
    simp only [Option.map_eq_some_iff] at hc
    obtain ⟨⟨es, clock⟩, hs, rfl⟩ := hc
    rcases mapEs_rel h hxr hs with ⟨rfl, rfl⟩ | ⟨id, b, e', es', _, _, rfl, _, hh, hr⟩
    · exact ⟨.int .i64 0, by simp [Builtin.len_, ht0, hT.run_under, hu, goInt], rfl⟩
    · refine ⟨.int .i64 es'.size, ?_, ?_⟩
      · simp [Builtin.len_, ht0, hT.run_under, hu, getObj, Sem.run, hh, goInt]
      · show _ = _
        rw [hr.length]; simp
  · cases hc

theorem run_cap (hx : CxOk cx P) {t : TypeId} {ts : Array TypeId} {ty : TypeId} {x : V} {x' : Value} (hxr : VRel β x x') (ht0 : ts[0]? = some t) {v : V} (hc : capOp cx t x = some v) (w : World) :
    ∃ v', (Builtin.cap_ ts ty #[x']).run P w = .ok v' w ∧ VRel β v v' := by
  unfold capOp at hc
  split at hc
  case h_2 => cases hc
  rename_i tty htt
  obtain ⟨i, z, hT⟩ := hx.is htt
  split at hc
  case h_2 => cases hc
  rename_i e hu
  split at hc
  case h_2 => cases hc
  rename_i a n c hs
  simp only [Option.some.injEq] at hc; subst hc
  rcases sliceOf_rel hxr hs with ⟨_, _, rfl⟩ | ⟨p, b, off, c', _, _, rfl, _, hf, _⟩
  · exact ⟨.int .i64 c, by simp [Builtin.cap_, ht0, hT.run_under, hu, goInt], rfl⟩
  · rw [hf rfl]
    exact ⟨.int .i64 c, by simp [Builtin.cap_, ht0, hT.run_under, hu, goInt], rfl⟩

/-- A run that asks the program alone. -/
theorem pureSem_zero {α : Type} {p : Program} {e : Sem α} {a : α} (h : pureSem p 0 e = some a) : e = .pure a := by
  cases e <;> simp_all [pureSem]

theorem max2_rel {x y v : V} {x' y' : Value} (hx : VRel β x x') (hy : VRel β y y') (h : max2 x y = some v) (w : World) : ∃ v', (Builtin.max2 x' y').run P w = .ok v' w ∧ VRel β v v' := by
  unfold max2 at h
  split at h
  · have e1 : x' = _ := hx
    have e2 : y' = _ := hy
    subst e1 e2
    simp only [Option.some.injEq] at h; subst h
    exact ⟨_, rfl, rfl⟩
  · have e1 : x' = _ := hx
    have e2 : y' = _ := hy
    subst e1 e2
    simp only [Option.some.injEq] at h; subst h
    exact ⟨_, rfl, rfl⟩
  · have e1 : x' = _ := hx
    have e2 : y' = _ := hy
    subst e1 e2
    simp only [Option.some.injEq] at h; subst h
    exact ⟨_, rfl, rfl⟩
  · have e1 : x' = _ := hx
    have e2 : y' = _ := hy
    subst e1 e2
    simp only [Option.some.injEq] at h; subst h
    exact ⟨_, rfl, rfl⟩
  · cases h

theorem min2_rel {x y v : V} {x' y' : Value} (hx : VRel β x x') (hy : VRel β y y') (h : min2 x y = some v) (w : World) : ∃ v', (Builtin.min2 x' y').run P w = .ok v' w ∧ VRel β v v' := by
  unfold min2 at h
  split at h
  · have e1 : x' = _ := hx
    have e2 : y' = _ := hy
    subst e1 e2
    simp only [Option.some.injEq] at h; subst h
    exact ⟨_, rfl, rfl⟩
  · have e1 : x' = _ := hx
    have e2 : y' = _ := hy
    subst e1 e2
    simp only [Option.some.injEq] at h; subst h
    exact ⟨_, rfl, rfl⟩
  · have e1 : x' = _ := hx
    have e2 : y' = _ := hy
    subst e1 e2
    simp only [Option.some.injEq] at h; subst h
    exact ⟨_, rfl, rfl⟩
  · have e1 : x' = _ := hx
    have e2 : y' = _ := hy
    subst e1 e2
    simp only [Option.some.injEq] at h; subst h
    exact ⟨_, rfl, rfl⟩
  · cases h

theorem fold2_rel {f : V → V → Option V} {g : Value → Value → Sem Value} (hfg : ∀ x y v x' y', VRel β x x' → VRel β y y' → f x y = some v → ∀ w, ∃ v', (g x' y').run P w = .ok v' w ∧ VRel β v v') :
    ∀ {l : List V} {l' : List Value} {x v : V} {x' : Value}, All2 (VRel β) l l' → VRel β x x' → fold2 f l x = some v → ∀ w, ∃ v', (l'.foldlM g x').run P w = .ok v' w ∧ VRel β v v'
  | [], [], x, v, x', _, hx, h, w => by simp only [fold2, Option.some.injEq] at h; subst h; exact ⟨x', by simp, hx⟩
  | [], _ :: _, _, _, _, h, _, _, _ => h.elim
  | _ :: _, [], _, _, _, h, _, _, _ => h.elim
  | y :: l, y' :: l', x, v, x', hl, hx, h, w => by
    simp only [fold2] at h
    split at h
    · rename_i u hu
      obtain ⟨u', hu', hr⟩ := hfg x y u x' y' hx hl.1 hu w
      obtain ⟨v', hv', hr'⟩ := fold2_rel hfg hl.2 hr h w
      exact ⟨v', by simp [hu', hv'], hr'⟩
    · cases h
end Go.Am
