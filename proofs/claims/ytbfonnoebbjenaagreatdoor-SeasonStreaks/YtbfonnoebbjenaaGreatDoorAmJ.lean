/- The abstract machine: append, copy, clear, len, cap. -/
import Derived.Test.YtbfonnoebbjenaaGreatDoorAmI
import Derived.Lib.Bytes
import Derived.Lib.Strings
namespace Go.Am
open Go

variable {cx : Cx} {P : Program} {B fl : Nat} {β : Be} {st : St} {w : World}

theorem cell_heap {w w2 : World} (h : w2.heap = w.heap) (a : Addr) : w2.cell? a = w.cell? a := by simp [World.cell?, h]

theorem srcCells_rel (h : Inv cx B β st w) {size n : Nat} {x : V} {x' : Value} (hr : VRel β x x') {new : List C} (hs : srcCells cx st size x n = some new) :
    ∃ vs : List Value, (∀ w2 : World, w2.heap = w.heap → (Builtin.firstCells size n x').run P w2 = .ok vs.toArray w2) ∧ All2 (CRel β) new vs ∧ ScalL vs ∧ new.length = n * size := by
  unfold srcCells at hs
  split at hs
  · rename_i s
    have hx : x' = .string s := hr
    subst hx
    cases hb : (Nat.ble n s.size && Nat.beq size 1) with
    | false => rw [hb] at hs; simp at hs
    | true =>
      have hb' := hb
      simp only [Bool.and_eq_true] at hb'
      have hle := Nat.le_of_ble_eq_true hb'.1
      have hs1 := Nat.eq_of_beq_eq_true hb'.2
      rw [hb] at hs
      simp only [cond_true, Option.some.injEq] at hs; subst hs
      refine ⟨(s.data.toList.take n).map fun b => .int .u8 (b.toNat : Int), fun w2 _ => ?_, All2.map_sc (R := CRel β) (fun b : UInt8 => C.sc (.int .u8 b.toNat)) (fun b => .int .u8 b.toNat) (fun b => rfl) _, fun v hv => ?_, ?_⟩
      · simp only [Builtin.firstCells, Sem.run_pure]
        congr 1
        apply Array.toList_inj.1
        rw [Array.toList_map, Lib.extract_data]
        simp
      · obtain ⟨b, _, rfl⟩ := List.mem_map.1 hv; rfl
      · have : s.data.size = s.size := rfl
        simp [hs1]; omega
  · cases hb : Nat.beq n 0 with
    | false => rw [hb] at hs; simp at hs
    | true =>
      have h0 := Nat.eq_of_beq_eq_true hb
      rw [hb] at hs
      simp only [cond_true, Option.some.injEq] at hs; subst hs
      obtain ⟨a, m, c, rfl, _⟩ := hr
      refine ⟨[], fun w2 _ => ?_, trivial, (fun _ hx => by cases hx), by simp [h0]⟩
      cases a with
      | none => simp [Builtin.firstCells]
      | some a => simp [Builtin.firstCells, h0, loadCells, loadCellsFrom]
  · rename_i x _ hns
    split at hs
    · rename_i len hso
      cases hb : Nat.beq n 0 with
      | false => rw [hb] at hs; simp at hs
      | true =>
        have h0 := Nat.eq_of_beq_eq_true hb
        rw [hb] at hs
        simp only [cond_true, Option.some.injEq] at hs; subst hs
        rcases sliceRd_rel hr hso with ⟨_, _, rfl⟩ | ⟨p, b, off, c, h1, _⟩
        · exact ⟨[], fun w2 _ => by simp [Builtin.firstCells], trivial, (fun _ hx => by cases hx), by simp [h0]⟩
        · cases h1
    · rename_i p len hso
      rcases sliceRd_rel hr hso with ⟨h1, _⟩ | ⟨p', b, off, c, h1, hp, rfl⟩
      · cases h1
      · cases h1
        cases hb : Nat.beq (n * size) 0 with
        | true =>
          have h0 := Nat.eq_of_beq_eq_true hb
          rw [hb] at hs
          simp only [cond_true, Option.some.injEq] at hs; subst hs
          exact ⟨[], fun w2 _ => by simp [Builtin.firstCells, h0, loadCells, loadCellsFrom], trivial, (fun _ hx => by cases hx), by simp [h0]⟩
        | false =>
          rw [hb] at hs
          simp only [cond_false] at hs
          obtain ⟨b', off', vs, heq, h2, h3, h4, h5⟩ := loadN_rel h hp hs
          simp only [adr, Value.pointer.injEq, Option.some.injEq, Addr.mk.injEq, and_true] at heq
          obtain ⟨rfl, rfl⟩ := heq
          refine ⟨vs, fun w2 hw2 => ?_, h2, h3, by rw [h2.length, h4]⟩
          have := run_loadCells_list (P := P) w2 ⟨b, off, none⟩ vs (fun j x hj => by rw [add_adr, cell_heap hw2]; exact h5 j x hj)
          rw [h4] at this
          simp [Builtin.firstCells, this]
    · cases hs

theorem lenOf_rel {x : V} {x' : Value} (hr : VRel β x x') {n : Nat} (h : lenOf x = some n) (w : World) : (Builtin.lenOf x').run P w = .ok n w := by
  unfold lenOf at h
  split at h
  · rename_i s
    have hx : x' = .string s := hr
    subst hx
    simp only [Option.some.injEq] at h; subst h; rfl
  · obtain ⟨a, m, c, hx, hm⟩ := hr
    subst hx
    simp only [Option.some.injEq] at h; subst h
    have hm0 : m = 0 := by
      have : (m : Int) = 0 := hm
      omega
    subst hm0; rfl
  · simp only [Option.map_eq_some_iff] at h
    obtain ⟨⟨a, len⟩, hs, rfl⟩ := h
    rcases sliceRd_rel hr hs with ⟨_, _, rfl⟩ | ⟨p, b, off, c, _, _, rfl⟩ <;> rfl

theorem mkSlice_rel {p : C} {b off : Nat} (hp : CRel β p (adr b off)) {len cap c : Nat} {fx : Bool} (h1 : fx = false → c = cap) (h2 : fx = true → ∃ id e, p = .ptr id off ∧ β id = some (b, e) ∧ c = cap + e) {v : V} (h : mkSlice (some p) len cap fx = some v) :
    VRel β v (.slice (some ⟨b, off, none⟩) len c) := by
  unfold mkSlice at h
  split at h
  · cases ‹some p = none›
  · rename_i id o heq
    cases heq
    simp only [Option.some.injEq] at h; subst h
    obtain ⟨b1, e1, hb1, heq⟩ := hp
    simp only [adr, Value.pointer.injEq, Option.some.injEq, Addr.mk.injEq, and_true] at heq
    obtain ⟨rfl, rfl⟩ := heq
    refine ⟨b, e1, hb1, ?_⟩
    cases fx with
    | false => rw [h1 rfl]; rfl
    | true =>
      obtain ⟨id', e', he, hb', rfl⟩ := h2 rfl
      cases he
      rw [hb1] at hb'; cases hb'
      rfl
  · rename_i ad heq
    cases heq
    simp only [Option.some.injEq] at h; subst h
    have : adr b off = .pointer (some ad) := hp
    simp only [adr, Value.pointer.injEq, Option.some.injEq] at this
    subst this
    cases fx with
    | false => rw [h1 rfl]; rfl
    | true => obtain ⟨id', e', he, _⟩ := h2 rfl; cases he
  · cases h

/-- A block given up, its place taken by a new id. -/
theorem Good.consume {w' : World} (h : Inv cx B β st w) (hfl : fl ≤ st.next) {id b e e2 : Nat} (hid : fl ≤ id) {o o' : O} {ob : Obj} (hg : st.heap.get id = some o') (hb : β id = some (b, e))
    (ho : ORel cx (upd β st.next (b, e2)) e2 o ob) (hc : Chg w w' b ob) :
    Good cx B fl β st w (upd β st.next (b, e2)) ((st.new o).put id none) w' := by
  have hlt := get_lt h hg
  have hext := ext_upd h (b, e2)
  have hget : ∀ i x, ((st.new o).put id none).heap.get i = some x → (i = st.next ∧ x = o) ∨ (i ≠ st.next ∧ i ≠ id ∧ st.heap.get i = some x) := fun i x hi => by
    simp only [St.put, St.new, T.get_set] at hi
    by_cases e : i = id
    · rw [if_pos e] at hi; cases hi
    · rw [if_neg e] at hi
      by_cases e' : i = st.next
      · rw [if_pos e'] at hi; cases hi; exact .inl ⟨e', rfl⟩
      · rw [if_neg e'] at hi; exact .inr ⟨e', e, hi⟩
  have hB := (h.low id _ hb).2
  have upne : ∀ (i : Nat) (p : Nat × Nat), i ≠ st.next → upd β st.next (b, e2) i = some p → β i = some p := fun i p hi hp => by
    simp only [upd_at, if_neg hi] at hp; exact hp
  refine ⟨hext, fun i hi => ?_, ⟨?_, ?_, ?_, ?_, ?_, h.facts⟩, fun i hi => ?_, Nat.le_succ _, hc.os, hc.tape, hc.output, by rw [hc.size]; exact Nat.le_refl _, ?_, ?_⟩
  · simp only [upd_at]; rw [if_neg (by omega)]
  · intro i p hp
    by_cases hi : i = st.next
    · simp only [upd_at, if_pos hi] at hp; cases hp
      exact ⟨by simp only [St.put, St.new]; omega, hB.1, by rw [hc.size]; exact hB.2⟩
    · have := h.low i p (upne _ _ hi hp)
      exact ⟨by simp only [St.put, St.new]; omega, this.2.1, by rw [hc.size]; exact this.2.2⟩
  · intro i x hi
    rcases hget i x hi with ⟨rfl, rfl⟩ | ⟨hn, hne, hi'⟩
    · exact ⟨b, e2, ob, by simp [upd_at], hc.here, ho⟩
    · obtain ⟨b', e', ob', hb', hh, ho'⟩ := h.live i x hi'
      refine ⟨b', e', ob', hext.ids _ _ hb', ?_, ho'.mono hext⟩
      rw [hc.other b' ?_]; exact hh
      intro hbb; subst hbb
      exact hne (h.inj i id x o' b' e' e hi' hg hb' hb)
  · intro i j oi oj b1 e1 e1' hi hj hbi hbj
    rcases hget i oi hi with ⟨rfl, rfl⟩ | ⟨hni, hnei, hgi⟩ <;> rcases hget j oj hj with ⟨rfl, rfl⟩ | ⟨hnj, hnej, hgj⟩
    · rfl
    · simp only [upd_at, if_pos] at hbi; cases hbi
      exact absurd (h.inj j id oj o' b e1' e hgj hg (upne _ _ hnj hbj) hb) hnej
    · simp only [upd_at, if_pos] at hbj; cases hbj
      exact absurd (h.inj i id oi o' b e1 e hgi hg (upne _ _ hni hbi) hb) hnei
    · exact h.inj i j oi oj b1 e1 e1' hgi hgj (upne _ _ hni hbi) (upne _ _ hnj hbj)
  · intro bb oo v hv
    obtain ⟨h1, h2⟩ := h.base bb oo v hv
    have hne : bb ≠ b := by have := hB.1; simp only at this; omega
    exact ⟨h1, by rw [← h2]; simp only [World.cell?]; rw [hc.other bb hne]⟩
  · rw [hc.size]; exact h.size
  · simp only [St.put, St.new]; rw [T.get_set_other _ _ (by omega), T.get_set_other _ _ (by omega)]
  · intro k hk hn
    refine hc.other k fun hkb => ?_
    subst hkb
    exact hn id o' e hid hg hb
  · intro i x b1 e1 hi hx hb1
    rcases hget i x hx with ⟨rfl, rfl⟩ | ⟨hni, _, hi'⟩
    · simp only [upd_at, if_pos] at hb1; cases hb1
      exact .inr ⟨id, o', e, hid, hg, hb⟩
    · exact .inr ⟨i, x, e1, hi, hi', upne _ _ hni hb1⟩
end Go.Am
