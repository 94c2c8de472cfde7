/- The abstract machine: reading and writing cells; addresses; values put together. -/
import Derived.Test.YtbfonnoebbjenaaGreatDoorAmD
namespace Go.Am
open Go

variable {cx : Cx} {P : Program} {B fl : Nat} {β : Be} {st : St} {w : World}

theorem sub_some {l : List C} {off n : Nat} {r : List C} (h : sub l off n = some r) : r = (l.drop off).take n ∧ r.length = n := by
  unfold sub at h
  cases hb : Nat.beq ((l.drop off).take n).length n with
  | false => simp only [hb] at h; simp at h
  | true => simp only [hb, cond_true, Option.some.injEq] at h; exact ⟨h.symm, by rw [← h]; exact Nat.eq_of_beq_eq_true hb⟩

/-- Where a place lies, and the cells that are read from it. -/
theorem loadN_rel (h : Inv cx B β st w) {p : C} {v : Value} {n : Nat} {l : List C} (hv : CRel β p v) (hl : loadN cx st p n = some l) :
    ∃ b off vs, v = adr b off ∧ All2 (CRel β) l vs ∧ ScalL vs ∧ vs.length = n ∧ ∀ j x, vs[j]? = some x → w.cell? ⟨b, off + j, none⟩ = some x := by
  cases p with
  | ptr id off =>
    obtain ⟨b, e, hb, rfl⟩ := hv
    simp only [loadN, St.get] at hl
    split at hl
    · rename_i c t fx hg
      obtain ⟨b', e', ob, hb', hh, cur, pre, rest, rfl, hcur, hr, hs, _, _⟩ := h.live id _ hg
      rw [hb] at hb'; cases hb'
      obtain ⟨hl1, hl2⟩ := sub_some hl
      have hall : All2 (CRel β) l ((pre.drop off).take n) := by rw [hl1]; exact (hr.drop off).take n
      have hlen : ((pre.drop off).take n).length = n := by rw [← hall.length]; exact hl2
      refine ⟨b, off, (pre.drop off).take n, rfl, hall, fun x hx => hs x ?_, hlen, fun j x hj => ?_⟩
      · rw [hcur]; exact List.mem_append.2 (.inl (List.mem_of_mem_drop (List.mem_of_mem_take hx)))
      · have hjn : j < n := by rw [← hlen]; exact (List.getElem?_eq_some_iff.1 hj).1
        rw [List.getElem?_take, if_pos hjn, List.getElem?_drop] at hj
        have hlt := (List.getElem?_eq_some_iff.1 hj).1
        simp only [World.cell?, hh, Option.isSome, Bool.false_eq_true, if_false]
        rw [← Array.getElem?_toList, hcur, List.getElem?_append_left hlt]
        exact hj
    · cases hl
  | sc v =>
    have hvv : _ = v := hv
    subst hvv
    simp only [loadN] at hl
    split at hl
    · cases ‹C.sc _ = _›
    · rename_i b off heq
      simp only [C.sc.injEq] at heq
      subst heq
      have key : ∀ (n off : Nat) (l : List C), baseCells cx b off n = some l → ∃ vs, All2 (CRel β) l vs ∧ ScalL vs ∧ vs.length = n ∧ ∀ j x, vs[j]? = some x → w.cell? ⟨b, off + j, none⟩ = some x := by
        intro n
        induction n with
        | zero => intro off l hl; simp only [baseCells, Option.some.injEq] at hl; subst hl; exact ⟨[], trivial, (fun _ hx => by cases hx), rfl, fun j x hj => by simp at hj⟩
        | succ n ih =>
          intro off l hl
          simp only [baseCells] at hl
          split at hl
          · rename_i u hu
            cases hs : scal u with
            | false => rw [hs] at hl; simp at hl
            | true =>
              rw [hs] at hl
              simp only [cond_true, Option.map_eq_some_iff] at hl
              obtain ⟨l', hl', rfl⟩ := hl
              obtain ⟨vs, h1, h2, h3, h4⟩ := ih _ _ hl'
              refine ⟨u :: vs, ⟨rfl, h1⟩, fun x hx => ?_, by simp [h3], fun j x hj => ?_⟩
              · rcases List.mem_cons.1 hx with rfl | hx
                · exact hs
                · exact h2 x hx
              · cases j with
                | zero => simp at hj; subst hj; exact (h.base b off _ (h.facts.base b off _ hu)).2
                | succ j => simp at hj; have := h4 j x hj; rw [show off + (j + 1) = off + 1 + j by omega]; exact this
          · cases hl
      obtain ⟨vs, h1, h2, h3, h4⟩ := key n off l hl
      exact ⟨b, off, vs, rfl, h1, h2, h3, h4⟩
    · cases ‹C.sc _ = _›
    · cases hl
  | sl => simp [loadN] at hl
  | sy => simp [loadN] at hl
  | sb => simp [loadN] at hl
  | slx => simp [loadN] at hl
  | stx => simp [loadN] at hl
  | osl => simp [loadN] at hl
  | optr k off =>
    have hvv : v = _ := hv
    subst hvv
    simp only [loadN] at hl
    split at hl
    · rename_i cs hcs
      obtain ⟨hl1, hl2⟩ := sub_some hl
      have hO := h.facts.outer k cs hcs
      have pick : ∀ j, j < n → ∃ c v, cs[off + j]? = some c ∧ β.env.mem (β.env.out k).1 ((β.env.out k).2 + (off + j)) = some v ∧ CRel ⟨fun _ => none, β.env⟩ c v ∧ scal v = true := fun j hj => by
        have hlen : ((cs.drop off).take n).length = n := by rw [← hl1]; exact hl2
        have hlt : off + j < cs.length := by
          simp only [List.length_take, List.length_drop] at hlen; omega
        obtain ⟨v, h1, h2, h3⟩ := hO (off + j) cs[off + j] (by simp [hlt])
        exact ⟨cs[off + j], v, by simp [hlt], h1, h2, h3⟩
      have key : ∀ m i, i + m = n → ∃ vs : List Value, All2 (CRel β) ((cs.drop (off + i)).take m) vs ∧ ScalL vs ∧ vs.length = m ∧ ∀ j x, vs[j]? = some x → w.cell? ⟨(β.env.out k).1, (β.env.out k).2 + off + i + j, none⟩ = some x := by
        intro m
        induction m with
        | zero => intro i _; exact ⟨[], by simp [All2], (fun _ hx => by cases hx), rfl, fun j x hj => by simp at hj⟩
        | succ m ih =>
          intro i hi
          obtain ⟨c, v, g1, g2, g3, g4⟩ := pick i (by omega)
          obtain ⟨vs, e1, e2, e3, e4⟩ := ih (i + 1) (by omega)
          have hd : cs.drop (off + i) = c :: cs.drop (off + (i + 1)) := by
            have hlt := (List.getElem?_eq_some_iff.1 g1).1
            rw [List.drop_eq_getElem_cons hlt, (List.getElem?_eq_some_iff.1 g1).2]; rfl
          refine ⟨v :: vs, ?_, fun x hx => ?_, by simp [e3], fun j x hj => ?_⟩
          · rw [hd, List.take_succ_cons]
            exact ⟨CRel.mono (β := ⟨fun _ => none, β.env⟩) (β' := β) ⟨(fun _ _ h => nomatch h), rfl⟩ g3, e1⟩
          · rcases List.mem_cons.1 hx with rfl | hx
            · exact g4
            · exact e2 x hx
          · cases j with
            | zero =>
              simp at hj; subst hj
              have := (h.base _ _ _ g2).2
              rw [show (β.env.out k).2 + off + i + 0 = (β.env.out k).2 + (off + i) by omega]; exact this
            | succ j =>
              simp at hj
              have := e4 j x hj
              rw [show (β.env.out k).2 + off + i + (j + 1) = (β.env.out k).2 + off + (i + 1) + j by omega]; exact this
      obtain ⟨vs, e1, e2, e3, e4⟩ := key n 0 (by omega)
      refine ⟨_, _, vs, rfl, ?_, e2, e3, fun j x hj => ?_⟩
      · rw [hl1]; simpa using e1
      · have := e4 j x hj; simpa using this
    · cases hl
  | mp => simp [loadN] at hl
  | fn => simp [loadN] at hl
  | unk => simp [loadN] at hl

theorem splice_some {l : List C} {off : Nat} {new r : List C} (h : splice l off new = some r) : off + new.length ≤ l.length ∧ r = l.take off ++ (new ++ l.drop (off + new.length)) := by
  unfold splice at h
  cases hb : Nat.ble (off + new.length) l.length with
  | false => rw [hb] at h; simp at h
  | true => rw [hb] at h; simp only [cond_true, Option.some.injEq] at h; exact ⟨Nat.le_of_ble_eq_true hb, h.symm⟩

theorem storeN_rel (h : Inv cx B β st w) {p : C} {v : Value} {new : List C} {st' : St} {vs : List Value} (hv : CRel β p v) (hs : storeN fl st p new = some st') (hn : All2 (CRel β) new vs) (hsc : ScalL vs) :
    ∃ b off w', v = adr b off ∧ (storeCells ⟨b, off, none⟩ vs).run P w = .ok () w' ∧ Good cx B fl β st w β st' w' := by
  cases p with
  | ptr id off =>
    obtain ⟨b, e, hb, rfl⟩ := hv
    simp only [storeN, St.get] at hs
    cases hf : Nat.ble fl id with
    | false => rw [hf] at hs; simp at hs
    | true =>
      rw [hf] at hs
      simp only [cond_true] at hs
      split at hs
      · rename_i l t fx hg
        split at hs
        · rename_i l' hl'
          simp only [Option.some.injEq] at hs
          subst hs
          obtain ⟨b', e', ob, hb', hh, cur, pre, rest, rfl, hcur, hr, hsl, hfx, hfx'⟩ := h.live id _ hg
          rw [hb] at hb'; cases hb'
          obtain ⟨hle, rfl⟩ := splice_some hl'
          have hvl := hn.length
          have hrl := hr.length
          have hsz : cur.size = pre.length + rest.length := by rw [← Array.length_toList, hcur, List.length_append]
          have hrun := run_storeCells_at P b off t vs 0 cur w hh (by omega) (fun v hv => scal_oneCell (hsc v hv))
          simp only [Nat.add_zero] at hrun
          refine ⟨b, off, _, rfl, hrun, ?_⟩
          refine Good.write h (Nat.le_of_ble_eq_true hf) hg hb ?_ (chg_setRow hh)
          have hcut : cur.toList.take off ++ vs ++ cur.toList.drop (off + vs.length) = (pre.take off ++ (vs ++ pre.drop (off + vs.length))) ++ rest := by
            rw [hcur, List.take_append_of_le_length (by omega), List.drop_append_of_le_length (by omega)]
            simp [List.append_assoc]
          refine ⟨_, pre.take off ++ (vs ++ pre.drop (off + vs.length)), rest, rfl, ?_, ?_, ?_, hfx, hfx'⟩
          · simpa using hcut
          · rw [← hvl]; exact (hr.take off).append (hn.append (hr.drop _))
          · intro x hx
            simp only [List.append_assoc] at hx
            rcases List.mem_append.1 hx with hx | hx
            · exact hsl x (List.mem_of_mem_take hx)
            · rcases List.mem_append.1 hx with hx | hx
              · exact hsc x hx
              · exact hsl x (List.mem_of_mem_drop hx)
        · cases hs
      · cases hs
  | sc => simp [storeN] at hs
  | sl => simp [storeN] at hs
  | sy => simp [storeN] at hs
  | sb => simp [storeN] at hs
  | slx => simp [storeN] at hs
  | stx => simp [storeN] at hs
  | osl => simp [storeN] at hs
  | optr => simp [storeN] at hs
  | mp => simp [storeN] at hs
  | fn => simp [storeN] at hs
  | unk => simp [storeN] at hs

theorem behind_rel {a : C} {v : Value} {n : Nat} {p : C} (h : CRel β a v) (hb : behind a n = some p) : ∃ b off, v = adr b off ∧ CRel β p (adr b (off + n)) := by
  cases a with
  | ptr id off =>
    simp only [behind, Option.some.injEq] at hb; subst hb
    obtain ⟨b, e, hb, rfl⟩ := h
    exact ⟨b, off, rfl, b, e, hb, rfl⟩
  | sc v =>
    have hv : _ = v := h
    subst hv
    simp only [behind] at hb
    split at hb
    · cases ‹C.sc _ = _›
    · rename_i b off heq
      simp only [C.sc.injEq] at heq
      subst heq
      simp only [Option.some.injEq] at hb; subst hb
      exact ⟨b, off, rfl, rfl⟩
    · cases ‹C.sc _ = _›
    · cases hb
  | sl => simp [behind] at hb
  | sy => simp [behind] at hb
  | sb => simp [behind] at hb
  | slx => simp [behind] at hb
  | stx => simp [behind] at hb
  | osl => simp [behind] at hb
  | optr k off =>
    have hv : v = _ := h
    subst hv
    simp only [behind, Option.some.injEq] at hb; subst hb
    exact ⟨_, _, rfl, by show _ = _; rw [Nat.add_assoc]⟩
  | mp => simp [behind] at hb
  | fn => simp [behind] at hb
  | unk => simp [behind] at hb

theorem toC_rel {v : V} {v' : Value} {p : C} (h : VRel β v v') (hp : toC v = some p) : CRel β p v' := by
  cases v with
  | tup => simp [toC] at hp
  | a x => cases x with
    | agg => simp [toC] at hp
    | c x => simp only [toC, Option.some.injEq] at hp; subst hp; exact h
end Go.Am
