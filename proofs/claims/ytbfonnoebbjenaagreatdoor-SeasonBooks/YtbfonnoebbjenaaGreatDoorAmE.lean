/- The abstract machine: reading and writing cells; addresses; values put together. The abstract machine: the model's instructions on memory and aggregates. -/
import Derived.Test.YtbfonnoebbjenaaGreatDoorAmD
namespace Go.Am
open Go

variable {cx : Cx} {P : Program} {B fl : Nat} {β : Be} {st : St} {w : World}

theorem sub_some {l : List C} {off n : Nat} {r : List C} (h : sub l off n = some r) : r = (l.drop off).take n ∧ r.length = n := by
  unfold sub at h
  cases hb : Nat.beq ((l.drop off).take n).length n with
  | false => simp only [hb] at h; simp at h
  | true => simp only [hb, cond_true, Option.some.injEq] at h; exact ⟨h.symm, by rw [← h]; exact Nat.eq_of_beq_eq_true hb⟩

/-- Where a place lies, and the cells that are read from it. -/
theorem loadN_rel (h : Inv cx B β st w) {p : C} {v : Value} {n : Nat} {l : List C} (hv : CRel β p v) (hl : loadN cx st p n = some l) :
    ∃ b off vs, v = adr b off ∧ All2 (CRel β) l vs ∧ ScalL vs ∧ vs.length = n ∧ ∀ j x, vs[j]? = some x → w.cell? ⟨b, off + j, none⟩ = some x := by
  cases p with
  | ptr id off =>
    obtain ⟨b, e, hb, rfl⟩ := hv
    simp only [loadN, St.get] at hl
    split at hl
    · rename_i c t fx hg
      obtain ⟨b', e', ob, hb', hh, cur, pre, rest, rfl, hcur, hr, hs, _, _⟩ := h.live id _ hg
      rw [hb] at hb'; cases hb'
      obtain ⟨hl1, hl2⟩ := sub_some hl
      have hall : All2 (CRel β) l ((pre.drop off).take n) := by rw [hl1]; exact (hr.drop off).take n
      have hlen : ((pre.drop off).take n).length = n := by rw [← hall.length]; exact hl2
      refine ⟨b, off, (pre.drop off).take n, rfl, hall, fun x hx => hs x ?_, hlen, fun j x hj => ?_⟩
      · rw [hcur]; exact List.mem_append.2 (.inl (List.mem_of_mem_drop (List.mem_of_mem_take hx)))
      · have hjn : j < n := by rw [← hlen]; exact (List.getElem?_eq_some_iff.1 hj).1
        rw [List.getElem?_take, if_pos hjn, List.getElem?_drop] at hj
        have hlt := (List.getElem?_eq_some_iff.1 hj).1
        simp only [World.cell?, hh, Option.isSome, Bool.false_eq_true, if_false]
        rw [← Array.getElem?_toList, hcur, List.getElem?_append_left hlt]
        exact hj
    · cases hl
  | sc v =>
    have hvv : _ = v := hv
    subst hvv
    simp only [loadN] at hl
    split at hl
    · cases ‹C.sc _ = _›
    · rename_i b off heq
      simp only [C.sc.injEq] at heq
      subst heq
      have key : ∀ (n off : Nat) (l : List C), baseCells cx b off n = some l → ∃ vs, All2 (CRel β) l vs ∧ ScalL vs ∧ vs.length = n ∧ ∀ j x, vs[j]? = some x → w.cell? ⟨b, off + j, none⟩ = some x := by
        intro n
        induction n with
        | zero => intro off l hl; simp only [baseCells, Option.some.injEq] at hl; subst hl; exact ⟨[], trivial, (fun _ hx => by cases hx), rfl, fun j x hj => by simp at hj⟩
        | succ n ih =>
          intro off l hl
          simp only [baseCells] at hl
          split at hl
          · rename_i u hu
            cases hs : scal u with
            | false => rw [hs] at hl; simp at hl
            | true =>
              rw [hs] at hl
              simp only [cond_true, Option.map_eq_some_iff] at hl
              obtain ⟨l', hl', rfl⟩ := hl
              obtain ⟨vs, h1, h2, h3, h4⟩ := ih _ _ hl'
              refine ⟨u :: vs, ⟨rfl, h1⟩, fun x hx => ?_, by simp [h3], fun j x hj => ?_⟩
              · rcases List.mem_cons.1 hx with rfl | hx
                · exact hs
                · exact h2 x hx
              · cases j with
                | zero => simp at hj; subst hj; exact (h.base b off _ (h.facts.base b off _ hu)).2
                | succ j => simp at hj; have := h4 j x hj; rw [show off + (j + 1) = off + 1 + j by omega]; exact this
          · cases hl
      obtain ⟨vs, h1, h2, h3, h4⟩ := key n off l hl
      exact ⟨b, off, vs, rfl, h1, h2, h3, h4⟩
    · cases ‹C.sc _ = _›
    · cases hl
  | sl => simp [loadN] at hl
  | sy => simp [loadN] at hl
  | sb => simp [loadN] at hl
  | slx => simp [loadN] at hl
  | stx => simp [loadN] at hl
  | osl => simp [loadN] at hl
  | optr k off =>
    have hvv : v = _ := hv
    subst hvv
    simp only [loadN] at hl
    split at hl
    · rename_i cs hcs
      obtain ⟨hl1, hl2⟩ := sub_some hl
      have hO := h.facts.outer k cs hcs
      have pick : ∀ j, j < n → ∃ c v, cs[off + j]? = some c ∧ β.env.mem (β.env.out k).1 ((β.env.out k).2 + (off + j)) = some v ∧ CRel ⟨fun _ => none, β.env⟩ c v ∧ scal v = true := fun j hj => by
        have hlen : ((cs.drop off).take n).length = n := by rw [← hl1]; exact hl2
        have hlt : off + j < cs.length := by
          simp only [List.length_take, List.length_drop] at hlen; omega
        obtain ⟨v, h1, h2, h3⟩ := hO (off + j) cs[off + j] (by simp [hlt])
        exact ⟨cs[off + j], v, by simp [hlt], h1, h2, h3⟩
      have key : ∀ m i, i + m = n → ∃ vs : List Value, All2 (CRel β) ((cs.drop (off + i)).take m) vs ∧ ScalL vs ∧ vs.length = m ∧ ∀ j x, vs[j]? = some x → w.cell? ⟨(β.env.out k).1, (β.env.out k).2 + off + i + j, none⟩ = some x := by
        intro m
        induction m with
        | zero => intro i _; exact ⟨[], by simp [All2], (fun _ hx => by cases hx), rfl, fun j x hj => by simp at hj⟩
        | succ m ih =>
          intro i hi
          obtain ⟨c, v, g1, g2, g3, g4⟩ := pick i (by omega)
          obtain ⟨vs, e1, e2, e3, e4⟩ := ih (i + 1) (by omega)
          have hd : cs.drop (off + i) = c :: cs.drop (off + (i + 1)) := by
            have hlt := (List.getElem?_eq_some_iff.1 g1).1
            rw [List.drop_eq_getElem_cons hlt, (List.getElem?_eq_some_iff.1 g1).2]; rfl
          refine ⟨v :: vs, ?_, fun x hx => ?_, by simp [e3], fun j x hj => ?_⟩
          · rw [hd, List.take_succ_cons]
            exact ⟨CRel.mono (β := ⟨fun _ => none, β.env⟩) (β' := β) ⟨(fun _ _ h => nomatch h), rfl⟩ g3, e1⟩
          · rcases List.mem_cons.1 hx with rfl | hx
            · exact g4
            · exact e2 x hx
          · cases j with
            | zero =>
              simp at hj; subst hj
              have := (h.base _ _ _ g2).2
              rw [show (β.env.out k).2 + off + i + 0 = (β.env.out k).2 + (off + i) by omega]; exact this
            | succ j =>
              simp at hj
              have := e4 j x hj
              rw [show (β.env.out k).2 + off + i + (j + 1) = (β.env.out k).2 + off + (i + 1) + j by omega]; exact this
      obtain ⟨vs, e1, e2, e3, e4⟩ := key n 0 (by omega)
      refine ⟨_, _, vs, rfl, ?_, e2, e3, fun j x hj => ?_⟩
      · rw [hl1]; simpa using e1
      · have := e4 j x hj; simpa using this
    · cases hl
  | mp => simp [loadN] at hl
  | fn => simp [loadN] at hl
  | unk => simp [loadN] at hl

theorem splice_some {l : List C} {off : Nat} {new r : List C} (h : splice l off new = some r) : off + new.length ≤ l.length ∧ r = l.take off ++ (new ++ l.drop (off + new.length)) := by
  unfold splice at h
  cases hb : Nat.ble (off + new.length) l.length with
  | false => rw [hb] at h; simp at h
  | true => rw [hb] at h; simp only [cond_true, Option.some.injEq] at h; exact ⟨Nat.le_of_ble_eq_true hb, h.symm⟩

theorem storeN_rel (h : Inv cx B β st w) {p : C} {v : Value} {new : List C} {st' : St} {vs : List Value} (hv : CRel β p v) (hs : storeN fl st p new = some st') (hn : All2 (CRel β) new vs) (hsc : ScalL vs) :
    ∃ b off w', v = adr b off ∧ (storeCells ⟨b, off, none⟩ vs).run P w = .ok () w' ∧ Good cx B fl β st w β st' w' := by
  cases p with
  | ptr id off =>
    obtain ⟨b, e, hb, rfl⟩ := hv
    simp only [storeN, St.get] at hs
    cases hf : Nat.ble fl id with
    | false => rw [hf] at hs; simp at hs
    | true =>
      rw [hf] at hs
      simp only [cond_true] at hs
      split at hs
      · rename_i l t fx hg
        split at hs
        · rename_i l' hl'
          simp only [Option.some.injEq] at hs
          subst hs
          obtain ⟨b', e', ob, hb', hh, cur, pre, rest, rfl, hcur, hr, hsl, hfx, hfx'⟩ := h.live id _ hg
          rw [hb] at hb'; cases hb'
          obtain ⟨hle, rfl⟩ := splice_some hl'
          have hvl := hn.length
          have hrl := hr.length
          have hsz : cur.size = pre.length + rest.length := by rw [← Array.length_toList, hcur, List.length_append]
          have hrun := run_storeCells_at P b off t vs 0 cur w hh (by omega) (fun v hv => scal_oneCell (hsc v hv))
          simp only [Nat.add_zero] at hrun
          refine ⟨b, off, _, rfl, hrun, ?_⟩
          refine Good.write h (Nat.le_of_ble_eq_true hf) hg hb ?_ (chg_setRow hh)
          have hcut : cur.toList.take off ++ vs ++ cur.toList.drop (off + vs.length) = (pre.take off ++ (vs ++ pre.drop (off + vs.length))) ++ rest := by
            rw [hcur, List.take_append_of_le_length (by omega), List.drop_append_of_le_length (by omega)]
            simp [List.append_assoc]
          refine ⟨_, pre.take off ++ (vs ++ pre.drop (off + vs.length)), rest, rfl, ?_, ?_, ?_, hfx, hfx'⟩
          · simpa using hcut
          · rw [← hvl]; exact (hr.take off).append (hn.append (hr.drop _))
          · intro x hx
            simp only [List.append_assoc] at hx
            rcases List.mem_append.1 hx with hx | hx
            · exact hsl x (List.mem_of_mem_take hx)
            · rcases List.mem_append.1 hx with hx | hx
              · exact hsc x hx
              · exact hsl x (List.mem_of_mem_drop hx)
        · cases hs
      · cases hs
  | sc => simp [storeN] at hs
  | sl => simp [storeN] at hs
  | sy => simp [storeN] at hs
  | sb => simp [storeN] at hs
  | slx => simp [storeN] at hs
  | stx => simp [storeN] at hs
  | osl => simp [storeN] at hs
  | optr => simp [storeN] at hs
  | mp => simp [storeN] at hs
  | fn => simp [storeN] at hs
  | unk => simp [storeN] at hs

theorem behind_rel {a : C} {v : Value} {n : Nat} {p : C} (h : CRel β a v) (hb : behind a n = some p) : ∃ b off, v = adr b off ∧ CRel β p (adr b (off + n)) := by
  cases a with
  | ptr id off =>
    simp only [behind, Option.some.injEq] at hb; subst hb
    obtain ⟨b, e, hb, rfl⟩ := h
    exact ⟨b, off, rfl, b, e, hb, rfl⟩
  | sc v =>
    have hv : _ = v := h
    subst hv
    simp only [behind] at hb
    split at hb
    · cases ‹C.sc _ = _›
    · rename_i b off heq
      simp only [C.sc.injEq] at heq
      subst heq
      simp only [Option.some.injEq] at hb; subst hb
      exact ⟨b, off, rfl, rfl⟩
    · cases ‹C.sc _ = _›
    · cases hb
  | sl => simp [behind] at hb
  | sy => simp [behind] at hb
  | sb => simp [behind] at hb
  | slx => simp [behind] at hb
  | stx => simp [behind] at hb
  | osl => simp [behind] at hb
  | optr k off =>
    have hv : v = _ := h
    subst hv
    simp only [behind, Option.some.injEq] at hb; subst hb
    exact ⟨_, _, rfl, by show _ = _; rw [Nat.add_assoc]⟩
  | mp => simp [behind] at hb
  | fn => simp [behind] at hb
  | unk => simp [behind] at hb

theorem toC_rel {v : V} {v' : Value} {p : C} (h : VRel β v v') (hp : toC v = some p) : CRel β p v' := by
  cases v with
  | tup => simp [toC] at hp
  | a x => cases x with
    | agg => simp [toC] at hp
    | c x => simp only [toC, Option.some.injEq] at hp; subst hp; exact h
end Go.Am

namespace Go.Am
open Go

variable {cx : Cx} {P : Program} {B fl : Nat} {β : Be} {st : St} {w : World}

theorem run_loadVar (hx : CxOk cx P) {t : TypeId} {ty : Ty} (ht : cx.ty t = some ty) (h : Inv cx B β st w) {p : C} {v : Value} (hp : CRel β p v) {u : V}
    (hl : (loadN cx st p (bif isAggT ty.under then ty.size else 1)).bind (pack ty) = some u) :
    ∃ u', (Instr.loadAt t v).run P w = .ok u' w ∧ VRel β u u' := by
  obtain ⟨i, z, hi⟩ := hx.is ht
  cases hl' : loadN cx st p (bif isAggT ty.under then ty.size else 1) with
  | none => rw [hl'] at hl; simp at hl
  | some l =>
    rw [hl'] at hl
    simp only [Option.bind_some] at hl
    obtain ⟨b, off, vs, rfl, h1, h2, h3, h4⟩ := loadN_rel h hp hl'
    have hcell : ∀ j x, vs[j]? = some x → w.cell? ((⟨b, off, none⟩ : Addr).add j) = some x := fun j x hj => by rw [add_adr]; exact h4 j x hj
    rcases pack_rel hl h1 h2 with ⟨ha, hr⟩ | ⟨ha, x, rfl, hr, _⟩
    · refine ⟨.agg vs.toArray, ?_, hr⟩
      rw [ha] at h3
      simp only [cond_true] at h3
      have := run_loadCells_list (P := P) w ⟨b, off, none⟩ vs hcell
      rw [h3] at this
      simp [Instr.loadAt, Instr.sureAddr, adr, loadVar, hi.run_agg, ha, hi.run_size, this]
    · refine ⟨x, ?_, hr⟩
      have hc := hcell 0 x rfl
      rw [add_adr, Nat.add_zero] at hc
      simp [Instr.loadAt, Instr.sureAddr, adr, loadVar, hi.run_agg, ha, hc]

theorem run_storeVar (hx : CxOk cx P) {t : TypeId} {ty : Ty} (ht : cx.ty t = some ty) (h : Inv cx B β st w) {p : C} {v : Value} (hp : CRel β p v) {u : V} {u' : Value} (hu : VRel β u u') {l : List C} (hl : cellsOf u = some l)
    (hlen : l.length = ty.size) {st' : St} (hs : storeN fl st p l = some st') :
    ∃ w', (Instr.storeAt t v u').run P w = .ok () w' ∧ Good cx B fl β st w β st' w' := by
  obtain ⟨i, z, hi⟩ := hx.is ht
  obtain ⟨h1, h2⟩ := cellsOf_rel hu hl
  obtain ⟨b, off, w', rfl, hr, hg⟩ := storeN_rel (P := P) h hp hs h1 h2
  refine ⟨w', ?_, hg⟩
  have hsz : u'.cells.size = ty.size := by rw [← Array.length_toList, ← h1.length, hlen]
  simp [Instr.storeAt, Instr.sureAddr, adr, storeVar, hi.run_size, hsz, hr]

theorem run_fieldAt (hx : CxOk cx P) {t : TypeId} {x : V} {x' : Value} {f : Nat} {v : V} (hr : VRel β x x') (h : fieldAddr cx t x f = some v) (w : World) :
    ∃ v', (Instr.fieldAt t x' f).run P w = .ok v' w ∧ VRel β v v' := by
  unfold fieldAddr at h
  split at h
  · rename_i ty p ht hp
    obtain ⟨i, z, hi⟩ := hx.is ht
    split at h
    · rename_i fs hu
      split at h
      · rename_i fd hfd
        split at h
        · rename_i fty hft
          obtain ⟨i', z', hi'⟩ := hx.is hft
          cases hz : Nat.beq fty.size 0 with
          | true => rw [hz] at h; simp at h
          | false =>
            rw [hz] at h
            simp only [cond_false, Option.map_eq_some_iff] at h
            obtain ⟨q, hq, rfl⟩ := h
            obtain ⟨b, off, rfl, hr'⟩ := behind_rel (toC_rel hr hp) hq
            have hne : fty.size ≠ 0 := fun e => by rw [e] at hz; simp at hz
            refine ⟨adr b (off + fd.offset), ?_, hr'⟩
            simp [Instr.fieldAt, hi.run_under, hu, hfd, Instr.sureAddr, adr, fieldPlace, hi'.run_size, hne, add_adr]
        · cases h
      · cases h
    · cases h
  · cases h

theorem toInt_rel {v : V} {v' : Value} {n : Int} (h : VRel β v v') (hn : toInt v = some n) : ∃ k, v' = .int k n := by
  unfold toInt at hn
  split at hn
  · rename_i k m
    simp only [Option.some.injEq] at hn; subst hn
    exact ⟨k, h⟩
  · cases hn

theorem idxOk_some {i : Int} {n k : Nat} (h : idxOk i n = some k) : i = k ∧ k < n := by
  unfold idxOk at h
  split at h
  · rename_i m
    cases hb : Nat.blt m n with
    | false => rw [hb] at h; simp at h
    | true =>
      rw [hb] at h
      simp only [cond_true, Option.some.injEq] at h
      subst h
      exact ⟨rfl, by simpa [Nat.blt, Nat.ble_eq, Nat.succ_le_iff] using hb⟩
  · cases h

/-- A slice: where its first cell lies. -/
theorem sliceOf_rel {v : V} {v' : Value} {a : Option C} {len cap : Nat} {fx : Bool} (h : VRel β v v') (hs : sliceOf v = some (a, len, cap, fx)) :
    (a = none ∧ fx = false ∧ v' = .slice none len cap) ∨
    ∃ p b off c, a = some p ∧ CRel β p (adr b off) ∧ v' = .slice (some ⟨b, off, none⟩) len c ∧ cap ≤ c ∧ (fx = false → c = cap) ∧
      (fx = true → ∃ id e, v = .a (.c (.sl id off len cap true)) ∧ p = .ptr id off ∧ β id = some (b, e) ∧ c = cap + e) := by
  unfold sliceOf at hs
  split at hs
  · rename_i id off len' cap' fx'
    simp only [Option.some.injEq, Prod.mk.injEq] at hs
    obtain ⟨rfl, rfl, rfl, rfl⟩ := hs
    obtain ⟨b, e, hb, rfl⟩ := h
    refine .inr ⟨_, b, off, _, rfl, ⟨b, e, hb, rfl⟩, rfl, ?_, ?_, ?_⟩
    · cases fx' <;> simp
    · intro hf; rw [hf]; rfl
    · intro hf; subst hf; exact ⟨id, e, rfl, rfl, hb, rfl⟩
  · simp only [Option.some.injEq, Prod.mk.injEq] at hs
    obtain ⟨rfl, rfl, rfl, rfl⟩ := hs
    exact .inl ⟨rfl, rfl, h⟩
  · simp only [Option.some.injEq, Prod.mk.injEq] at hs
    obtain ⟨rfl, rfl, rfl, rfl⟩ := hs
    exact .inr ⟨_, _, _, _, rfl, rfl, h, Nat.le_refl _, fun _ => rfl, fun hf => by cases hf⟩
  · cases hs

theorem sliceRd_rel {v : V} {v' : Value} {a : Option C} {len : Nat} (h : VRel β v v') (hs : sliceRd v = some (a, len)) :
    (a = none ∧ ∃ c, v' = .slice none len c) ∨ ∃ p b off c, a = some p ∧ CRel β p (adr b off) ∧ v' = .slice (some ⟨b, off, none⟩) len c := by
  unfold sliceRd at hs
  split at hs
  · rename_i k off len'
    simp only [Option.some.injEq, Prod.mk.injEq] at hs
    obtain ⟨rfl, rfl⟩ := hs
    obtain ⟨c, _, rfl⟩ := h
    exact .inr ⟨_, _, _, c, rfl, rfl, rfl⟩
  · simp only [Option.map_eq_some_iff] at hs
    obtain ⟨⟨a', n, cap, fx⟩, h1, h2⟩ := hs
    simp only [Prod.mk.injEq] at h2
    obtain ⟨rfl, rfl⟩ := h2
    rcases sliceOf_rel h h1 with ⟨rfl, _, rfl⟩ | ⟨p, b, off, c, rfl, hp, rfl, _⟩
    · exact .inl ⟨rfl, _, rfl⟩
    · exact .inr ⟨p, b, off, c, rfl, hp, rfl⟩

theorem run_indexAt (hx : CxOk cx P) {t : TypeId} {x ix : V} {x' ix' : Value} {v : V} (hr : VRel β x x') (hri : VRel β ix ix') (h : indexAddr cx t x ix = some v) (w : World) :
    ∃ v', (Instr.indexAt t x' ix').run P w = .ok v' w ∧ VRel β v v' := by
  unfold indexAddr at h
  split at h
  · rename_i ty n ht hn
    obtain ⟨i, z, hi⟩ := hx.is ht
    obtain ⟨k', rfl⟩ := toInt_rel hri hn
    split at h
    · rename_i len e hu
      split at h
      · rename_i k ety p hk het hp
        obtain ⟨rfl, hlt⟩ := idxOk_some hk
        obtain ⟨i', z', hi'⟩ := hx.is het
        simp only [Option.map_eq_some_iff] at h
        obtain ⟨q, hq, rfl⟩ := h
        obtain ⟨b, off, rfl, hr'⟩ := behind_rel (toC_rel hr hp) hq
        refine ⟨adr b (off + k * ety.size), ?_, hr'⟩
        simp [Instr.indexAt, asIntOf, hi.run_under, hu, Instr.sureAddr, adr, hlt, hi'.run_size, add_adr]
      · cases h
    · rename_i e hu
      split at h
      · rename_i p len ety hs het
        split at h
        · rename_i k hk
          obtain ⟨rfl, hlt⟩ := idxOk_some hk
          obtain ⟨i', z', hi'⟩ := hx.is het
          simp only [Option.map_eq_some_iff] at h
          obtain ⟨q, hq, rfl⟩ := h
          rcases sliceRd_rel hr hs with ⟨h1, _⟩ | ⟨p', b, off, c, h1, h2, rfl⟩
          · cases h1
          · cases h1
            obtain ⟨b', off', heq, hr'⟩ := behind_rel h2 hq
            simp only [adr, Value.pointer.injEq, Option.some.injEq, Addr.mk.injEq, and_true] at heq
            obtain ⟨rfl, rfl⟩ := heq
            refine ⟨adr b (off + k * ety.size), ?_, hr'⟩
            simp [Instr.indexAt, asIntOf, hi.run_under, hu, adr, hlt, hi'.run_size, add_adr]
        · cases h
      · cases h
    · cases h
  · cases h

theorem run_part (hx : CxOk cx P) {t : TypeId} {ty : Ty} (ht : cx.ty t = some ty) {cs : List C} {a : Array Value} (h1 : All2 (CRel β) cs a.toList) (h2 : ScalL a.toList) {off : Nat} {l : List C} (hs : sub cs off ty.size = some l) {v : V} (hp : pack ty l = some v) (w : World) :
    ∃ v', (part t a off).run P w = .ok v' w ∧ VRel β v v' := by
  obtain ⟨i, z, hi⟩ := hx.is ht
  obtain ⟨rfl, hlen⟩ := sub_some hs
  have hall := (h1.drop off).take ty.size
  have hsc : ScalL ((a.toList.drop off).take ty.size) := fun x hx => h2 x (List.mem_of_mem_drop (List.mem_of_mem_take hx))
  rcases pack_rel hp hall hsc with ⟨ha, hr⟩ | ⟨ha, x, he, hr, _⟩
  · refine ⟨_, ?_, hr⟩
    have : a.extract off (off + ty.size) = ((a.toList.drop off).take ty.size).toArray := by
      apply Array.toList_inj.1
      simp [Array.toList_extract]
    simp [part, hi.run_agg, ha, hi.run_size, this]
  · refine ⟨x, ?_, hr⟩
    have : a[off]? = some x := by
      have h0 : ((a.toList.drop off).take ty.size)[0]? = some x := by rw [he]; rfl
      have hlt := (List.getElem?_eq_some_iff.1 h0).1
      rw [List.getElem?_take, if_pos (by simp at hlt; omega), List.getElem?_drop, Nat.add_zero, Array.getElem?_toList] at h0
      exact h0
    simp [part, hi.run_agg, ha, this]

theorem run_field (hx : CxOk cx P) {t : TypeId} {x : V} {x' : Value} {f : Nat} {v : V} (hr : VRel β x x') (h : fieldOp cx t x f = some v) (w : World) :
    ∃ v', (Instr.field t x' f).run P w = .ok v' w ∧ VRel β v v' := by
  unfold fieldOp at h
  split at h
  · rename_i ty cs ht
    obtain ⟨i, z, hi⟩ := hx.is ht
    split at h
    · rename_i fs hu
      split at h
      · rename_i fd hfd
        split at h
        · rename_i fty hft
          split at h
          · rename_i l hl
            obtain ⟨a, rfl, h1, h2⟩ := hr
            obtain ⟨v', hv', hr'⟩ := run_part hx hft h1 h2 hl h w
            refine ⟨v', ?_, hr'⟩
            simp [Instr.field, hi.run_under, hu, hfd, asAgg, hv']
          · cases h
        · cases h
      · cases h
    · cases h
  · cases h

theorem run_index (hx : CxOk cx P) {t : TypeId} {x ix : V} {x' ix' : Value} {v : V} (hr : VRel β x x') (hri : VRel β ix ix') (h : indexOp cx t x ix = some v) (w : World) :
    ∃ v', (Instr.index t x' ix').run P w = .ok v' w ∧ VRel β v v' := by
  unfold indexOp at h
  split at h
  · rename_i ty n ht hn
    obtain ⟨i, z, hi⟩ := hx.is ht
    obtain ⟨k', rfl⟩ := toInt_rel hri hn
    split at h
    · rename_i len e cs hu
      split at h
      · rename_i k ety hk het
        obtain ⟨rfl, hlt⟩ := idxOk_some hk
        obtain ⟨i', z', hi'⟩ := hx.is het
        split at h
        · rename_i l hl
          obtain ⟨a, rfl, h1, h2⟩ := hr
          obtain ⟨v', hv', hr'⟩ := run_part hx het h1 h2 hl h w
          refine ⟨v', ?_, hr'⟩
          simp [Instr.index, asIntOf, hi.run_under, hu, hlt, hi'.run_size, hv']
        · cases h
      · cases h
    · rename_i s hu
      split at h
      · rename_i k hk
        obtain ⟨rfl, hlt⟩ := idxOk_some hk
        split at h
        · rename_i b hb
          simp only [Option.some.injEq] at h; subst h
          have hx' : x' = .string s := hr
          subst hx'
          refine ⟨.int .u8 b.toNat, ?_, rfl⟩
          simp [Instr.index, asIntOf, hi.run_under, hu, hb]
        · cases h
      · cases h
    · cases h
  · cases h
end Go.Am
