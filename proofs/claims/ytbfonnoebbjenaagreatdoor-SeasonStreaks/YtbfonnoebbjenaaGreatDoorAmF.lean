/- The abstract machine: the model's instructions on memory and aggregates. -/
import Derived.Test.YtbfonnoebbjenaaGreatDoorAmE
namespace Go.Am
open Go

variable {cx : Cx} {P : Program} {B fl : Nat} {β : Be} {st : St} {w : World}

theorem run_loadVar (hx : CxOk cx P) {t : TypeId} {ty : Ty} (ht : cx.ty t = some ty) (h : Inv cx B β st w) {p : C} {v : Value} (hp : CRel β p v) {u : V}
    (hl : (loadN cx st p (bif isAggT ty.under then ty.size else 1)).bind (pack ty) = some u) :
    ∃ u', (Instr.loadAt t v).run P w = .ok u' w ∧ VRel β u u' := by
  obtain ⟨i, z, hi⟩ := hx.is ht
  cases hl' : loadN cx st p (bif isAggT ty.under then ty.size else 1) with
  | none => rw [hl'] at hl; simp at hl
  | some l =>
    rw [hl'] at hl
    simp only [Option.bind_some] at hl
    obtain ⟨b, off, vs, rfl, h1, h2, h3, h4⟩ := loadN_rel h hp hl'
    have hcell : ∀ j x, vs[j]? = some x → w.cell? ((⟨b, off, none⟩ : Addr).add j) = some x := fun j x hj => by rw [add_adr]; exact h4 j x hj
    rcases pack_rel hl h1 h2 with ⟨ha, hr⟩ | ⟨ha, x, rfl, hr, _⟩
    · refine ⟨.agg vs.toArray, ?_, hr⟩
      rw [ha] at h3
      simp only [cond_true] at h3
      have := run_loadCells_list (P := P) w ⟨b, off, none⟩ vs hcell
      rw [h3] at this
      simp [Instr.loadAt, Instr.sureAddr, adr, loadVar, hi.run_agg, ha, hi.run_size, this]
    · refine ⟨x, ?_, hr⟩
      have hc := hcell 0 x rfl
      rw [add_adr, Nat.add_zero] at hc
      simp [Instr.loadAt, Instr.sureAddr, adr, loadVar, hi.run_agg, ha, hc]

theorem run_storeVar (hx : CxOk cx P) {t : TypeId} {ty : Ty} (ht : cx.ty t = some ty) (h : Inv cx B β st w) {p : C} {v : Value} (hp : CRel β p v) {u : V} {u' : Value} (hu : VRel β u u') {l : List C} (hl : cellsOf u = some l)
    (hlen : l.length = ty.size) {st' : St} (hs : storeN fl st p l = some st') :
    ∃ w', (Instr.storeAt t v u').run P w = .ok () w' ∧ Good cx B fl β st w β st' w' := by
  obtain ⟨i, z, hi⟩ := hx.is ht
  obtain ⟨h1, h2⟩ := cellsOf_rel hu hl
  obtain ⟨b, off, w', rfl, hr, hg⟩ := storeN_rel (P := P) h hp hs h1 h2
  refine ⟨w', ?_, hg⟩
  have hsz : u'.cells.size = ty.size := by rw [← Array.length_toList, ← h1.length, hlen]
  simp [Instr.storeAt, Instr.sureAddr, adr, storeVar, hi.run_size, hsz, hr]

theorem run_fieldAt (hx : CxOk cx P) {t : TypeId} {x : V} {x' : Value} {f : Nat} {v : V} (hr : VRel β x x') (h : fieldAddr cx t x f = some v) (w : World) :
    ∃ v', (Instr.fieldAt t x' f).run P w = .ok v' w ∧ VRel β v v' := by
  unfold fieldAddr at h
  split at h
  · rename_i ty p ht hp
    obtain ⟨i, z, hi⟩ := hx.is ht
    split at h
    · rename_i fs hu
      split at h
      · rename_i fd hfd
        split at h
        · rename_i fty hft
          obtain ⟨i', z', hi'⟩ := hx.is hft
          cases hz : Nat.beq fty.size 0 with
          | true => rw [hz] at h; simp at h
          | false =>
            rw [hz] at h
            simp only [cond_false, Option.map_eq_some_iff] at h
            obtain ⟨q, hq, rfl⟩ := h
            obtain ⟨b, off, rfl, hr'⟩ := behind_rel (toC_rel hr hp) hq
            have hne : fty.size ≠ 0 := fun e => by rw [e] at hz; simp at hz
            refine ⟨adr b (off + fd.offset), ?_, hr'⟩
            simp [Instr.fieldAt, hi.run_under, hu, hfd, Instr.sureAddr, adr, fieldPlace, hi'.run_size, hne, add_adr]
        · cases h
      · cases h
    · cases h
  · cases h

theorem toInt_rel {v : V} {v' : Value} {n : Int} (h : VRel β v v') (hn : toInt v = some n) : ∃ k, v' = .int k n := by
  unfold toInt at hn
  split at hn
  · rename_i k m
    simp only [Option.some.injEq] at hn; subst hn
    exact ⟨k, h⟩
  · cases hn

theorem idxOk_some {i : Int} {n k : Nat} (h : idxOk i n = some k) : i = k ∧ k < n := by
  unfold idxOk at h
  split at h
  · rename_i m
    cases hb : Nat.blt m n with
    | false => rw [hb] at h; simp at h
    | true =>
      rw [hb] at h
      simp only [cond_true, Option.some.injEq] at h
      subst h
      exact ⟨rfl, by simpa [Nat.blt, Nat.ble_eq, Nat.succ_le_iff] using hb⟩
  · cases h

/-- A slice: where its first cell lies. -/
theorem sliceOf_rel {v : V} {v' : Value} {a : Option C} {len cap : Nat} {fx : Bool} (h : VRel β v v') (hs : sliceOf v = some (a, len, cap, fx)) :
    (a = none ∧ fx = false ∧ v' = .slice none len cap) ∨
    ∃ p b off c, a = some p ∧ CRel β p (adr b off) ∧ v' = .slice (some ⟨b, off, none⟩) len c ∧ cap ≤ c ∧ (fx = false → c = cap) ∧
      (fx = true → ∃ id e, v = .a (.c (.sl id off len cap true)) ∧ p = .ptr id off ∧ β id = some (b, e) ∧ c = cap + e) := by
  unfold sliceOf at hs
  split at hs
  · rename_i id off len' cap' fx'
    simp only [Option.some.injEq, Prod.mk.injEq] at hs
    obtain ⟨rfl, rfl, rfl, rfl⟩ := hs
    obtain ⟨b, e, hb, rfl⟩ := h
    refine .inr ⟨_, b, off, _, rfl, ⟨b, e, hb, rfl⟩, rfl, ?_, ?_, ?_⟩
    · cases fx' <;> simp
    · intro hf; rw [hf]; rfl
    · intro hf; subst hf; exact ⟨id, e, rfl, rfl, hb, rfl⟩
  · simp only [Option.some.injEq, Prod.mk.injEq] at hs
    obtain ⟨rfl, rfl, rfl, rfl⟩ := hs
    exact .inl ⟨rfl, rfl, h⟩
  · simp only [Option.some.injEq, Prod.mk.injEq] at hs
    obtain ⟨rfl, rfl, rfl, rfl⟩ := hs
    exact .inr ⟨_, _, _, _, rfl, rfl, h, Nat.le_refl _, fun _ => rfl, fun hf => by cases hf⟩
  · cases hs

theorem sliceRd_rel {v : V} {v' : Value} {a : Option C} {len : Nat} (h : VRel β v v') (hs : sliceRd v = some (a, len)) :
    (a = none ∧ ∃ c, v' = .slice none len c) ∨ ∃ p b off c, a = some p ∧ CRel β p (adr b off) ∧ v' = .slice (some ⟨b, off, none⟩) len c := by
  unfold sliceRd at hs
  split at hs
  · rename_i k off len'
    simp only [Option.some.injEq, Prod.mk.injEq] at hs
    obtain ⟨rfl, rfl⟩ := hs
    obtain ⟨c, _, rfl⟩ := h
    exact .inr ⟨_, _, _, c, rfl, rfl, rfl⟩
  · simp only [Option.map_eq_some_iff] at hs
    obtain ⟨⟨a', n, cap, fx⟩, h1, h2⟩ := hs
    simp only [Prod.mk.injEq] at h2
    obtain ⟨rfl, rfl⟩ := h2
    rcases sliceOf_rel h h1 with ⟨rfl, _, rfl⟩ | ⟨p, b, off, c, rfl, hp, rfl, _⟩
    · exact .inl ⟨rfl, _, rfl⟩
    · exact .inr ⟨p, b, off, c, rfl, hp, rfl⟩

theorem run_indexAt (hx : CxOk cx P) {t : TypeId} {x ix : V} {x' ix' : Value} {v : V} (hr : VRel β x x') (hri : VRel β ix ix') (h : indexAddr cx t x ix = some v) (w : World) :
    ∃ v', (Instr.indexAt t x' ix').run P w = .ok v' w ∧ VRel β v v' := by
  unfold indexAddr at h
  split at h
  · rename_i ty n ht hn
    obtain ⟨i, z, hi⟩ := hx.is ht
    obtain ⟨k', rfl⟩ := toInt_rel hri hn
    split at h
    · rename_i len e hu
      split at h
      · rename_i k ety p hk het hp
        obtain ⟨rfl, hlt⟩ := idxOk_some hk
        obtain ⟨i', z', hi'⟩ := hx.is het
        simp only [Option.map_eq_some_iff] at h
        obtain ⟨q, hq, rfl⟩ := h
        obtain ⟨b, off, rfl, hr'⟩ := behind_rel (toC_rel hr hp) hq
        refine ⟨adr b (off + k * ety.size), ?_, hr'⟩
        simp [Instr.indexAt, asIntOf, hi.run_under, hu, Instr.sureAddr, adr, hlt, hi'.run_size, add_adr]
      · cases h
    · rename_i e hu
      split at h
      · rename_i p len ety hs het
        split at h
        · rename_i k hk
          obtain ⟨rfl, hlt⟩ := idxOk_some hk
          obtain ⟨i', z', hi'⟩ := hx.is het
          simp only [Option.map_eq_some_iff] at h
          obtain ⟨q, hq, rfl⟩ := h
          rcases sliceRd_rel hr hs with ⟨h1, _⟩ | ⟨p', b, off, c, h1, h2, rfl⟩
          · cases h1
          · cases h1
            obtain ⟨b', off', heq, hr'⟩ := behind_rel h2 hq
            simp only [adr, Value.pointer.injEq, Option.some.injEq, Addr.mk.injEq, and_true] at heq
            obtain ⟨rfl, rfl⟩ := heq
            refine ⟨adr b (off + k * ety.size), ?_, hr'⟩
            simp [Instr.indexAt, asIntOf, hi.run_under, hu, adr, hlt, hi'.run_size, add_adr]
        · cases h
      · cases h
    · cases h
  · cases h

theorem run_part (hx : CxOk cx P) {t : TypeId} {ty : Ty} (ht : cx.ty t = some ty) {cs : List C} {a : Array Value} (h1 : All2 (CRel β) cs a.toList) (h2 : ScalL a.toList) {off : Nat} {l : List C} (hs : sub cs off ty.size = some l) {v : V} (hp : pack ty l = some v) (w : World) :
    ∃ v', (part t a off).run P w = .ok v' w ∧ VRel β v v' := by
  obtain ⟨i, z, hi⟩ := hx.is ht
  obtain ⟨rfl, hlen⟩ := sub_some hs
  have hall := (h1.drop off).take ty.size
  have hsc : ScalL ((a.toList.drop off).take ty.size) := fun x hx => h2 x (List.mem_of_mem_drop (List.mem_of_mem_take hx))
  rcases pack_rel hp hall hsc with ⟨ha, hr⟩ | ⟨ha, x, he, hr, _⟩
  · refine ⟨_, ?_, hr⟩
    have : a.extract off (off + ty.size) = ((a.toList.drop off).take ty.size).toArray := by
      apply Array.toList_inj.1
      simp [Array.toList_extract]
    simp [part, hi.run_agg, ha, hi.run_size, this]
  · refine ⟨x, ?_, hr⟩
    have : a[off]? = some x := by
      have h0 : ((a.toList.drop off).take ty.size)[0]? = some x := by rw [he]; rfl
      have hlt := (List.getElem?_eq_some_iff.1 h0).1
      rw [List.getElem?_take, if_pos (by simp at hlt; omega), List.getElem?_drop, Nat.add_zero, Array.getElem?_toList] at h0
      exact h0
    simp [part, hi.run_agg, ha, this]

theorem run_field (hx : CxOk cx P) {t : TypeId} {x : V} {x' : Value} {f : Nat} {v : V} (hr : VRel β x x') (h : fieldOp cx t x f = some v) (w : World) :
    ∃ v', (Instr.field t x' f).run P w = .ok v' w ∧ VRel β v v' := by
  unfold fieldOp at h
  split at h
  · rename_i ty cs ht
    obtain ⟨i, z, hi⟩ := hx.is ht
    split at h
    · rename_i fs hu
      split at h
      · rename_i fd hfd
        split at h
        · rename_i fty hft
          split at h
          · rename_i l hl
            obtain ⟨a, rfl, h1, h2⟩ := hr
            obtain ⟨v', hv', hr'⟩ := run_part hx hft h1 h2 hl h w
            refine ⟨v', ?_, hr'⟩
            simp [Instr.field, hi.run_under, hu, hfd, asAgg, hv']
          · cases h
        · cases h
      · cases h
    · cases h
  · cases h

theorem run_index (hx : CxOk cx P) {t : TypeId} {x ix : V} {x' ix' : Value} {v : V} (hr : VRel β x x') (hri : VRel β ix ix') (h : indexOp cx t x ix = some v) (w : World) :
    ∃ v', (Instr.index t x' ix').run P w = .ok v' w ∧ VRel β v v' := by
  unfold indexOp at h
  split at h
  · rename_i ty n ht hn
    obtain ⟨i, z, hi⟩ := hx.is ht
    obtain ⟨k', rfl⟩ := toInt_rel hri hn
    split at h
    · rename_i len e cs hu
      split at h
      · rename_i k ety hk het
        obtain ⟨rfl, hlt⟩ := idxOk_some hk
        obtain ⟨i', z', hi'⟩ := hx.is het
        split at h
        · rename_i l hl
          obtain ⟨a, rfl, h1, h2⟩ := hr
          obtain ⟨v', hv', hr'⟩ := run_part hx het h1 h2 hl h w
          refine ⟨v', ?_, hr'⟩
          simp [Instr.index, asIntOf, hi.run_under, hu, hlt, hi'.run_size, hv']
        · cases h
      · cases h
    · rename_i s hu
      split at h
      · rename_i k hk
        obtain ⟨rfl, hlt⟩ := idxOk_some hk
        split at h
        · rename_i b hb
          simp only [Option.some.injEq] at h; subst h
          have hx' : x' = .string s := hr
          subst hx'
          refine ⟨.int .u8 b.toNat, ?_, rfl⟩
          simp [Instr.index, asIntOf, hi.run_under, hu, hb]
        · cases h
      · cases h
    · cases h
  · cases h
end Go.Am
