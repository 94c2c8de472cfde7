/- The abstract machine: aggregates and slices built; boxes. -/
import Derived.Test.YtbfonnoebbjenaaGreatDoorAmF
import Derived.Laws.Append
import Derived.Laws.MakeOwn
namespace Go.Am
open Go

variable {cx : Cx} {P : Program} {B fl : Nat} {β : Be} {st : St} {w : World}

theorem foldl_set (off : Nat) : ∀ (cs : List Value) (k : Nat) (a : Array Value), off + k + cs.length ≤ a.size →
    ((cs.zipIdx k).foldl (fun cs (c, j) => cs.setIfInBounds (off + j) c) a).toList = a.toList.take (off + k) ++ (cs ++ a.toList.drop (off + k + cs.length))
  | [], k, a, _ => by simp
  | c :: cs, k, a, h => by
    simp only [List.length_cons] at h
    simp only [List.zipIdx_cons, List.foldl_cons]
    rw [foldl_set off cs (k + 1) _ (by simp; omega)]
    simp only [Array.toList_setIfInBounds, List.length_cons]
    have hlt : off + k < a.toList.length := by simp; omega
    apply List.ext_getElem?
    intro j
    simp only [List.getElem?_append, List.length_take, List.length_set, List.getElem?_take, List.getElem?_set, List.getElem?_drop, List.length_cons, List.getElem?_cons]
    have e1 : min (off + (k + 1)) a.toList.length = off + k + 1 := by omega
    have e2 : min (off + k) a.toList.length = off + k := by omega
    rw [e1, e2]
    by_cases h1 : j < off + k
    · have : ¬ off + k = j := by omega
      rw [if_pos (by omega), if_pos (by omega), if_neg this, if_pos h1, if_pos h1]
    · by_cases h2 : j = off + k
      · subst h2
        rw [if_pos (by omega), if_pos (by omega), if_pos rfl, if_pos hlt, if_neg (by omega), if_pos (by omega), if_pos (by omega)]
      · rw [if_neg (by omega), if_neg h1]
        by_cases h3 : j - (off + k + 1) < cs.length
        · rw [if_pos h3, if_pos (by omega), if_neg (by omega)]
          congr 1
        · rw [if_neg h3, if_neg (by omega), if_neg (by omega)]
          congr 1; omega

theorem fill_rel {β : Be} (place : Nat → Option (Nat × Nat)) : ∀ (parts : List (Nat × V)) (parts' : List (Nat × Value)) (cells : List C) (a : Array Value) (r : List C),
    All2 (fun (p : Nat × V) (q : Nat × Value) => p.1 = q.1 ∧ VRel β p.2 q.2) parts parts' → All2 (CRel β) cells a.toList → ScalL a.toList → fillC place cells parts = some r →
    ∃ a', Instr.fill place a parts' = some a' ∧ All2 (CRel β) r a'.toList ∧ ScalL a'.toList
  | [], [], cells, a, r, _, h1, h2, h3 => by simp only [fillC, Option.some.injEq] at h3; subst h3; exact ⟨a, rfl, h1, h2⟩
  | [], _ :: _, _, _, _, h, _, _, _ => h.elim
  | _ :: _, [], _, _, _, h, _, _, _ => h.elim
  | (i, v) :: rest, (i', v') :: rest', cells, a, r, h, h1, h2, h3 => by
    obtain ⟨⟨hi, hv⟩, hrest⟩ := h
    simp only at hi hv
    subst hi
    simp only [fillC] at h3
    split at h3
    · rename_i off size cs hp hc
      obtain ⟨c1, c2⟩ := cellsOf_rel hv hc
      cases hb : Nat.beq cs.length size with
      | false => rw [hb] at h3; simp at h3
      | true =>
        have hsz := Nat.eq_of_beq_eq_true hb
        rw [hb] at h3
        simp only [cond_true] at h3
        split at h3
        · rename_i cells' hs
          obtain ⟨hle, rfl⟩ := splice_some hs
          have l1 := c1.length
          have l2 := h1.length
          have hz : v'.cells.size = size := by rw [← Array.length_toList, ← l1, hsz]
          have hsz2 : cells.length = a.size := by rw [l2]; simp
          have hfold : ((v'.cells.zipIdx).foldl (fun cs (c, j) => cs.setIfInBounds (off + j) c) a).toList = a.toList.take off ++ (v'.cells.toList ++ a.toList.drop (off + v'.cells.toList.length)) := by
            have l3 : a.toList.length = a.size := by simp
            have := foldl_set off v'.cells.toList 0 a (by omega)
            simp only [Nat.add_zero] at this
            rw [← this, ← Array.foldl_toList, Array.toList_zipIdx]
          obtain ⟨a', e1, e2, e3⟩ := fill_rel place rest rest' _ ((v'.cells.zipIdx).foldl (fun cs (c, j) => cs.setIfInBounds (off + j) c) a) r hrest
            (by rw [hfold, ← l1]; exact (h1.take off).append (c1.append (h1.drop _)))
            (by
              rw [hfold]
              intro x hx
              rcases List.mem_append.1 hx with hx | hx
              · exact h2 x (List.mem_of_mem_take hx)
              · rcases List.mem_append.1 hx with hx | hx
                · exact c2 x hx
                · exact h2 x (List.mem_of_mem_drop hx)) h3
          refine ⟨a', ?_, e2, e3⟩
          have l4 : v'.cells.toList.length = v'.cells.size := by simp
          have hc' : ¬ (v'.cells.size ≠ size ∨ off + v'.cells.size > a.size) := by
            rintro (h | h)
            · exact h hz
            · omega
          simp only [Instr.fill, hp]
          rw [if_neg (by rw [Bool.or_eq_true, decide_eq_true_eq, decide_eq_true_eq]; exact hc')]
          exact e1
        · cases h3
    · cases h3

theorem evParts_rel {fr : Fr} {a : Act} (r : FrRel β fr a) : ∀ {l : List (Nat × Operand)} {ps : List (Nat × V)}, evParts fr l = some ps →
    All2 (fun (p : Nat × V) (q : Nat × Value) => p.1 = q.1 ∧ VRel β p.2 q.2) ps (l.map fun (i, x) => (i, a.eval x))
  | [], ps, h => by simp only [evParts, Option.some.injEq] at h; subst h; trivial
  | (i, x) :: l, ps, h => by
    simp only [evParts] at h
    split at h
    · rename_i v rs hv hr
      simp only [Option.some.injEq] at h; subst h
      exact ⟨⟨rfl, ev_rel r hv⟩, evParts_rel r hr⟩
    · cases h

theorem evArgs_rel {fr : Fr} {a : Act} (r : FrRel β fr a) : ∀ {l : List Operand} {vs : List V}, evArgs fr l = some vs → All2 (VRel β) vs (l.map a.eval)
  | [], vs, h => by simp only [evArgs, Option.some.injEq] at h; subst h; trivial
  | x :: l, vs, h => by
    simp only [evArgs] at h
    split at h
    · rename_i v rs hv hr
      simp only [Option.some.injEq] at h; subst h
      exact ⟨ev_rel r hv, evArgs_rel r hr⟩
    · cases h

theorem zeroC_rel {t : TypeId} {ty : Ty} {i : TypeInfo} {z : Value} (h : TyIs P t ty i z) : All2 (CRel β) (zeroC ty) z.cells.toList ∧ ScalL z.cells.toList := by
  rw [h.cells]
  refine ⟨?_, h.scal⟩
  have := All2.map_sc (R := CRel β) C.sc id (fun x => rfl) ty.zero
  simpa [zeroC] using this

/-- what 'build' at a struct looks up -/
theorem run_places (hx : CxOk cx P) (w : World) : ∀ (l : List Field), (∀ fd ∈ l, ∃ fty, cx.ty fd.type = some fty) →
    ∃ ps : List (Nat × Nat), ((l.mapM fun f => do pure (f.offset, ← sizeOf f.type) : Sem (List (Nat × Nat)))).run P w = .ok ps w ∧ ∀ i : Nat, ps[i]? = (l[i]?).bind fun (fd : Field) => (cx.ty fd.type).map fun fty => (fd.offset, fty.size)
  | [], _ => ⟨[], by simp, by simp⟩
  | fd :: l, h => by
    obtain ⟨fty, hft⟩ := h fd (by simp)
    obtain ⟨i, z, hi⟩ := hx.is hft
    obtain ⟨ps, hps, hp2⟩ := run_places hx w l fun fd hfd => h fd (by simp [hfd])
    refine ⟨(fd.offset, fty.size) :: ps, ?_, fun k => ?_⟩
    · simp only [List.mapM_cons, Sem.run_bind, hi.run_size, Result.andThen_ok, Sem.run_pure, hps]
    · cases k with
      | zero => simp [hft]
      | succ k => simpa using hp2 k

theorem run_build (hx : CxOk cx P) {t : TypeId} {parts : List (Nat × V)} {parts' : List (Nat × Value)} (hp : All2 (fun (p : Nat × V) (q : Nat × Value) => p.1 = q.1 ∧ VRel β p.2 q.2) parts parts') {v : V} (h : buildOp cx t parts = some v) (w : World) :
    ∃ v', (Instr.build t parts'.toArray).run P w = .ok v' w ∧ VRel β v v' := by
  unfold buildOp at h
  split at h
  · rename_i ty ht
    obtain ⟨i, z, hi⟩ := hx.is ht
    obtain ⟨z1, z2⟩ := zeroC_rel (β := β) hi
    split at h
    · rename_i fs hu
      cases hall : (fs.toList.all fun fd => (cx.ty fd.type).isSome) with
      | false => rw [hall] at h; simp at h
      | true =>
        rw [hall] at h
        simp only [cond_true, Option.map_eq_some_iff] at h
        obtain ⟨l, hl, rfl⟩ := h
        obtain ⟨ps, hps, hp2⟩ := run_places hx w fs.toList fun (fd : Field) hfd => Option.isSome_iff_exists.1 (List.all_eq_true.1 hall fd hfd)
        obtain ⟨a', e1, e2, e3⟩ := fill_rel _ parts parts' _ z.cells l hp z1 z2 hl
        refine ⟨.agg a', ?_, a', rfl, e2, e3⟩
        have e1' : Instr.fill (fun x : Nat => ps.toArray[x]?) z.cells parts' = some a' := by
          rw [← e1]
          congr 1
          funext k
          rw [List.getElem?_toArray, hp2 k]
          cases fs.toList[k]? <;> rfl
        simp only [Instr.build, Sem.run_bind, hi.run_zero, Result.andThen_ok, hi.run_under, hu, Array.mapM_eq_mapM_toList, Sem.run_map, hps, e1', Sem.run_pure]
    · rename_i n e hu
      split at h
      · rename_i ety het
        obtain ⟨i', z', hi'⟩ := hx.is het
        simp only [Option.map_eq_some_iff] at h
        obtain ⟨l, hl, rfl⟩ := h
        obtain ⟨a', e1, e2, e3⟩ := fill_rel _ parts parts' _ z.cells l hp z1 z2 hl
        refine ⟨.agg a', ?_, a', rfl, e2, e3⟩
        simp [Instr.build, hi.run_zero, hi.run_under, hu, hi'.run_size, e1]
      · cases h
    · cases h
  · cases h
end Go.Am
