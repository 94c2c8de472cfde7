/- The abstract machine: aggregates and slices built; boxes. The abstract machine: slices made, cut, appended to, copied. -/
import Derived.Test.YtbfonnoebbjenaaGreatDoorAmE
import Derived.Laws.Append
import Derived.Laws.MakeOwn
import Derived.IntWalk
namespace Go.Am
open Go

variable {cx : Cx} {P : Program} {B fl : Nat} {β : Be} {st : St} {w : World}

theorem foldl_set (off : Nat) : ∀ (cs : List Value) (k : Nat) (a : Array Value), off + k + cs.length ≤ a.size →
    ((cs.zipIdx k).foldl (fun cs (c, j) => cs.setIfInBounds (off + j) c) a).toList = a.toList.take (off + k) ++ (cs ++ a.toList.drop (off + k + cs.length))
  | [], k, a, _ => by simp
  | c :: cs, k, a, h => by
    simp only [List.length_cons] at h
    simp only [List.zipIdx_cons, List.foldl_cons]
    rw [foldl_set off cs (k + 1) _ (by simp; omega)]
    simp only [Array.toList_setIfInBounds, List.length_cons]
    have hlt : off + k < a.toList.length := by simp; omega
    apply List.ext_getElem?
    intro j
    simp only [List.getElem?_append, List.length_take, List.length_set, List.getElem?_take, List.getElem?_set, List.getElem?_drop, List.length_cons, List.getElem?_cons]
    have e1 : min (off + (k + 1)) a.toList.length = off + k + 1 := by omega
    have e2 : min (off + k) a.toList.length = off + k := by omega
    rw [e1, e2]
    by_cases h1 : j < off + k
    · have : ¬ off + k = j := by omega
      rw [if_pos (by omega), if_pos (by omega), if_neg this, if_pos h1, if_pos h1]
    · by_cases h2 : j = off + k
      · subst h2
        rw [if_pos (by omega), if_pos (by omega), if_pos rfl, if_pos hlt, if_neg (by omega), if_pos (by omega), if_pos (by omega)]
      · rw [if_neg (by omega), if_neg h1]
        by_cases h3 : j - (off + k + 1) < cs.length
        · rw [if_pos h3, if_pos (by omega), if_neg (by omega)]
          congr 1
        · rw [if_neg h3, if_neg (by omega), if_neg (by omega)]
          congr 1; omega

theorem fill_rel {β : Be} (place : Nat → Option (Nat × Nat)) : ∀ (parts : List (Nat × V)) (parts' : List (Nat × Value)) (cells : List C) (a : Array Value) (r : List C),
    All2 (fun (p : Nat × V) (q : Nat × Value) => p.1 = q.1 ∧ VRel β p.2 q.2) parts parts' → All2 (CRel β) cells a.toList → ScalL a.toList → fillC place cells parts = some r →
    ∃ a', Instr.fill place a parts' = some a' ∧ All2 (CRel β) r a'.toList ∧ ScalL a'.toList
  | [], [], cells, a, r, _, h1, h2, h3 => by simp only [fillC, Option.some.injEq] at h3; subst h3; exact ⟨a, rfl, h1, h2⟩
  | [], _ :: _, _, _, _, h, _, _, _ => h.elim
  | _ :: _, [], _, _, _, h, _, _, _ => h.elim
  | (i, v) :: rest, (i', v') :: rest', cells, a, r, h, h1, h2, h3 => by
    obtain ⟨⟨hi, hv⟩, hrest⟩ := h
    simp only at hi hv
    subst hi
    simp only [fillC] at h3
    split at h3
    · rename_i off size cs hp hc
      obtain ⟨c1, c2⟩ := cellsOf_rel hv hc
      cases hb : Nat.beq cs.length size with
      | false => rw [hb] at h3; simp at h3
      | true =>
        have hsz := Nat.eq_of_beq_eq_true hb
        rw [hb] at h3
        simp only [cond_true] at h3
        split at h3
        · rename_i cells' hs
          obtain ⟨hle, rfl⟩ := splice_some hs
          have l1 := c1.length
          have l2 := h1.length
          have hz : v'.cells.size = size := by rw [← Array.length_toList, ← l1, hsz]
          have hsz2 : cells.length = a.size := by rw [l2]; simp
          have hfold : ((v'.cells.zipIdx).foldl (fun cs (c, j) => cs.setIfInBounds (off + j) c) a).toList = a.toList.take off ++ (v'.cells.toList ++ a.toList.drop (off + v'.cells.toList.length)) := by
            have l3 : a.toList.length = a.size := by simp
            have := foldl_set off v'.cells.toList 0 a (by omega)
            simp only [Nat.add_zero] at this
            rw [← this, ← Array.foldl_toList, Array.toList_zipIdx]
          obtain ⟨a', e1, e2, e3⟩ := fill_rel place rest rest' _ ((v'.cells.zipIdx).foldl (fun cs (c, j) => cs.setIfInBounds (off + j) c) a) r hrest
            (by rw [hfold, ← l1]; exact (h1.take off).append (c1.append (h1.drop _)))
            (by
              rw [hfold]
              intro x hx
              rcases List.mem_append.1 hx with hx | hx
              · exact h2 x (List.mem_of_mem_take hx)
              · rcases List.mem_append.1 hx with hx | hx
                · exact c2 x hx
                · exact h2 x (List.mem_of_mem_drop hx)) h3
          refine ⟨a', ?_, e2, e3⟩
          have l4 : v'.cells.toList.length = v'.cells.size := by simp
          have hc' : ¬ (v'.cells.size ≠ size ∨ off + v'.cells.size > a.size) := by
            rintro (h | h)
            · exact h hz
            · omega
          simp only [Instr.fill, hp]
          rw [if_neg (by rw [Bool.or_eq_true, decide_eq_true_eq, decide_eq_true_eq]; exact hc')]
          exact e1
        · cases h3
    · cases h3

theorem evParts_rel {fr : Fr} {a : Act} (r : FrRel β fr a) : ∀ {l : List (Nat × Operand)} {ps : List (Nat × V)}, evParts fr l = some ps →
    All2 (fun (p : Nat × V) (q : Nat × Value) => p.1 = q.1 ∧ VRel β p.2 q.2) ps (l.map fun (i, x) => (i, a.eval x))
  | [], ps, h => by simp only [evParts, Option.some.injEq] at h; subst h; trivial
  | (i, x) :: l, ps, h => by
    simp only [evParts] at h
    split at h
    · rename_i v rs hv hr
      simp only [Option.some.injEq] at h; subst h
      exact ⟨⟨rfl, ev_rel r hv⟩, evParts_rel r hr⟩
    · cases h

theorem evArgs_rel {fr : Fr} {a : Act} (r : FrRel β fr a) : ∀ {l : List Operand} {vs : List V}, evArgs fr l = some vs → All2 (VRel β) vs (l.map a.eval)
  | [], vs, h => by simp only [evArgs, Option.some.injEq] at h; subst h; trivial
  | x :: l, vs, h => by
    simp only [evArgs] at h
    split at h
    · rename_i v rs hv hr
      simp only [Option.some.injEq] at h; subst h
      exact ⟨ev_rel r hv, evArgs_rel r hr⟩
    · cases h

theorem zeroC_rel {t : TypeId} {ty : Ty} {i : TypeInfo} {z : Value} (h : TyIs P t ty i z) : All2 (CRel β) (zeroC ty) z.cells.toList ∧ ScalL z.cells.toList := by
  rw [h.cells]
  refine ⟨?_, h.scal⟩
  have := All2.map_sc (R := CRel β) C.sc id (fun x => rfl) ty.zero
  simpa [zeroC] using this

/-- what 'build' at a struct looks up -/
theorem run_places (hx : CxOk cx P) (w : World) : ∀ (l : List Field), (∀ fd ∈ l, ∃ fty, cx.ty fd.type = some fty) →
    ∃ ps : List (Nat × Nat), ((l.mapM fun f => do pure (f.offset, ← sizeOf f.type) : Sem (List (Nat × Nat)))).run P w = .ok ps w ∧ ∀ i : Nat, ps[i]? = (l[i]?).bind fun (fd : Field) => (cx.ty fd.type).map fun fty => (fd.offset, fty.size)
  | [], _ => ⟨[], by simp, by simp⟩
  | fd :: l, h => by
    obtain ⟨fty, hft⟩ := h fd (by simp)
    obtain ⟨i, z, hi⟩ := hx.is hft
    obtain ⟨ps, hps, hp2⟩ := run_places hx w l fun fd hfd => h fd (by simp [hfd])
    refine ⟨(fd.offset, fty.size) :: ps, ?_, fun k => ?_⟩
    · simp only [List.mapM_cons, Sem.run_bind, hi.run_size, Result.andThen_ok, Sem.run_pure, hps]
    · cases k with
      | zero => simp [hft]
      | succ k => simpa using hp2 k

theorem run_build (hx : CxOk cx P) {t : TypeId} {parts : List (Nat × V)} {parts' : List (Nat × Value)} (hp : All2 (fun (p : Nat × V) (q : Nat × Value) => p.1 = q.1 ∧ VRel β p.2 q.2) parts parts') {v : V} (h : buildOp cx t parts = some v) (w : World) :
    ∃ v', (Instr.build t parts'.toArray).run P w = .ok v' w ∧ VRel β v v' := by
  unfold buildOp at h
  split at h
  · rename_i ty ht
    obtain ⟨i, z, hi⟩ := hx.is ht
    obtain ⟨z1, z2⟩ := zeroC_rel (β := β) hi
    split at h
    · rename_i fs hu
      cases hall : (fs.toList.all fun fd => (cx.ty fd.type).isSome) with
      | false => rw [hall] at h; simp at h
      | true =>
        rw [hall] at h
        simp only [cond_true, Option.map_eq_some_iff] at h
        obtain ⟨l, hl, rfl⟩ := h
        obtain ⟨ps, hps, hp2⟩ := run_places hx w fs.toList fun (fd : Field) hfd => Option.isSome_iff_exists.1 (List.all_eq_true.1 hall fd hfd)
        obtain ⟨a', e1, e2, e3⟩ := fill_rel _ parts parts' _ z.cells l hp z1 z2 hl
        refine ⟨.agg a', ?_, a', rfl, e2, e3⟩
        have e1' : Instr.fill (fun x : Nat => ps.toArray[x]?) z.cells parts' = some a' := by
          rw [← e1]
          congr 1
          funext k
          rw [List.getElem?_toArray, hp2 k]
          cases fs.toList[k]? <;> rfl
        simp only [Instr.build, Sem.run_bind, hi.run_zero, Result.andThen_ok, hi.run_under, hu, Array.mapM_eq_mapM_toList, Sem.run_map, hps, e1', Sem.run_pure]
    · rename_i n e hu
      split at h
      · rename_i ety het
        obtain ⟨i', z', hi'⟩ := hx.is het
        simp only [Option.map_eq_some_iff] at h
        obtain ⟨l, hl, rfl⟩ := h
        obtain ⟨a', e1, e2, e3⟩ := fill_rel _ parts parts' _ z.cells l hp z1 z2 hl
        refine ⟨.agg a', ?_, a', rfl, e2, e3⟩
        simp [Instr.build, hi.run_zero, hi.run_under, hu, hi'.run_size, e1]
      · cases h
    · cases h
  · cases h
end Go.Am

namespace Go.Am
open Go

variable {cx : Cx} {P : Program} {B fl : Nat} {β : Be} {st : St} {w : World}

theorem upd_self (β : Be) (id : Nat) (p : Nat × Nat) : upd β id p id = some p := by simp [upd_at]

theorem run_alloc (hx : CxOk cx P) {t : TypeId} {ty : Ty} (ht : cx.ty t = some ty) (h : Inv cx B β st w) (hfl : fl ≤ st.next) :
    ∃ v' β' w', (Instr.alloc t true (.tuple #[])).run P w = .ok v' w' ∧ VRel β' (.a (.c (.ptr st.next 0))) v' ∧ Good cx B fl β st w β' (st.new (.cells (zeroC ty) t false)) w' := by
  obtain ⟨i, z, hi⟩ := hx.is ht
  obtain ⟨z1, z2⟩ := zeroC_rel (β := upd β st.next (w.heap.size, 0)) hi
  refine ⟨adr w.heap.size 0, _, _, ?_, ?_, Good.alloc (w' := { w with heap := w.heap.push (.cells z.cells t) }) (e := 0) h hfl (ob := .cells z.cells t) ?_ rfl rfl rfl rfl⟩
  · simp only [Instr.alloc, Sem.run_bind, hi.run_zero, Result.andThen_ok, newVar, newRow, run_newObj, Sem.run_pure]; rfl
  · exact ⟨_, _, upd_self _ _ _, rfl⟩
  · exact ⟨z.cells, z.cells.toList, [], rfl, by simp, z1, z2, fun _ => rfl, fun hf => by cases hf⟩

theorem run_box {t : TypeId} {u : V} {u' : Value} (hu : VRel β u u') {l : List C} (hl : cellsOf u = some l) (h : Inv cx B β st w) (hfl : fl ≤ st.next) :
    ∃ v' β' w', (Instr.box t u').run P w = .ok v' w' ∧ VRel β' (.a (.c (.ptr st.next 0))) v' ∧ Good cx B fl β st w β' (st.new (.cells l t false)) w' := by
  obtain ⟨h1, h2⟩ := cellsOf_rel hu hl
  refine ⟨adr w.heap.size 0, _, _, ?_, ?_, Good.alloc (w' := { w with heap := w.heap.push (.cells u'.cells t) }) (e := 0) h hfl (ob := .cells u'.cells t) ?_ rfl rfl rfl rfl⟩
  · simp only [Instr.box, Sem.run_bind, Result.andThen_ok, newVar, newRow, run_newObj, Sem.run_pure]; rfl
  · exact ⟨_, _, upd_self _ _ _, rfl⟩
  · exact ⟨u'.cells, u'.cells.toList, [], rfl, by simp, h1.mono fun _ _ => CRel.mono (ext_upd h _), h2, fun _ => rfl, fun hf => by cases hf⟩

theorem rep_length (l : List C) : ∀ n, (rep n l).length = n * l.length
  | 0 => by simp [rep]
  | n + 1 => by simp [rep, rep_length l n, Nat.add_mul]; omega

def repV (n : Nat) (l : List Value) : List Value := match n with | 0 => [] | n + 1 => l ++ repV n l
theorem rep_rel {l : List C} {m : List Value} (h : All2 (CRel β) l m) (hs : ScalL m) : ∀ n, All2 (CRel β) (rep n l) (repV n m) ∧ ScalL (repV n m)
  | 0 => ⟨trivial, fun _ hx => by cases hx⟩
  | n + 1 => ⟨h.append (rep_rel h hs n).1, fun x hx => by
      simp only [repV] at hx
      rcases List.mem_append.1 hx with hx | hx
      · exact hs x hx
      · exact (rep_rel h hs n).2 x hx⟩
theorem repV_length (l : List Value) : ∀ n, (repV n l).length = n * l.length
  | 0 => by simp [repV]
  | n + 1 => by simp [repV, repV_length l n, Nat.add_mul]; omega
theorem repV_get (l : List Value) : ∀ (n k : Nat), k < n * l.length → (repV n l)[k]? = l[k % l.length]?
  | 0, k, h => by omega
  | n + 1, k, h => by
    simp only [repV]
    by_cases hk : k < l.length
    · rw [List.getElem?_append_left hk, Nat.mod_eq_of_lt hk]
    · have h2 : k - l.length < n * l.length := by rw [Nat.add_mul] at h; omega
      rw [List.getElem?_append_right (by omega), repV_get l n _ h2]
      congr 1
      conv => rhs; rw [show k = k - l.length + l.length by omega]
      rw [Nat.add_mod_right]

/-- zero cells as the model lays them -/
theorem made_cells (z : Array Value) (n : Nat) : ((Array.range (n * z.size)).map fun i => z[i % z.size]!).toList = repV n z.toList := by
  apply List.ext_getElem?
  intro k
  by_cases hk : k < n * z.size
  · rw [repV_get z.toList n k (by simpa using hk)]
    have hz : 0 < z.size := by
      rcases Nat.eq_zero_or_pos z.size with h | h
      · rw [h] at hk; simp at hk
      · exact h
    have hm : k % z.size < z.size := Nat.mod_lt _ hz
    simp [hk, hm]
  · rw [List.getElem?_eq_none (by simp; omega), List.getElem?_eq_none (by rw [repV_length]; simp; omega)]

theorem run_buildSlice (hx : CxOk cx P) {t : TypeId} {len : Nat} {parts : List (Nat × V)} {parts' : List (Nat × Value)} (hp : All2 (fun (p : Nat × V) (q : Nat × Value) => p.1 = q.1 ∧ VRel β p.2 q.2) parts parts')
    (h : Inv cx B β st w) (hfl : fl ≤ st.next) {v : V} {st' : St} (hb : buildSlice cx t len parts st = some (v, st')) :
    ∃ v' β' w', (Instr.buildSlice t len parts'.toArray).run P w = .ok v' w' ∧ VRel β' v v' ∧ Good cx B fl β st w β' st' w' := by
  unfold buildSlice at hb
  split at hb
  · rename_i ty ht
    obtain ⟨i, z, hi⟩ := hx.is ht
    split at hb
    · rename_i e hu
      split at hb
      · rename_i ety het
        obtain ⟨i', z', hi'⟩ := hx.is het
        cases hbd : Nat.ble (len * ety.size) 16777216 with
        | false => rw [hbd] at hb; simp at hb
        | true =>
          rw [hbd] at hb
          simp only [cond_true] at hb
          split at hb
          · rename_i l hl
            simp only [Option.some.injEq, Prod.mk.injEq] at hb
            obtain ⟨rfl, rfl⟩ := hb
            obtain ⟨z1, z2⟩ := zeroC_rel (β := β) hi'
            obtain ⟨r1, r2⟩ := rep_rel z1 z2 len
            have hzs : z'.cells.size = ety.size := by rw [← Array.length_toList, hi'.cells, hi'.len]
            obtain ⟨a', e1, e2, e3⟩ := fill_rel _ parts parts' _ (repV len z'.cells.toList).toArray l hp (by simpa using r1) (by simpa using r2) hl
            have hle : ¬ len * ety.size > 2 ^ 24 := by have := Nat.le_of_ble_eq_true hbd; omega
            refine ⟨.slice (some ⟨w.heap.size, 0, none⟩) len len, _, _, ?_, ?_, Good.alloc (w' := { w with heap := w.heap.push (.cells a' e) }) (e := 0) h hfl (ob := .cells a' e) ?_ rfl rfl rfl rfl⟩
            · by_cases h0 : len * ety.size = 0
              · have hrep : repV len z'.cells.toList = [] := List.eq_nil_of_length_eq_zero (by rw [repV_length]; simp only [Array.length_toList, hzs]; exact h0)
                rw [hrep] at e1
                have hle' : ¬ 0 > 2 ^ 24 := by omega
                have hz0 : Array.range 0 = #[] := rfl
                simp only [Instr.buildSlice, Sem.run_bind, hi.run_under, hu, Result.andThen_ok, hi'.run_size, h0, hle', if_false, if_true, Sem.run_pure, hz0, Array.map_empty]
                rw [e1]
                simp [newRow]
              · have hrep : (Array.range (len * ety.size)).map (fun x => z'.cells[x % z'.cells.size]!) = (repV len z'.cells.toList).toArray := by
                  apply Array.toList_inj.1
                  have := made_cells z'.cells len
                  rw [hzs] at this
                  simpa [hzs] using this
                simp only [Instr.buildSlice, Sem.run_bind, hi.run_under, hu, Result.andThen_ok, hi'.run_size, hle, if_false, h0, hi'.run_zero, Sem.run_pure]
                rw [hrep, e1]
                simp [newRow]
            · exact ⟨_, _, upd_self _ _ _, rfl⟩
            · exact ⟨a', a'.toList, [], rfl, by simp, e2.mono fun _ _ => CRel.mono (ext_upd h _), e3, fun _ => rfl, fun hf => by cases hf⟩
          · cases hb
      · cases hb
    · cases hb
  · cases hb

theorem bound_rel {x : Option V} {x' : Option Value} {d n : Nat} (h : ∀ v, x = some v → ∃ v', x' = some v' ∧ VRel β v v') (hn : x = none → x' = none) (hb : bound x d = some n) :
    (x' = none ∧ n = d) ∨ ∃ k, x' = some (.int k n) := by
  unfold bound at hb
  cases x with
  | none => simp only [Option.some.injEq] at hb; exact .inl ⟨hn rfl, hb.symm⟩
  | some v =>
    simp only at hb
    split at hb
    · rename_i m hm
      simp only [Option.some.injEq] at hb; subst hb
      obtain ⟨v', rfl, hr⟩ := h v rfl
      obtain ⟨k, rfl⟩ := toInt_rel hr hm
      exact .inr ⟨k, rfl⟩
    · cases hb

theorem run_makeSlice (hx : CxOk cx P) {t : TypeId} {l c : V} {l' c' : Value} (hl : VRel β l l') (hc : VRel β c c') (h : Inv cx B β st w) (hfl : fl ≤ st.next) {v : V} {st' : St} (hb : makeSlice cx t l c st = some (v, st')) :
    ∃ v' β' w', (Instr.makeSlice t l' c').run P w = .ok v' w' ∧ VRel β' v v' ∧ Good cx B fl β st w β' st' w' := by
  unfold makeSlice at hb
  split at hb
  · rename_i ty ln cn ht hln hcn
    obtain ⟨i, z, hi⟩ := hx.is ht
    have key : ∀ {x : V} {x' : Value} {n : Nat}, VRel β x x' → bound (some x) 0 = some n → ∃ k, x' = .int k n := fun {x x' n} hr hb => by
      rcases bound_rel (x' := some x') (fun v hv => by cases hv; exact ⟨_, rfl, hr⟩) (fun hn => by cases hn) hb with ⟨h1, _⟩ | ⟨k, hk⟩
      · cases h1
      · exact ⟨k, Option.some.inj hk⟩
    obtain ⟨k1, rfl⟩ := key hl hln
    obtain ⟨k2, rfl⟩ := key hc hcn
    split at hb
    · rename_i e hu
      split at hb
      · rename_i ety het
        obtain ⟨i', z', hi'⟩ := hx.is het
        cases hbd : (Nat.ble ln cn && Nat.ble cn 1000000 && Nat.ble (cn * ety.bytes) 100000000) with
        | false => rw [hbd] at hb; simp at hb
        | true =>
          rw [hbd] at hb
          simp only [cond_true, Option.some.injEq, Prod.mk.injEq] at hb
          obtain ⟨rfl, rfl⟩ := hb
          simp only [Bool.and_eq_true] at hbd
          have b1 := Nat.le_of_ble_eq_true hbd.1.1
          have b2 := Nat.le_of_ble_eq_true hbd.1.2
          have b3 := Nat.le_of_ble_eq_true hbd.2
          obtain ⟨z1, z2⟩ := zeroC_rel (β := upd β st.next (w.heap.size, 0)) hi'
          obtain ⟨r1, r2⟩ := rep_rel z1 z2 cn
          have hzs : z'.cells.size = ety.size := by rw [← Array.length_toList, hi'.cells, hi'.len]
          refine ⟨.slice (some ⟨w.heap.size, 0, none⟩) ln cn, _, _, ?_, ?_, Good.alloc (w' := { w with heap := w.heap.push (.cells (repV cn z'.cells.toList).toArray e) }) (e := 0) h hfl (ob := .cells (repV cn z'.cells.toList).toArray e) ?_ rfl rfl rfl rfl⟩
          · have w1 : IntKind.i64.wrap (ln : Int) = ln := IntWalk.i64_in _ (by omega)
            have w2 : IntKind.i64.wrap (cn : Int) = cn := IntWalk.i64_in _ (by omega)
            have hby : i'.bytes = ety.bytes := hi'.bytes
            have n1 : ¬ ((decide ((cn : Int) < 0) || decide ((ety.bytes : Int) * (cn : Int) > 2 ^ 48)) || decide ((ln : Int) < 0) || decide ((ln : Int) > cn)) = true := by
              have : (ety.bytes : Int) * (cn : Int) ≤ 100000000 := by
                have b4 : ((cn * ety.bytes : Nat) : Int) ≤ 100000000 := by omega
                rw [Int.natCast_mul] at b4
                rw [Int.mul_comm]; exact b4
              simp only [Bool.or_eq_true, decide_eq_true_eq]
              omega
            by_cases h0 : cn * ety.size = 0
            · have hrep : repV cn z'.cells.toList = [] := List.eq_nil_of_length_eq_zero (by rw [repV_length]; simp only [Array.length_toList, hzs]; exact h0)
              have hz0 : Array.range 0 = #[] := rfl
              simp only [Instr.makeSlice, Sem.run_bind, hi.run_under, hu, Result.andThen_ok, asInt, asIntOf, Sem.run_pure, hi'.run_info, hby, w1, w2, n1, Bool.false_eq_true, if_false, run_askRoom, Int.toNat_natCast, hi'.run_size, h0, if_true, hz0, Array.map_empty, newRow, run_newObj, hrep]
            · have hrep : (Array.range (cn * ety.size)).map (fun x => z'.cells[x % z'.cells.size]!) = (repV cn z'.cells.toList).toArray := by
                apply Array.toList_inj.1
                have := made_cells z'.cells cn
                rw [hzs] at this
                simpa [hzs] using this
              simp only [Instr.makeSlice, Sem.run_bind, hi.run_under, hu, Result.andThen_ok, asInt, asIntOf, Sem.run_pure, hi'.run_info, hby, w1, w2, n1, Bool.false_eq_true, if_false, run_askRoom, Int.toNat_natCast, hi'.run_size, h0, hi'.run_zero, newRow, run_newObj, hrep]
          · exact ⟨_, _, upd_self _ _ _, rfl⟩
          · exact ⟨_, repV cn z'.cells.toList, [], rfl, by simp, r1, by simpa using r2, fun _ => rfl, fun hf => by cases hf⟩
      · cases hb
    · cases hb
  · cases hb
end Go.Am
