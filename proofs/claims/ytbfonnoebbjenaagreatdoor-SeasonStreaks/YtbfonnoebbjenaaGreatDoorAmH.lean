/- The abstract machine: slices made, cut, appended to, copied. -/
import Derived.Test.YtbfonnoebbjenaaGreatDoorAmG
import Derived.IntWalk
namespace Go.Am
open Go

variable {cx : Cx} {P : Program} {B fl : Nat} {β : Be} {st : St} {w : World}

theorem upd_self (β : Be) (id : Nat) (p : Nat × Nat) : upd β id p id = some p := by simp [upd_at]

theorem run_alloc (hx : CxOk cx P) {t : TypeId} {ty : Ty} (ht : cx.ty t = some ty) (h : Inv cx B β st w) (hfl : fl ≤ st.next) :
    ∃ v' β' w', (Instr.alloc t true (.tuple #[])).run P w = .ok v' w' ∧ VRel β' (.a (.c (.ptr st.next 0))) v' ∧ Good cx B fl β st w β' (st.new (.cells (zeroC ty) t false)) w' := by
  obtain ⟨i, z, hi⟩ := hx.is ht
  obtain ⟨z1, z2⟩ := zeroC_rel (β := upd β st.next (w.heap.size, 0)) hi
  refine ⟨adr w.heap.size 0, _, _, ?_, ?_, Good.alloc (w' := { w with heap := w.heap.push (.cells z.cells t) }) (e := 0) h hfl (ob := .cells z.cells t) ?_ rfl rfl rfl rfl⟩
  · simp only [Instr.alloc, Sem.run_bind, hi.run_zero, Result.andThen_ok, newVar, newRow, run_newObj, Sem.run_pure]; rfl
  · exact ⟨_, _, upd_self _ _ _, rfl⟩
  · exact ⟨z.cells, z.cells.toList, [], rfl, by simp, z1, z2, fun _ => rfl, fun hf => by cases hf⟩

theorem run_box {t : TypeId} {u : V} {u' : Value} (hu : VRel β u u') {l : List C} (hl : cellsOf u = some l) (h : Inv cx B β st w) (hfl : fl ≤ st.next) :
    ∃ v' β' w', (Instr.box t u').run P w = .ok v' w' ∧ VRel β' (.a (.c (.ptr st.next 0))) v' ∧ Good cx B fl β st w β' (st.new (.cells l t false)) w' := by
  obtain ⟨h1, h2⟩ := cellsOf_rel hu hl
  refine ⟨adr w.heap.size 0, _, _, ?_, ?_, Good.alloc (w' := { w with heap := w.heap.push (.cells u'.cells t) }) (e := 0) h hfl (ob := .cells u'.cells t) ?_ rfl rfl rfl rfl⟩
  · simp only [Instr.box, Sem.run_bind, Result.andThen_ok, newVar, newRow, run_newObj, Sem.run_pure]; rfl
  · exact ⟨_, _, upd_self _ _ _, rfl⟩
  · exact ⟨u'.cells, u'.cells.toList, [], rfl, by simp, h1.mono fun _ _ => CRel.mono (ext_upd h _), h2, fun _ => rfl, fun hf => by cases hf⟩

theorem rep_length (l : List C) : ∀ n, (rep n l).length = n * l.length
  | 0 => by simp [rep]
  | n + 1 => by simp [rep, rep_length l n, Nat.add_mul]; omega

def repV (n : Nat) (l : List Value) : List Value := match n with | 0 => [] | n + 1 => l ++ repV n l
theorem rep_rel {l : List C} {m : List Value} (h : All2 (CRel β) l m) (hs : ScalL m) : ∀ n, All2 (CRel β) (rep n l) (repV n m) ∧ ScalL (repV n m)
  | 0 => ⟨trivial, fun _ hx => by cases hx⟩
  | n + 1 => ⟨h.append (rep_rel h hs n).1, fun x hx => by
      simp only [repV] at hx
      rcases List.mem_append.1 hx with hx | hx
      · exact hs x hx
      · exact (rep_rel h hs n).2 x hx⟩
theorem repV_length (l : List Value) : ∀ n, (repV n l).length = n * l.length
  | 0 => by simp [repV]
  | n + 1 => by simp [repV, repV_length l n, Nat.add_mul]; omega
theorem repV_get (l : List Value) : ∀ (n k : Nat), k < n * l.length → (repV n l)[k]? = l[k % l.length]?
  | 0, k, h => by omega
  | n + 1, k, h => by
    simp only [repV]
    by_cases hk : k < l.length
    · rw [List.getElem?_append_left hk, Nat.mod_eq_of_lt hk]
    · have h2 : k - l.length < n * l.length := by rw [Nat.add_mul] at h; omega
      rw [List.getElem?_append_right (by omega), repV_get l n _ h2]
      congr 1
      conv => rhs; rw [show k = k - l.length + l.length by omega]
      rw [Nat.add_mod_right]

/-- zero cells as the model lays them -/
theorem made_cells (z : Array Value) (n : Nat) : ((Array.range (n * z.size)).map fun i => z[i % z.size]!).toList = repV n z.toList := by
  apply List.ext_getElem?
  intro k
  by_cases hk : k < n * z.size
  · rw [repV_get z.toList n k (by simpa using hk)]
    have hz : 0 < z.size := by
      rcases Nat.eq_zero_or_pos z.size with h | h
      · rw [h] at hk; simp at hk
      · exact h
    have hm : k % z.size < z.size := Nat.mod_lt _ hz
    simp [hk, hm]
  · rw [List.getElem?_eq_none (by simp; omega), List.getElem?_eq_none (by rw [repV_length]; simp; omega)]

theorem run_buildSlice (hx : CxOk cx P) {t : TypeId} {len : Nat} {parts : List (Nat × V)} {parts' : List (Nat × Value)} (hp : All2 (fun (p : Nat × V) (q : Nat × Value) => p.1 = q.1 ∧ VRel β p.2 q.2) parts parts')
    (h : Inv cx B β st w) (hfl : fl ≤ st.next) {v : V} {st' : St} (hb : buildSlice cx t len parts st = some (v, st')) :
    ∃ v' β' w', (Instr.buildSlice t len parts'.toArray).run P w = .ok v' w' ∧ VRel β' v v' ∧ Good cx B fl β st w β' st' w' := by
  unfold buildSlice at hb
  split at hb
  · rename_i ty ht
    obtain ⟨i, z, hi⟩ := hx.is ht
    split at hb
    · rename_i e hu
      split at hb
      · rename_i ety het
        obtain ⟨i', z', hi'⟩ := hx.is het
        cases hbd : Nat.ble (len * ety.size) 16777216 with
        | false => rw [hbd] at hb; simp at hb
        | true =>
          rw [hbd] at hb
          simp only [cond_true] at hb
          split at hb
          · rename_i l hl
            simp only [Option.some.injEq, Prod.mk.injEq] at hb
            obtain ⟨rfl, rfl⟩ := hb
            obtain ⟨z1, z2⟩ := zeroC_rel (β := β) hi'
            obtain ⟨r1, r2⟩ := rep_rel z1 z2 len
            have hzs : z'.cells.size = ety.size := by rw [← Array.length_toList, hi'.cells, hi'.len]
            obtain ⟨a', e1, e2, e3⟩ := fill_rel _ parts parts' _ (repV len z'.cells.toList).toArray l hp (by simpa using r1) (by simpa using r2) hl
            have hle : ¬ len * ety.size > 2 ^ 24 := by have := Nat.le_of_ble_eq_true hbd; omega
            refine ⟨.slice (some ⟨w.heap.size, 0, none⟩) len len, _, _, ?_, ?_, Good.alloc (w' := { w with heap := w.heap.push (.cells a' e) }) (e := 0) h hfl (ob := .cells a' e) ?_ rfl rfl rfl rfl⟩
            · by_cases h0 : len * ety.size = 0
              · have hrep : repV len z'.cells.toList = [] := List.eq_nil_of_length_eq_zero (by rw [repV_length]; simp only [Array.length_toList, hzs]; exact h0)
                rw [hrep] at e1
                have hle' : ¬ 0 > 2 ^ 24 := by omega
                have hz0 : Array.range 0 = #[] := rfl
                simp only [Instr.buildSlice, Sem.run_bind, hi.run_under, hu, Result.andThen_ok, hi'.run_size, h0, hle', if_false, if_true, Sem.run_pure, hz0, Array.map_empty]
                rw [e1]
                simp [newRow]
              · have hrep : (Array.range (len * ety.size)).map (fun x => z'.cells[x % z'.cells.size]!) = (repV len z'.cells.toList).toArray := by
                  apply Array.toList_inj.1
                  have := made_cells z'.cells len
                  rw [hzs] at this
                  simpa [hzs] using this
                simp only [Instr.buildSlice, Sem.run_bind, hi.run_under, hu, Result.andThen_ok, hi'.run_size, hle, if_false, h0, hi'.run_zero, Sem.run_pure]
                rw [hrep, e1]
                simp [newRow]
            · exact ⟨_, _, upd_self _ _ _, rfl⟩
            · exact ⟨a', a'.toList, [], rfl, by simp, e2.mono fun _ _ => CRel.mono (ext_upd h _), e3, fun _ => rfl, fun hf => by cases hf⟩
          · cases hb
      · cases hb
    · cases hb
  · cases hb

theorem bound_rel {x : Option V} {x' : Option Value} {d n : Nat} (h : ∀ v, x = some v → ∃ v', x' = some v' ∧ VRel β v v') (hn : x = none → x' = none) (hb : bound x d = some n) :
    (x' = none ∧ n = d) ∨ ∃ k, x' = some (.int k n) := by
  unfold bound at hb
  cases x with
  | none => simp only [Option.some.injEq] at hb; exact .inl ⟨hn rfl, hb.symm⟩
  | some v =>
    simp only at hb
    split at hb
    · rename_i m hm
      simp only [Option.some.injEq] at hb; subst hb
      obtain ⟨v', rfl, hr⟩ := h v rfl
      obtain ⟨k, rfl⟩ := toInt_rel hr hm
      exact .inr ⟨k, rfl⟩
    · cases hb

theorem run_makeSlice (hx : CxOk cx P) {t : TypeId} {l c : V} {l' c' : Value} (hl : VRel β l l') (hc : VRel β c c') (h : Inv cx B β st w) (hfl : fl ≤ st.next) {v : V} {st' : St} (hb : makeSlice cx t l c st = some (v, st')) :
    ∃ v' β' w', (Instr.makeSlice t l' c').run P w = .ok v' w' ∧ VRel β' v v' ∧ Good cx B fl β st w β' st' w' := by
  unfold makeSlice at hb
  split at hb
  · rename_i ty ln cn ht hln hcn
    obtain ⟨i, z, hi⟩ := hx.is ht
    have key : ∀ {x : V} {x' : Value} {n : Nat}, VRel β x x' → bound (some x) 0 = some n → ∃ k, x' = .int k n := fun {x x' n} hr hb => by
      rcases bound_rel (x' := some x') (fun v hv => by cases hv; exact ⟨_, rfl, hr⟩) (fun hn => by cases hn) hb with ⟨h1, _⟩ | ⟨k, hk⟩
      · cases h1
      · exact ⟨k, Option.some.inj hk⟩
    obtain ⟨k1, rfl⟩ := key hl hln
    obtain ⟨k2, rfl⟩ := key hc hcn
    split at hb
    · rename_i e hu
      split at hb
      · rename_i ety het
        obtain ⟨i', z', hi'⟩ := hx.is het
        cases hbd : (Nat.ble ln cn && Nat.ble cn 1000000 && Nat.ble (cn * ety.bytes) 100000000) with
        | false => rw [hbd] at hb; simp at hb
        | true =>
          rw [hbd] at hb
          simp only [cond_true, Option.some.injEq, Prod.mk.injEq] at hb
          obtain ⟨rfl, rfl⟩ := hb
          simp only [Bool.and_eq_true] at hbd
          have b1 := Nat.le_of_ble_eq_true hbd.1.1
          have b2 := Nat.le_of_ble_eq_true hbd.1.2
          have b3 := Nat.le_of_ble_eq_true hbd.2
          obtain ⟨z1, z2⟩ := zeroC_rel (β := upd β st.next (w.heap.size, 0)) hi'
          obtain ⟨r1, r2⟩ := rep_rel z1 z2 cn
          have hzs : z'.cells.size = ety.size := by rw [← Array.length_toList, hi'.cells, hi'.len]
          refine ⟨.slice (some ⟨w.heap.size, 0, none⟩) ln cn, _, _, ?_, ?_, Good.alloc (w' := { w with heap := w.heap.push (.cells (repV cn z'.cells.toList).toArray e) }) (e := 0) h hfl (ob := .cells (repV cn z'.cells.toList).toArray e) ?_ rfl rfl rfl rfl⟩
          · have w1 : IntKind.i64.wrap (ln : Int) = ln := IntWalk.i64_in _ (by omega)
            have w2 : IntKind.i64.wrap (cn : Int) = cn := IntWalk.i64_in _ (by omega)
            have hby : i'.bytes = ety.bytes := hi'.bytes
            have n1 : ¬ ((decide ((cn : Int) < 0) || decide ((ety.bytes : Int) * (cn : Int) > 2 ^ 48)) || decide ((ln : Int) < 0) || decide ((ln : Int) > cn)) = true := by
              have : (ety.bytes : Int) * (cn : Int) ≤ 100000000 := by
                have b4 : ((cn * ety.bytes : Nat) : Int) ≤ 100000000 := by omega
                rw [Int.natCast_mul] at b4
                rw [Int.mul_comm]; exact b4
              simp only [Bool.or_eq_true, decide_eq_true_eq]
              omega
            by_cases h0 : cn * ety.size = 0
            · have hrep : repV cn z'.cells.toList = [] := List.eq_nil_of_length_eq_zero (by rw [repV_length]; simp only [Array.length_toList, hzs]; exact h0)
              have hz0 : Array.range 0 = #[] := rfl
              simp only [Instr.makeSlice, Sem.run_bind, hi.run_under, hu, Result.andThen_ok, asInt, asIntOf, Sem.run_pure, hi'.run_info, hby, w1, w2, n1, Bool.false_eq_true, if_false, run_askRoom, Int.toNat_natCast, hi'.run_size, h0, if_true, hz0, Array.map_empty, newRow, run_newObj, hrep]
            · have hrep : (Array.range (cn * ety.size)).map (fun x => z'.cells[x % z'.cells.size]!) = (repV cn z'.cells.toList).toArray := by
                apply Array.toList_inj.1
                have := made_cells z'.cells cn
                rw [hzs] at this
                simpa [hzs] using this
              simp only [Instr.makeSlice, Sem.run_bind, hi.run_under, hu, Result.andThen_ok, asInt, asIntOf, Sem.run_pure, hi'.run_info, hby, w1, w2, n1, Bool.false_eq_true, if_false, run_askRoom, Int.toNat_natCast, hi'.run_size, h0, hi'.run_zero, newRow, run_newObj, hrep]
          · exact ⟨_, _, upd_self _ _ _, rfl⟩
          · exact ⟨_, repV cn z'.cells.toList, [], rfl, by simp, r1, by simpa using r2, fun _ => rfl, fun hf => by cases hf⟩
      · cases hb
    · cases hb
  · cases hb
end Go.Am
