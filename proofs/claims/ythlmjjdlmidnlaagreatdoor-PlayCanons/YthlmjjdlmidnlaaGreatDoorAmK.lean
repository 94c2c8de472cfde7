/- The abstract machine: append, copy, clear, len, cap as the model runs them. The abstract machine: copy, clear, len, cap; arithmetic and comparisons. -/
import Derived.Test.YthlmjjdlmidnlaaGreatDoorAmI
import Derived.Laws.AppendOwn
namespace Go.Am
open Go

variable {cx : Cx} {P : Program} {B fl : Nat} {β : Be} {st : St} {w : World}

/-- what the abstract machine asks ahead of an append -/
theorem append_need {need bytes : Nat} (h : Nat.ble ((2 * need + 1024) * (bytes + 1)) 70000000000000 = true) : need * bytes ≤ 140737488355328 ∧ need ≤ 70000000000000 := by
  have h1 := Nat.le_of_ble_eq_true h
  have h2 : (2 * need + 1024) * (bytes + 1) = 2 * (need * bytes) + 2 * need + 1024 * bytes + 1024 := by
    rw [Nat.add_mul, Nat.mul_add, Nat.mul_add, Nat.mul_assoc]; omega
  rw [h2] at h1
  exact ⟨by omega, by omega⟩

section
variable {t u ty e : TypeId} {i : TypeInfo} {z : Value} {d : TypeDesc}

/-- append within the capacity -/
theorem run_append_in (ht : P.underlying t = some (.slice e)) (hu : P.underlying u = some d) (hd : srcKind d = true) (hi : P.info? e = some i) (w : World) (base : Option Addr) (sLen sCap n : Nat) (x' : Value) (news : List Value)
    (hl : (Builtin.lenOf x').run P w = .ok n w) (hf : (Builtin.firstCells i.size n x').run P w = .ok news.toArray w) (hroom : sLen + n ≤ sCap) {w' : World}
    (hs : match base with | some a => (storeCells (a.add (sLen * i.size)) news).run P w = .ok () w' | none => w' = w) :
    (Builtin.append_ #[t, u] ty #[.slice base sLen sCap, x']).run P w = .ok (.slice base (sLen + n) sCap) w' := by
  have hd2 : (∃ q, d = .slice q) ∨ d = .string := by cases d <;> simp_all [srcKind]
  cases base with
  | none =>
    simp only at hs; subst hs
    rcases hd2 with ⟨q, rfl⟩ | rfl <;> simp [Builtin.append_, run_underlying ht, run_underlying hu, sizeOf, typeInfo, hi, hl, hroom, hf]
  | some a =>
    simp only at hs
    rcases hd2 with ⟨q, rfl⟩ | rfl <;> simp [Builtin.append_, run_underlying ht, run_underlying hu, sizeOf, typeInfo, hi, hl, hroom, hf, hs]

/-- append beyond the capacity -/
theorem run_append_out (ht : P.underlying t = some (.slice e)) (hu : P.underlying u = some d) (hd : srcKind d = true) (hi : P.info? e = some i) (hz : i.zero = some z) (w : World) (base : Option Addr) (sLen sCap n : Nat) (x' : Value) (olds news : List Value)
    (hl : (Builtin.lenOf x').run P w = .ok n w) (hf : (Builtin.firstCells i.size n x').run P w.drew = .ok news.toArray w.drew) (hfo : (Builtin.firstCells i.size sLen (.slice base sLen sCap)).run P w.drew = .ok olds.toArray w.drew) (hg : sCap < sLen + n)
    (h63 : sLen + n ≤ 70000000000000) (hfit : (sLen + n) * i.bytes ≤ 140737488355328) :
    ∃ cap, sLen + n ≤ cap ∧ (Builtin.append_ #[t, u] ty #[.slice base sLen sCap, x']).run P w =
      .ok (.slice (some ⟨w.heap.size, 0, none⟩) (sLen + n) cap) (w.drew.alloc (.cells (olds ++ news ++ (Builtin.zeroCells z.cells (cap - (sLen + n))).toList).toArray e)) := by
  have hd2 : (∃ q, d = .slice q) ∨ d = .string := by cases d <;> simp_all [srcKind]
  refine ⟨grownCap w (sLen + n) sCap e, grownCap_ge w _ _ e, ?_⟩
  have hn : ¬ (sLen + n ≤ sCap) := by omega
  have h63' : ¬ (9223372036854775807 < ((sLen : Int) + (n : Int))) := by omega
  have h48 := growslice_fits hg hfit
  have h48' : ¬ (281474976710656 < Builtin.nextslicecap (sLen + n) sCap * i.bytes) := by omega
  have hfin : ∀ a : Array Value, olds.toArray ++ (news.toArray ++ a) = (olds ++ (news ++ a.toList)).toArray := fun a => by
    apply Array.toList_inj.1; simp
  rcases hd2 with ⟨q, rfl⟩ | rfl <;>
    simp [Builtin.append_, run_underlying ht, run_underlying hu, sizeOf, typeInfo, zeroValue, hi, hz, hl, hn, h63', h48', Question.forced, hf, hfo, newRow, grownCap, hfin]
end

theorem zeroCells_toList (z : Array Value) (n : Nat) : (Builtin.zeroCells z n).toList = repV n z.toList := made_cells z n

theorem All2.rep_zero {t : TypeId} {ty : Ty} {i : TypeInfo} {z : Value} (h : TyIs P t ty i z) (n : Nat) : ScalL (repV n z.cells.toList) ∧ (repV n z.cells.toList).length = n * ty.size := by
  obtain ⟨z1, z2⟩ := zeroC_rel (β := { m := fun _ => none, env := ⟨fun _ => 0, fun _ _ => 0, fun _ => (0, 0), fun _ _ => none⟩ }) h
  refine ⟨(rep_rel z1 z2 n).2, ?_⟩
  rw [repV_length, h.cells, h.len]

theorem run_append (hx : CxOk cx P) {t u ty : TypeId} {s x : V} {s' x' : Value} (hs : VRel β s s') (hxr : VRel β x x') (h : Inv cx B β st w) (hfl : fl ≤ st.next) {v : V} {st' : St}
    (ha : appendOp cx fl t ty u s x st = some (v, st')) :
    ∃ v' β' w', (Builtin.append_ #[t, u] ty #[s', x']).run P w = .ok v' w' ∧ VRel β' v v' ∧ Good cx B fl β st w β' st' w' := by
  unfold appendOp at ha
  simp only at ha
  split at ha
  case h_2 => cases ha
  rename_i sty xty b len cap fx n hst hxt hso hln
  obtain ⟨i1, z1, hT⟩ := hx.is hst
  obtain ⟨i2, z2, hU⟩ := hx.is hxt
  have hl := lenOf_rel (P := P) hxr hln
  cases hd : srcKind xty.under with
  | false => rw [hd] at ha; simp at ha
  | true =>
  rw [hd] at ha
  simp only [Bool.not_true, cond_false] at ha
  split at ha
  case h_2 => cases ha
  rename_i e hsu
  have ht : P.underlying t = some (.slice e) := by rw [hT.under, hsu]
  split at ha
  case h_2 => cases ha
  rename_i ety het
  obtain ⟨i, z, hE⟩ := hx.is het
  cases hbd : (Nat.beq ety.size 0 || !(Nat.ble ((2 * (len + n) + 1024) * (ety.bytes + 1)) 70000000000000)) with
  | true => rw [hbd] at ha; simp at ha
  | false =>
  rw [hbd] at ha
  simp only [cond_false] at ha
  simp only [Bool.or_eq_false_iff, Bool.not_eq_false'] at hbd
  have hs0 : ety.size ≠ 0 := fun e => by rw [e] at hbd; simp at hbd
  obtain ⟨hn1, hn2⟩ := append_need hbd.2
  rw [← hE.bytes] at hn1
  split at ha
  case h_2 => cases ha
  rename_i new hnew
  obtain ⟨vs, hvs, hva, hvsc, hvl⟩ := srcCells_rel (P := P) h hxr hnew
  have hsize : i.size = ety.size := hE.size
  cases hroom : Nat.ble (len + n) cap with
  | true =>
    have hr := Nat.le_of_ble_eq_true hroom
    rw [hroom] at ha
    simp only [cond_true] at ha
    cases hn0 : Nat.beq n 0 with
    | true =>
      have h0 := Nat.eq_of_beq_eq_true hn0
      rw [hn0] at ha
      simp only [cond_true, Option.map_eq_some_iff, Prod.mk.injEq] at ha
      obtain ⟨v1, hv1, rfl, rfl⟩ := ha
      have hnil : vs = [] := by
        apply List.eq_nil_of_length_eq_zero
        rw [← hva.length, hvl, h0]; simp
      rcases sliceOf_rel hs hso with ⟨rfl, rfl, rfl⟩ | ⟨p, bb, off, c, rfl, hp, rfl, hcc, hf1, hf2⟩
      · simp only [mkSlice, Option.some.injEq] at hv1; subst hv1
        refine ⟨_, β, w, run_append_in ht hU.under hd hE.info w none len cap n x' vs (hl w) (by rw [hsize]; exact hvs w rfl) hr rfl, rfl, Good.refl h⟩
      · refine ⟨_, β, w, run_append_in ht hU.under hd hE.info w (some ⟨bb, off, none⟩) len c n x' vs (hl w) (by rw [hsize]; exact hvs w rfl) (by omega) ?_, mkSlice_rel hp hf1 (fun hf => ?_) hv1, Good.refl h⟩
        · rw [hnil]; rfl
        · obtain ⟨id, ex, _, e2, e3, e4⟩ := hf2 hf; exact ⟨id, ex, e2, e3, e4⟩
    | false =>
      rw [hn0] at ha
      simp only [cond_false] at ha
      split at ha
      case h_2 => cases ha
      rename_i p
      split at ha
      case h_2 => cases ha
      rename_i p' hp'
      split at ha
      case h_2 => cases ha
      rename_i h1 v1 hst1 hv1
      simp only [Option.some.injEq, Prod.mk.injEq] at ha
      obtain ⟨rfl, rfl⟩ := ha
      rcases sliceOf_rel hs hso with ⟨h1', _⟩ | ⟨p0, bb, off, c, hpe, hp, rfl, hcc, hf1, hf2⟩
      · cases h1'
      · cases hpe
        obtain ⟨b1, o1, heq, hr1⟩ := behind_rel hp hp'
        simp only [adr, Value.pointer.injEq, Option.some.injEq, Addr.mk.injEq, and_true] at heq
        obtain ⟨rfl, rfl⟩ := heq
        obtain ⟨b2, o2, w', heq, hrun, hg⟩ := storeN_rel (P := P) h hr1 hst1 hva hvsc
        simp only [adr, Value.pointer.injEq, Option.some.injEq, Addr.mk.injEq, and_true] at heq
        obtain ⟨rfl, rfl⟩ := heq
        refine ⟨_, β, w', run_append_in ht hU.under hd hE.info w (some ⟨bb, off, none⟩) len c n x' vs (hl w) (by rw [hsize]; exact hvs w rfl) (by omega) ?_, mkSlice_rel hp hf1 (fun hf => ?_) hv1, hg⟩
        · simp only [hsize, add_adr]; exact hrun
        · obtain ⟨id, ex, _, e2, e3, e4⟩ := hf2 hf; exact ⟨id, ex, e2, e3, e4⟩
  | false =>
    have hr : cap < len + n := by
      rcases Nat.lt_or_ge cap (len + n) with h | h
      · exact h
      · have := Nat.ble_eq_true_of_le h; rw [this] at hroom; cases hroom
    have hn0 : n ≠ 0 ∨ True := .inr trivial
    rw [hroom] at ha
    simp only [cond_false] at ha
    -- the new block's cells
    have newblock : ∀ (old : List C) (olds : List Value) (capr δ : Nat), All2 (CRel β) old olds → ScalL olds → capr = len + n + δ → ∀ {β' : Be}, Ext β β' →
        ORel cx β' δ (.cells (old ++ new) e true) (.cells (olds ++ vs ++ (Builtin.zeroCells z.cells (capr - (len + n))).toList).toArray e) := fun old olds capr δ ho hos hc {β'} hext => by
      obtain ⟨r1, r2⟩ := All2.rep_zero hE δ
      have hcd : capr - (len + n) = δ := by omega
      refine ⟨_, olds ++ vs, repV δ z.cells.toList, rfl, ?_, ?_, ?_, (fun hf => by cases hf), fun _ => ⟨ety, het, r2⟩⟩
      · simp only [hcd, zeroCells_toList]
      · exact (ho.mono fun _ _ => CRel.mono hext).append (hva.mono fun _ _ => CRel.mono hext)
      · intro y hy
        simp only [hcd, zeroCells_toList] at hy
        rcases List.mem_append.1 hy with hy | hy
        · rcases List.mem_append.1 hy with hy | hy
          · exact hos y hy
          · exact hvsc y hy
        · exact r1 y hy
    cases fx with
    | false =>
      simp only [cond_false] at ha
      split at ha
      case h_2 => cases ha
      rename_i old hold
      simp only [Option.some.injEq, Prod.mk.injEq] at ha
      obtain ⟨rfl, rfl⟩ := ha
      obtain ⟨olds, hos, hoa, hosc, _⟩ := srcCells_rel (P := P) h hs hold
      have hform : ∃ base, s' = .slice base len cap := by
        rcases sliceOf_rel hs hso with ⟨rfl, _, rfl⟩ | ⟨p, bb, off, c, rfl, hp, rfl, hcc, hf1, hf2⟩
        · exact ⟨none, rfl⟩
        · exact ⟨_, by rw [hf1 rfl]⟩
      obtain ⟨base, rfl⟩ := hform
      obtain ⟨capr, hge, hrun⟩ := run_append_out (ty := ty) ht hU.under hd hE.info hE.zero w base len cap n x' olds vs (hl w) (by rw [hsize]; exact hvs w.drew rfl) (by rw [hsize]; exact hos w.drew rfl) hr hn2 hn1
      refine ⟨_, upd β st.next (w.heap.size, capr - (len + n)), _, hrun, ⟨w.heap.size, capr - (len + n), upd_self _ _ _, ?_⟩, Good.alloc h hfl (newblock old olds capr _ hoa hosc (by omega) (ext_upd h _)) rfl rfl rfl rfl⟩
      simp only [cond_true]
      congr 1; omega
    | true =>
      simp only [cond_true] at ha
      split at ha
      case h_2 => cases ha
      rename_i id
      cases hfid : Nat.ble fl id with
      | false => rw [hfid] at ha; simp at ha
      | true =>
      rw [hfid] at ha
      simp only [cond_true] at ha
      split at ha
      case h_2 => cases ha
      rename_i l e' hg
      cases hlen : (Nat.beq l.length (cap * ety.size) && Nat.beq e' e && Nat.ble len cap) with
      | false => rw [hlen] at ha; simp at ha
      | true =>
      rw [hlen] at ha
      simp only [cond_true, Option.some.injEq, Prod.mk.injEq] at ha
      obtain ⟨rfl, rfl⟩ := ha
      simp only [Bool.and_eq_true] at hlen
      have hll := Nat.eq_of_beq_eq_true hlen.1.1
      have hee := Nat.eq_of_beq_eq_true hlen.1.2
      have hlc := Nat.le_of_ble_eq_true hlen.2
      subst hee
      rcases sliceOf_rel hs hso with ⟨h1', _⟩ | ⟨p0, bb, off, c, hpe, hp, rfl, hcc, hf1, hf2⟩
      · cases h1'
      cases hpe
      obtain ⟨id', ex, hse, hpe, hbe, rfl⟩ := hf2 rfl
      simp only [C.ptr.injEq] at hpe
      obtain ⟨rfl, rfl⟩ := hpe
      obtain ⟨b', ex', ob, hb', hh, cur, pre, rest, rfl, hcur, hrel, hsl, _, hfxx⟩ := h.live id _ hg
      rw [hbe] at hb'; cases hb'
      obtain ⟨ety', het', hrest⟩ := hfxx rfl
      rw [het] at het'; cases het'
      have hpl : pre.length = cap * ety.size := by rw [← hrel.length]; exact hll
      have hlen2 : (pre.take (len * ety.size)).length = len * ety.size := by
        rw [List.length_take, hpl]; exact Nat.min_eq_left (Nat.mul_le_mul_right _ hlc)
      have holds : ∀ w2 : World, w2.heap = w.heap → ∀ cc, (Builtin.firstCells i.size len (.slice (some ⟨bb, 0, none⟩) len cc)).run P w2 = .ok (pre.take (len * ety.size)).toArray w2 := fun w2 hw2 cc => by
        have := run_loadCells_list (P := P) w2 ⟨bb, 0, none⟩ (pre.take (len * ety.size)) (fun j x hj => by
          rw [add_adr, cell_heap hw2]
          have hlt := (List.getElem?_eq_some_iff.1 hj).1
          rw [hlen2] at hlt
          rw [List.getElem?_take, if_pos hlt] at hj
          have hj2 := (List.getElem?_eq_some_iff.1 hj).1
          simp only [World.cell?, hh, Option.isSome, Bool.false_eq_true, if_false, Nat.zero_add]
          rw [← Array.getElem?_toList, hcur, List.getElem?_append_left hj2]
          exact hj)
        rw [hlen2] at this
        simp [Builtin.firstCells, hsize, this]
      have hcurlen : cur.size = (cap + ex) * ety.size := by rw [← Array.length_toList, hcur, List.length_append, hpl, hrest, Nat.add_mul]
      by_cases hin : len + n ≤ cap + ex
      · -- within the real capacity
        have hvl2 : vs.length = n * ety.size := by
          rw [← hva.length]; exact hvl
        have hfit : 0 + len * ety.size + 0 + vs.length ≤ cur.size := by
          rw [hcurlen, hvl2]
          have := Nat.mul_le_mul_right ety.size hin
          rw [Nat.add_mul] at this
          omega
        have hrun := run_storeCells_at P bb (0 + len * ety.size) e' vs 0 cur w hh hfit (fun v hv => scal_oneCell (hvsc v hv))
        refine ⟨_, upd β st.next (bb, cap + ex - (len + n)), _, run_append_in ht hU.under hd hE.info w (some ⟨bb, 0, none⟩) len (cap + ex) n x' vs (hl w) (by rw [hsize]; exact hvs w rfl) hin (by simp only [hsize, add_adr]; exact hrun), ⟨bb, _, upd_self _ _ _, ?_⟩,
          Good.consume h hfl (Nat.le_of_ble_eq_true hfid) hg hbe ?_ (chg_setRow hh)⟩
        · simp only [cond_true]; congr 1; omega
        · have hext := ext_upd h (bb, cap + ex - (len + n))
          have hcut : cur.toList.take (0 + len * ety.size + 0) ++ vs ++ cur.toList.drop (0 + len * ety.size + 0 + vs.length) = (pre.take (len * ety.size) ++ vs) ++ (cur.toList.drop ((len + n) * ety.size)) := by
            have e1 : 0 + len * ety.size + 0 = len * ety.size := by omega
            rw [e1, hvl2, ← Nat.add_mul, hcur, List.take_append_of_le_length (by rw [hpl]; exact Nat.mul_le_mul_right _ hlc)]
          refine ⟨_, pre.take (len * ety.size) ++ vs, cur.toList.drop ((len + n) * ety.size), rfl, by simpa using hcut, ?_, ?_, (fun hf => by cases hf), fun _ => ⟨ety, het, ?_⟩⟩
          · exact ((hrel.take _).mono fun _ _ => CRel.mono hext).append (hva.mono fun _ _ => CRel.mono hext)
          · intro y hy
            rw [hcut] at hy
            rcases List.mem_append.1 hy with hy | hy
            · rcases List.mem_append.1 hy with hy | hy
              · exact hsl y (by rw [hcur]; exact List.mem_append.2 (.inl (List.mem_of_mem_take hy)))
              · exact hvsc y hy
            · exact hsl y (List.mem_of_mem_drop hy)
          · rw [List.length_drop, Array.length_toList, hcurlen, ← Nat.mul_sub_right_distrib]
      · -- beyond it
        have hout : cap + ex < len + n := by omega
        obtain ⟨capr, hge, hrun⟩ := run_append_out (ty := ty) ht hU.under hd hE.info hE.zero w (some ⟨bb, 0, none⟩) len (cap + ex) n x' (pre.take (len * ety.size)) vs (hl w) (by rw [hsize]; exact hvs w.drew rfl) (holds w.drew rfl _) hout hn2 hn1
        have hosc : ScalL (pre.take (len * ety.size)) := fun y hy => hsl y (by rw [hcur]; exact List.mem_append.2 (.inl (List.mem_of_mem_take hy)))
        have hg1 : Good cx B fl β st w (upd β st.next (w.heap.size, capr - (len + n))) (st.new (.cells (l.take (len * ety.size) ++ new) e' true)) _ := Good.alloc (w' := w.drew.alloc (.cells (pre.take (len * ety.size) ++ vs ++ (Builtin.zeroCells z.cells (capr - (len + n))).toList).toArray e')) h hfl (newblock _ _ capr _ (hrel.take _) hosc (by omega) (ext_upd h _)) rfl rfl rfl rfl
        have hlt := get_lt h hg
        have hg' : (st.new (.cells (l.take (len * ety.size) ++ new) e' true)).heap.get id = some (.cells l e' true) := by
          simp only [St.new]; rw [T.get_set_other _ _ (by omega)]; exact hg
        have hb2 : upd β st.next (w.heap.size, capr - (len + n)) id = some (bb, ex) := by simp only [upd_at]; rw [if_neg (by omega)]; exact hbe
        obtain ⟨_, _, ob2, hb3, hh3, _⟩ := hg1.inv.live id _ hg'
        rw [hb2] at hb3; cases hb3
        have hg2 := Good.drop (fl := fl) hg1.inv (Nat.le_of_ble_eq_true hfid) hg' hb2 (w' := w.drew.alloc (.cells (pre.take (len * ety.size) ++ vs ++ (Builtin.zeroCells z.cells (capr - (len + n))).toList).toArray e')) (ob := ob2) ⟨rfl, rfl, rfl, rfl, hh3, fun _ _ => rfl⟩
        refine ⟨_, _, _, hrun, ⟨w.heap.size, capr - (len + n), upd_self _ _ _, ?_⟩, hg1.trans hg2⟩
        simp only [cond_true]
        congr 1; omega

/-- A new block that is never written again. -/
def frz (β : Be) (w' : World) (b : Nat) : Be := ⟨β.m, β.env, fun b' o => if b' = b then w'.cell? ⟨b', o, none⟩ else β.z b' o⟩

theorem Good.freeze {w' : World} (h : Inv cx B β st w) (ob : Obj) (hw : w'.heap = w.heap.push ob) (h1 : w'.os = w.os) (h2 : w'.tape = w.tape) (h3 : w'.output = w.output) : Good cx B fl β st w (frz β w' w.heap.size) st w' := by
  have old : ∀ k, k < w.heap.size → w'.heap[k]? = w.heap[k]? := fun k hk => by rw [hw, Array.getElem?_push, if_neg (by omega)]
  have hs : w.heap.size ≤ w'.heap.size := by rw [hw]; simp
  have hz : ∀ b o v, β.z b o = some v → b < w.heap.size := fun b o v hv => cell_under (h.still b o v hv).1
  have hext : Ext β (frz β w' w.heap.size) := ⟨fun _ _ h => h, rfl, fun b o v hv => by
    have := hz b o v hv
    show (if b = w.heap.size then w'.cell? ⟨b, o, none⟩ else β.z b o) = some v
    rw [if_neg (by omega)]; exact hv⟩
  refine ⟨hext, fun _ _ => rfl, ⟨fun id p hp => ?_, fun id o ho => ?_, h.inj, fun b o v hv => ?_, Nat.le_trans h.size hs, h.facts, fun b o v hv => ?_⟩, fun _ _ => rfl, Nat.le_refl _, h1, h2, h3, hs, fun k hk _ => old k hk, fun id o b e h1 h2 h3 => .inr ⟨id, o, e, h1, h2, h3⟩, fun b o v hv => ?_⟩
  · have := h.low id p hp; exact ⟨this.1, this.2.1, Nat.lt_of_lt_of_le this.2.2 hs⟩
  · obtain ⟨b, e, ob', hb, hh, hr⟩ := h.live id o ho
    exact ⟨b, e, ob', hb, (old b (h.low _ _ hb).2.2).trans hh, hr.mono hext⟩
  · obtain ⟨h1, h2⟩ := h.base b o v hv
    exact ⟨h1, by rw [← h2]; simp only [World.cell?]; rw [old b (Nat.lt_of_lt_of_le h1 h.size)]⟩
  · have hv' : (if b = w.heap.size then w'.cell? ⟨b, o, none⟩ else β.z b o) = some v := hv
    by_cases e : b = w.heap.size
    · rw [if_pos e] at hv'
      refine ⟨hv', fun id p hp => ?_⟩
      have := (h.low id p hp).2.2; omega
    · rw [if_neg e] at hv'
      obtain ⟨g1, g2⟩ := h.still b o v hv'
      refine ⟨?_, g2⟩
      rw [← g1]; simp only [World.cell?]; rw [old b (hz b o v hv')]
  · have hv' : (if b = w.heap.size then w'.cell? ⟨b, o, none⟩ else β.z b o) = some v := hv
    by_cases e : b = w.heap.size
    · exact .inr (by omega)
    · rw [if_neg e] at hv'; exact .inl hv'

theorem noRoom_rel {s : V} {s' : Value} (hs : VRel β s s') (h : noRoom s = true) : ∃ base, s' = .slice base 0 0 := by
  unfold noRoom at h
  split at h
  · obtain ⟨b, e, _, rfl⟩ := hs; exact ⟨_, rfl⟩
  · have e : s' = _ := hs; exact ⟨_, e⟩
  · cases h

theorem run_first0 (sz l c : Nat) (base : Option Addr) (w : World) : (Builtin.firstCells sz 0 (.slice base l c)).run P w = .ok #[] w := by
  cases base with
  | none => rfl
  | some a =>
    have := run_loadCells_list (P := P) w a [] (fun j x hx => by simp at hx)
    simp only [Builtin.firstCells, Nat.zero_mul]
    exact this

/-- A slice of symbols, copied. -/
theorem run_appendOst (hx : CxOk cx P) {t u ty : TypeId} {s v : V} {s' x' : Value} {k : Nat} {o n : E} (hs : VRel β s s') (hxr : VRel β (.a (.c (.ost k o n))) x') (h : Inv cx B β st w) {st' : St} (ha : appendOst cx t u s k o n st = some (v, st')) :
    ∃ v' β' w', (Builtin.append_ #[t, u] ty #[s', x']).run P w = .ok v' w' ∧ VRel β' v v' ∧ Good cx B fl β st w β' st' w' := by
  unfold appendOst at ha
  split at ha
  case h_2 => cases ha
  rename_i sty xty hst hxt
  split at ha
  case h_2 => cases ha
  rename_i e e2 hsu hxu
  split at ha
  case h_2 => cases ha
  rename_i ety het
  obtain ⟨i1, z1, hT⟩ := hx.is hst
  obtain ⟨i2, z2, hU⟩ := hx.is hxt
  obtain ⟨i, z, hE⟩ := hx.is het
  have ht : P.underlying t = some (.slice e) := by rw [hT.under, hsu]
  cases hc : (Nat.beq ety.size 1 && Nat.ble ety.bytes 1000000 && noRoom s && isYes (ask cx (.le n (.lit 1000000)))) with
  | false => rw [hc] at ha; cases ha
  | true =>
  rw [hc] at ha
  simp only [cond_true, Option.some.injEq, Prod.mk.injEq] at ha
  obtain ⟨rfl, rfl⟩ := ha
  simp only [Bool.and_eq_true] at hc
  obtain ⟨⟨⟨c1, c2⟩, c3⟩, c4⟩ := hc
  have hsz : i.size = 1 := by rw [hE.size]; exact Nat.eq_of_beq_eq_true c1
  have hby : i.bytes ≤ 1000000 := by rw [hE.bytes]; exact Nat.le_of_ble_eq_true c2
  obtain ⟨base, rfl⟩ := noRoom_rel hs c3
  obtain ⟨a, m, c, rfl, hmc, hm, hr⟩ := hxr
  have hle : m ≤ 1000000 := by
    cases hq : ask cx (.le n (.lit 1000000)) with
    | none => rw [hq] at c4; cases c4
    | some b =>
      rw [hq] at c4
      have := ask_holds h.facts hq
      have c4' : b = true := c4
      subst c4'
      have := of_decide_eq_true this
      simp only [E.val, E.vals, List.headD_cons] at this hm
      omega
  have hd : srcKind xty.under = true := by rw [hxu]; rfl
  by_cases h0 : m = 0
  · subst h0
    have hrun := run_append_in (ty := ty) (P := P) ht hU.under hd hE.info w base 0 0 0 (.slice a 0 c) [] (by simp [Builtin.lenOf]) (run_first0 _ _ _ _ _) (Nat.le_refl _) (w' := w) (by cases base <;> rfl)
    exact ⟨_, β, w, hrun, ⟨base, 0, 0, rfl, Nat.le_refl _, hm, fun h => absurd rfl h⟩, Good.refl h⟩
  · obtain ⟨b, off, rfl, hj⟩ := hr h0
    let vals : List Value := (List.range m).map fun (j : Nat) => Value.int .i64 (β.env.f (2000 + k) [o.val β.env + (j : Int)])
    have hvl : vals.length = m := by simp [vals]
    have hcell : ∀ j, j < m → w.cell? ⟨b, off + j, none⟩ = some (Value.int .i64 (β.env.f (2000 + k) [o.val β.env + (j : Int)])) := fun j hjm => by
      rcases hj j hjm with q | q
      · exact (h.base _ _ _ q).2
      · exact (h.still _ _ _ q).1
    have hld := run_loadCells_list (P := P) w.drew ⟨b, off, none⟩ vals (fun j x hx => by
      have hlt := (List.getElem?_eq_some_iff.1 hx).1
      rw [hvl] at hlt
      have hx' : x = Value.int .i64 (β.env.f (2000 + k) [o.val β.env + (j : Int)]) := by
        simp [vals, hlt] at hx; exact hx.symm
      rw [add_adr, hx']; exact hcell j hlt)
    rw [hvl] at hld
    obtain ⟨capr, hge, hrun⟩ := run_append_out (ty := ty) (P := P) ht hU.under hd hE.info hE.zero w base 0 0 m (.slice (some ⟨b, off, none⟩) m c) [] vals (by simp [Builtin.lenOf]) (by simp [Builtin.firstCells, hsz, hld]) (run_first0 _ _ _ _ _) (by omega) (by omega) (by
      have : (0 + m) * i.bytes ≤ 1000000 * 1000000 := Nat.mul_le_mul (by omega) hby
      omega)
    refine ⟨_, _, _, hrun, ⟨_, 0 + m, capr, rfl, by omega, by rw [Nat.zero_add]; exact hm, fun _ => ⟨w.heap.size, 0, rfl, fun j hjm => .inr ?_⟩⟩, Good.freeze h _ rfl rfl rfl rfl⟩
    have hjm' : j < m := by omega
    show (if w.heap.size = w.heap.size then _ else _) = _
    rw [if_pos rfl]
    have hat : ∀ X : Obj, (w.drew.heap.push X)[w.heap.size]? = some X := fun X => by
      have : w.drew.heap.size = w.heap.size := rfl
      rw [← this]; exact Array.getElem?_push_size
    show World.cell? { w.drew with heap := w.drew.heap.push (Obj.cells ([] ++ vals ++ (Builtin.zeroCells z.cells (capr - (0 + m))).toList).toArray e (0, 0)) } _ = _
    simp only [World.cell?, hat]
    have hlt : j < vals.length := by omega
    simp [vals, List.getElem?_append, hjm']
    rfl

theorem run_appendX (hx : CxOk cx P) {t u ty : TypeId} {s x : V} {s' x' : Value} (hs : VRel β s s') (hxr : VRel β x x') (h : Inv cx B β st w) (hfl : fl ≤ st.next) {v : V} {st' : St}
    (ha : appendX cx fl t ty u s x st = some (v, st')) :
    ∃ v' β' w', (Builtin.append_ #[t, u] ty #[s', x']).run P w = .ok v' w' ∧ VRel β' v v' ∧ Good cx B fl β st w β' st' w' := by
  unfold appendX at ha
  split at ha
  · rename_i k o n ho
    unfold ostOf at ho
    split at ho
    · simp only [Option.some.injEq, Prod.mk.injEq] at ho
      obtain ⟨rfl, rfl, rfl⟩ := ho
      exact run_appendOst hx hs hxr h ha
    · cases ho
  · exact run_append hx hs hxr h hfl ha
end Go.Am

namespace Go.Am
open Go

variable {cx : Cx} {P : Program} {B fl : Nat} {β : Be} {st : St} {w : World}

theorem run_copy (hx : CxOk cx P) {t : TypeId} {ts : Array TypeId} {ty : TypeId} {d x : V} {d' x' : Value} (hd : VRel β d d') (hxr : VRel β x x') (h : Inv cx B β st w) (ht0 : ts[0]? = some t) {v : V} {st' : St}
    (hc : copyOp cx fl t d x st = some (v, st')) :
    ∃ v' w', (Builtin.copy_ ts ty #[d', x']).run P w = .ok v' w' ∧ VRel β v v' ∧ Good cx B fl β st w β st' w' := by
  unfold copyOp at hc
  split at hc
  case h_2 => cases hc
  rename_i dty b dlen cap fx xl hdt hso hln
  obtain ⟨i, z, hT⟩ := hx.is hdt
  have hl := lenOf_rel (P := P) hxr hln
  split at hc
  case h_2 => cases hc
  rename_i e hu
  split at hc
  case h_2 => cases hc
  rename_i ety het
  obtain ⟨i', z', hE⟩ := hx.is het
  simp only at hc
  split at hc
  case h_2 => cases hc
  rename_i new hnew
  obtain ⟨vs, hvs, hva, hvsc, hvl⟩ := srcCells_rel (P := P) h hxr hnew
  have hgo : ((Nat.min xl dlen : Nat) : Int) = ((Nat.min xl dlen : Nat) : Int) := rfl
  rcases sliceOf_rel hd hso with ⟨rfl, rfl, rfl⟩ | ⟨p, bb, off, c, rfl, hp, rfl, hcc, hf1, hf2⟩
  · simp only [Option.some.injEq, Prod.mk.injEq] at hc
    obtain ⟨rfl, rfl⟩ := hc
    refine ⟨.int .i64 ((Nat.min xl dlen : Nat) : Int), w, ?_, rfl, Good.refl h⟩
    simp [Builtin.copy_, ht0, hT.run_under, hu, hl, hE.run_size, hvs w rfl, goInt]
  · simp only at hc
    cases hz : Nat.beq (Nat.min xl dlen * ety.size) 0 with
    | true =>
      have h0 := Nat.eq_of_beq_eq_true hz
      rw [hz] at hc
      simp only [cond_true, Option.some.injEq, Prod.mk.injEq] at hc
      obtain ⟨rfl, rfl⟩ := hc
      have hnil : vs = [] := by
        apply List.eq_nil_of_length_eq_zero
        rw [← hva.length, hvl, h0]
      subst hnil
      refine ⟨.int .i64 ((Nat.min xl dlen : Nat) : Int), w, ?_, rfl, Good.refl h⟩
      simp [Builtin.copy_, ht0, hT.run_under, hu, hl, hE.run_size, hvs w rfl, goInt, storeCells]
    | false =>
      rw [hz] at hc
      simp only [cond_false, Option.map_eq_some_iff, Prod.mk.injEq] at hc
      obtain ⟨h1, hs1, rfl, rfl⟩ := hc
      obtain ⟨b2, o2, w', heq, hrun, hg⟩ := storeN_rel (P := P) h hp hs1 hva hvsc
      simp only [adr, Value.pointer.injEq, Option.some.injEq, Addr.mk.injEq, and_true] at heq
      obtain ⟨rfl, rfl⟩ := heq
      refine ⟨.int .i64 ((Nat.min xl dlen : Nat) : Int), w', ?_, rfl, hg⟩
      simp [Builtin.copy_, ht0, hT.run_under, hu, hl, hE.run_size, hvs w rfl, goInt, hrun]

theorem run_clear (hx : CxOk cx P) {t : TypeId} {ts : Array TypeId} {ty : TypeId} {x : V} {x' : Value} (hxr : VRel β x x') (h : Inv cx B β st w) (ht0 : ts[0]? = some t) {v : V} {st' : St}
    (hc : clearOp cx fl t x st = some (v, st')) :
    ∃ v' w', (Builtin.clear_ ts ty #[x']).run P w = .ok v' w' ∧ VRel β v v' ∧ Good cx B fl β st w β st' w' := by
  unfold clearOp at hc
  split at hc
  case h_2 => cases hc
  rename_i tty b n cap fx htt hso
  obtain ⟨i, z, hT⟩ := hx.is htt
  split at hc
  case h_2 => cases hc
  rename_i e hu
  split at hc
  case h_3 => cases hc
  · rename_i ety p het
    obtain ⟨i', z', hE⟩ := hx.is het
    rcases sliceOf_rel hxr hso with ⟨h1, _⟩ | ⟨p', bb, off, c, h1, hp, rfl, hcc, hf1, hf2⟩
    · cases h1
    cases h1
    cases hz : Nat.beq n 0 with
    | true =>
      have h0 := Nat.eq_of_beq_eq_true hz
      subst h0
      simp only [hz, cond_true, Option.some.injEq, Prod.mk.injEq] at hc
      obtain ⟨rfl, rfl⟩ := hc
      refine ⟨.tuple #[], w, ?_, ⟨#[], rfl, trivial⟩, Good.refl h⟩
      simp [Builtin.clear_, ht0, hT.run_under, hu]
    | false =>
      have h0 : n ≠ 0 := fun e => by rw [e] at hz; simp at hz
      rw [hz] at hc
      simp only [cond_false, Option.map_eq_some_iff, Prod.mk.injEq] at hc
      obtain ⟨h1, hs1, rfl, rfl⟩ := hc
      obtain ⟨z1, z2⟩ := zeroC_rel (β := β) hE
      obtain ⟨r1, r2⟩ := rep_rel z1 z2 n
      obtain ⟨b2, o2, w', heq, hrun, hg⟩ := storeN_rel (P := P) h hp hs1 r1 r2
      simp only [adr, Value.pointer.injEq, Option.some.injEq, Addr.mk.injEq, and_true] at heq
      obtain ⟨rfl, rfl⟩ := heq
      refine ⟨.tuple #[], w', ?_, ⟨#[], rfl, trivial⟩, hg⟩
      obtain ⟨n, rfl⟩ := Nat.exists_eq_succ_of_ne_zero h0
      simp only [Builtin.clear_, ht0, Sem.run_bind, hT.run_under, hu, Result.andThen_ok, List.getElem?_toArray, List.getElem?_cons_zero]
      simp only [hE.run_zero, zeroCells_toList, hrun, Result.andThen_ok, Sem.run_pure]
  · rename_i ety het
    rcases sliceOf_rel hxr hso with ⟨_, _, rfl⟩ | ⟨p', bb, off, c, h1, _⟩
    · simp only [Option.some.injEq, Prod.mk.injEq] at hc
      obtain ⟨rfl, rfl⟩ := hc
      refine ⟨.tuple #[], w, ?_, ⟨#[], rfl, trivial⟩, Good.refl h⟩
      simp [Builtin.clear_, ht0, hT.run_under, hu]
    · cases h1

theorem mapEs_rel (h : Inv cx B β st w) {m : V} {m' : Value} (hm : VRel β m m') {es : List (C × A × Nat)} {clock : Nat} (he : mapEs st m = some (es, clock)) :
    (m' = .map none ∧ es = []) ∨ ∃ id b e es', m = .a (.c (.mp id)) ∧ β id = some (b, e) ∧ m' = .map (some b) ∧ st.heap.get id = some (.map es clock) ∧ w.heap[b]? = some (.map es' clock) ∧ All2 (ERel β) es es'.toList := by
  unfold mapEs at he
  split at he
  · rename_i id
    simp only [St.get] at he
    split at he
    · rename_i es1 c1 hg
      simp only [Option.some.injEq, Prod.mk.injEq] at he
      obtain ⟨rfl, rfl⟩ := he
      obtain ⟨b, e, hb, rfl⟩ := hm
      obtain ⟨b', e', ob, hb', hh, es', rfl, hr⟩ := h.live id _ hg
      rw [hb] at hb'; cases hb'
      exact .inr ⟨id, b, e, es', rfl, hb, rfl, hg, hh, hr⟩
    · cases he
  · simp only [Option.some.injEq, Prod.mk.injEq] at he
    obtain ⟨rfl, rfl⟩ := he
    exact .inl ⟨hm, rfl⟩
  · cases he

theorem run_len (hx : CxOk cx P) {t : TypeId} {ts : Array TypeId} {ty : TypeId} {x : V} {x' : Value} (hxr : VRel β x x') (h : Inv cx B β st w) (ht0 : ts[0]? = some t) {v : V} (hc : lenOp cx t x st = some v) :
    ∃ v', (Builtin.len_ ts ty #[x']).run P w = .ok v' w ∧ VRel β v v' := by
  unfold lenOp at hc
  split at hc
  case h_2 => cases hc
  rename_i tty htt
  obtain ⟨i, z, hT⟩ := hx.is htt
  split at hc
  · rename_i hu
    split at hc
    · rename_i s
      have hx' : x' = .string s := hxr
      subst hx'
      simp only [Option.some.injEq] at hc; subst hc
      exact ⟨.int .i64 s.size, by simp [Builtin.len_, ht0, hT.run_under, hu, goInt], rfl⟩
    · obtain ⟨s, hx', hs⟩ := hxr
      subst hx'
      simp only [Option.some.injEq] at hc; subst hc
      exact ⟨.int .i64 s.size, by simp [Builtin.len_, ht0, hT.run_under, hu, goInt], by show Value.int _ _ = _; rw [hs]⟩
    · obtain ⟨l, hx', hl, _⟩ := hxr
      subst hx'
      simp only [Option.some.injEq] at hc; subst hc
      have hsz : (⟨l.toArray⟩ : ByteArray).size = l.length := rfl
      exact ⟨.int .i64 (⟨l.toArray⟩ : ByteArray).size, by simp [Builtin.len_, ht0, hT.run_under, hu, goInt], by show Value.int _ _ = _; rw [hsz, hl]⟩
    · obtain ⟨l, hx', hl, _⟩ := hxr
      subst hx'
      simp only [Option.some.injEq] at hc; subst hc
      have hsz : (⟨l.toArray⟩ : ByteArray).size = l.length := rfl
      exact ⟨.int .i64 (⟨l.toArray⟩ : ByteArray).size, by simp [Builtin.len_, ht0, hT.run_under, hu, goInt], by show Value.int _ _ = Value.int _ _; rw [hsz, hl]⟩
    · obtain ⟨rfl, hl⟩ := hxr
      simp only [Option.some.injEq] at hc; subst hc
      exact ⟨_, by simp [Builtin.len_, ht0, hT.run_under, hu, goInt]; rfl, by show Value.int _ _ = Value.int _ _; rw [hl]⟩
    · cases hc
  · rename_i n e hu
    simp only [Option.some.injEq] at hc; subst hc
    exact ⟨.int .i64 n, by simp [Builtin.len_, ht0, hT.run_under, hu, goInt], rfl⟩
  · rename_i e hu
    split at hc
    · rename_i ety het
      obtain ⟨i', z', hE⟩ := hx.is het
      split at hc
      · rename_i n e' hu'
        simp only [Option.some.injEq] at hc; subst hc
        exact ⟨.int .i64 n, by simp [Builtin.len_, ht0, hT.run_under, hu, hE.run_under, hu', goInt], rfl⟩
      · cases hc
    · cases hc
  · rename_i e hu
    split at hc
    · obtain ⟨a, n, c, hx', hs⟩ := hxr
      subst hx'
      simp only [Option.some.injEq] at hc; subst hc
      exact ⟨.int .i64 n, by simp [Builtin.len_, ht0, hT.run_under, hu, goInt], by show Value.int _ _ = _; rw [hs]⟩
    · obtain ⟨a, n, c, hx', _, hs, _⟩ := hxr
      subst hx'
      simp only [Option.some.injEq] at hc; subst hc
      exact ⟨.int .i64 n, by simp [Builtin.len_, ht0, hT.run_under, hu, goInt], by show Value.int _ _ = _; rw [hs]⟩
    simp only [Option.map_eq_some_iff] at hc
    obtain ⟨⟨a, n⟩, hs, rfl⟩ := hc
    rcases sliceRd_rel hxr hs with ⟨_, _, rfl⟩ | ⟨p, b, off, c, _, _, rfl⟩
    · exact ⟨.int .i64 n, by simp [Builtin.len_, ht0, hT.run_under, hu, goInt], rfl⟩
    · exact ⟨.int .i64 n, by simp [Builtin.len_, ht0, hT.run_under, hu, goInt], rfl⟩
  · rename_i k e hu
    simp only [Option.map_eq_some_iff] at hc
    obtain ⟨⟨es, clock⟩, hs, rfl⟩ := hc
    rcases mapEs_rel h hxr hs with ⟨rfl, rfl⟩ | ⟨id, b, e', es', _, _, rfl, _, hh, hr⟩
    · exact ⟨.int .i64 0, by simp [Builtin.len_, ht0, hT.run_under, hu, goInt], rfl⟩
    · refine ⟨.int .i64 es'.size, ?_, ?_⟩
      · simp [Builtin.len_, ht0, hT.run_under, hu, getObj, Sem.run, hh, goInt]
      · show _ = _
        rw [hr.length]; simp
  · cases hc

theorem run_cap (hx : CxOk cx P) {t : TypeId} {ts : Array TypeId} {ty : TypeId} {x : V} {x' : Value} (hxr : VRel β x x') (ht0 : ts[0]? = some t) {v : V} (hc : capOp cx t x = some v) (w : World) :
    ∃ v', (Builtin.cap_ ts ty #[x']).run P w = .ok v' w ∧ VRel β v v' := by
  unfold capOp at hc
  split at hc
  case h_2 => cases hc
  rename_i tty htt
  obtain ⟨i, z, hT⟩ := hx.is htt
  split at hc
  case h_2 => cases hc
  rename_i e hu
  split at hc
  case h_2 => cases hc
  rename_i a n c hs
  simp only [Option.some.injEq] at hc; subst hc
  rcases sliceOf_rel hxr hs with ⟨_, _, rfl⟩ | ⟨p, b, off, c', _, _, rfl, _, hf, _⟩
  · exact ⟨.int .i64 c, by simp [Builtin.cap_, ht0, hT.run_under, hu, goInt], rfl⟩
  · rw [hf rfl]
    exact ⟨.int .i64 c, by simp [Builtin.cap_, ht0, hT.run_under, hu, goInt], rfl⟩

/-- A run that asks the program alone. -/
theorem pureSem_zero {α : Type} {p : Program} {e : Sem α} {a : α} (h : pureSem p 0 e = some a) : e = .pure a := by
  cases e <;> simp_all [pureSem]

theorem max2_rel {x y v : V} {x' y' : Value} (hx : VRel β x x') (hy : VRel β y y') (h : max2 x y = some v) (w : World) : ∃ v', (Builtin.max2 x' y').run P w = .ok v' w ∧ VRel β v v' := by
  unfold max2 at h
  split at h
  · have e1 : x' = _ := hx
    have e2 : y' = _ := hy
    subst e1 e2
    simp only [Option.some.injEq] at h; subst h
    exact ⟨_, rfl, rfl⟩
  · have e1 : x' = _ := hx
    have e2 : y' = _ := hy
    subst e1 e2
    simp only [Option.some.injEq] at h; subst h
    exact ⟨_, rfl, rfl⟩
  · have e1 : x' = _ := hx
    have e2 : y' = _ := hy
    subst e1 e2
    simp only [Option.some.injEq] at h; subst h
    exact ⟨_, rfl, rfl⟩
  · have e1 : x' = _ := hx
    have e2 : y' = _ := hy
    subst e1 e2
    simp only [Option.some.injEq] at h; subst h
    exact ⟨_, rfl, rfl⟩
  · cases h

theorem min2_rel {x y v : V} {x' y' : Value} (hx : VRel β x x') (hy : VRel β y y') (h : min2 x y = some v) (w : World) : ∃ v', (Builtin.min2 x' y').run P w = .ok v' w ∧ VRel β v v' := by
  unfold min2 at h
  split at h
  · have e1 : x' = _ := hx
    have e2 : y' = _ := hy
    subst e1 e2
    simp only [Option.some.injEq] at h; subst h
    exact ⟨_, rfl, rfl⟩
  · have e1 : x' = _ := hx
    have e2 : y' = _ := hy
    subst e1 e2
    simp only [Option.some.injEq] at h; subst h
    exact ⟨_, rfl, rfl⟩
  · have e1 : x' = _ := hx
    have e2 : y' = _ := hy
    subst e1 e2
    simp only [Option.some.injEq] at h; subst h
    exact ⟨_, rfl, rfl⟩
  · have e1 : x' = _ := hx
    have e2 : y' = _ := hy
    subst e1 e2
    simp only [Option.some.injEq] at h; subst h
    exact ⟨_, rfl, rfl⟩
  · cases h

theorem fold2_rel {f : V → V → Option V} {g : Value → Value → Sem Value} (hfg : ∀ x y v x' y', VRel β x x' → VRel β y y' → f x y = some v → ∀ w, ∃ v', (g x' y').run P w = .ok v' w ∧ VRel β v v') :
    ∀ {l : List V} {l' : List Value} {x v : V} {x' : Value}, All2 (VRel β) l l' → VRel β x x' → fold2 f l x = some v → ∀ w, ∃ v', (l'.foldlM g x').run P w = .ok v' w ∧ VRel β v v'
  | [], [], x, v, x', _, hx, h, w => by simp only [fold2, Option.some.injEq] at h; subst h; exact ⟨x', by simp, hx⟩
  | [], _ :: _, _, _, _, h, _, _, _ => h.elim
  | _ :: _, [], _, _, _, h, _, _, _ => h.elim
  | y :: l, y' :: l', x, v, x', hl, hx, h, w => by
    simp only [fold2] at h
    split at h
    · rename_i u hu
      obtain ⟨u', hu', hr⟩ := hfg x y u x' y' hx hl.1 hu w
      obtain ⟨v', hv', hr'⟩ := fold2_rel hfg hl.2 hr h w
      exact ⟨v', by simp [hu', hv'], hr'⟩
    · cases h
end Go.Am
