/- The abstract machine: append, copy, clear, len, cap as the model runs them. -/
import Derived.Test.YtbfonnoebbjenaaGreatDoorAmI
import Derived.Laws.AppendOwn
namespace Go.Am
open Go

variable {cx : Cx} {P : Program} {B fl : Nat} {β : Be} {st : St} {w : World}

/-- what the abstract machine asks ahead of an append -/
theorem append_need {need bytes : Nat} (h : Nat.ble ((2 * need + 1024) * (bytes + 1)) 70000000000000 = true) : need * bytes ≤ 140737488355328 ∧ need ≤ 70000000000000 := by
  have h1 := Nat.le_of_ble_eq_true h
  have h2 : (2 * need + 1024) * (bytes + 1) = 2 * (need * bytes) + 2 * need + 1024 * bytes + 1024 := by
    rw [Nat.add_mul, Nat.mul_add, Nat.mul_add, Nat.mul_assoc]; omega
  rw [h2] at h1
  exact ⟨by omega, by omega⟩

section
variable {t u ty e : TypeId} {i : TypeInfo} {z : Value} {d : TypeDesc}

/-- append within the capacity -/
theorem run_append_in (ht : P.underlying t = some (.slice e)) (hu : P.underlying u = some d) (hd : srcKind d = true) (hi : P.info? e = some i) (w : World) (base : Option Addr) (sLen sCap n : Nat) (x' : Value) (news : List Value)
    (hl : (Builtin.lenOf x').run P w = .ok n w) (hf : (Builtin.firstCells i.size n x').run P w = .ok news.toArray w) (hroom : sLen + n ≤ sCap) {w' : World}
    (hs : match base with | some a => (storeCells (a.add (sLen * i.size)) news).run P w = .ok () w' | none => w' = w) :
    (Builtin.append_ #[t, u] ty #[.slice base sLen sCap, x']).run P w = .ok (.slice base (sLen + n) sCap) w' := by
  have hd2 : (∃ q, d = .slice q) ∨ d = .string := by cases d <;> simp_all [srcKind]
  cases base with
  | none =>
    simp only at hs; subst hs
    rcases hd2 with ⟨q, rfl⟩ | rfl <;> simp [Builtin.append_, run_underlying ht, run_underlying hu, sizeOf, typeInfo, hi, hl, hroom, hf]
  | some a =>
    simp only at hs
    rcases hd2 with ⟨q, rfl⟩ | rfl <;> simp [Builtin.append_, run_underlying ht, run_underlying hu, sizeOf, typeInfo, hi, hl, hroom, hf, hs]

/-- append beyond the capacity -/
theorem run_append_out (ht : P.underlying t = some (.slice e)) (hu : P.underlying u = some d) (hd : srcKind d = true) (hi : P.info? e = some i) (hz : i.zero = some z) (w : World) (base : Option Addr) (sLen sCap n : Nat) (x' : Value) (olds news : List Value)
    (hl : (Builtin.lenOf x').run P w = .ok n w) (hf : (Builtin.firstCells i.size n x').run P w.drew = .ok news.toArray w.drew) (hfo : (Builtin.firstCells i.size sLen (.slice base sLen sCap)).run P w.drew = .ok olds.toArray w.drew) (hg : sCap < sLen + n)
    (h63 : sLen + n ≤ 70000000000000) (hfit : (sLen + n) * i.bytes ≤ 140737488355328) :
    ∃ cap, sLen + n ≤ cap ∧ (Builtin.append_ #[t, u] ty #[.slice base sLen sCap, x']).run P w =
      .ok (.slice (some ⟨w.heap.size, 0, none⟩) (sLen + n) cap) (w.drew.alloc (.cells (olds ++ news ++ (Builtin.zeroCells z.cells (cap - (sLen + n))).toList).toArray e)) := by
  have hd2 : (∃ q, d = .slice q) ∨ d = .string := by cases d <;> simp_all [srcKind]
  refine ⟨grownCap w (sLen + n) sCap e, grownCap_ge w _ _ e, ?_⟩
  have hn : ¬ (sLen + n ≤ sCap) := by omega
  have h63' : ¬ (9223372036854775807 < ((sLen : Int) + (n : Int))) := by omega
  have h48 := growslice_fits hg hfit
  have h48' : ¬ (281474976710656 < Builtin.nextslicecap (sLen + n) sCap * i.bytes) := by omega
  have hfin : ∀ a : Array Value, olds.toArray ++ (news.toArray ++ a) = (olds ++ (news ++ a.toList)).toArray := fun a => by
    apply Array.toList_inj.1; simp
  rcases hd2 with ⟨q, rfl⟩ | rfl <;>
    simp [Builtin.append_, run_underlying ht, run_underlying hu, sizeOf, typeInfo, zeroValue, hi, hz, hl, hn, h63', h48', Question.forced, hf, hfo, newRow, grownCap, hfin]
end

theorem zeroCells_toList (z : Array Value) (n : Nat) : (Builtin.zeroCells z n).toList = repV n z.toList := made_cells z n

theorem All2.rep_zero {t : TypeId} {ty : Ty} {i : TypeInfo} {z : Value} (h : TyIs P t ty i z) (n : Nat) : ScalL (repV n z.cells.toList) ∧ (repV n z.cells.toList).length = n * ty.size := by
  obtain ⟨z1, z2⟩ := zeroC_rel (β := ⟨fun _ => none, ⟨fun _ => 0, fun _ _ => 0, fun _ => (0, 0), fun _ _ => none⟩⟩) h
  refine ⟨(rep_rel z1 z2 n).2, ?_⟩
  rw [repV_length, h.cells, h.len]

theorem run_append (hx : CxOk cx P) {t u ty : TypeId} {s x : V} {s' x' : Value} (hs : VRel β s s') (hxr : VRel β x x') (h : Inv cx B β st w) (hfl : fl ≤ st.next) {v : V} {st' : St}
    (ha : appendOp cx fl t ty u s x st = some (v, st')) :
    ∃ v' β' w', (Builtin.append_ #[t, u] ty #[s', x']).run P w = .ok v' w' ∧ VRel β' v v' ∧ Good cx B fl β st w β' st' w' := by
  unfold appendOp at ha
  simp only at ha
  split at ha
  case h_2 => cases ha
  rename_i sty xty b len cap fx n hst hxt hso hln
  obtain ⟨i1, z1, hT⟩ := hx.is hst
  obtain ⟨i2, z2, hU⟩ := hx.is hxt
  have hl := lenOf_rel (P := P) hxr hln
  cases hd : srcKind xty.under with
  | false => rw [hd] at ha; simp at ha
  | true =>
  rw [hd] at ha
  simp only [Bool.not_true, cond_false] at ha
  split at ha
  case h_2 => cases ha
  rename_i e hsu
  have ht : P.underlying t = some (.slice e) := by rw [hT.under, hsu]
  split at ha
  case h_2 => cases ha
  rename_i ety het
  obtain ⟨i, z, hE⟩ := hx.is het
  cases hbd : (Nat.beq ety.size 0 || !(Nat.ble ((2 * (len + n) + 1024) * (ety.bytes + 1)) 70000000000000)) with
  | true => rw [hbd] at ha; simp at ha
  | false =>
  rw [hbd] at ha
  simp only [cond_false] at ha
  simp only [Bool.or_eq_false_iff, Bool.not_eq_false'] at hbd
  have hs0 : ety.size ≠ 0 := fun e => by rw [e] at hbd; simp at hbd
  obtain ⟨hn1, hn2⟩ := append_need hbd.2
  rw [← hE.bytes] at hn1
  split at ha
  case h_2 => cases ha
  rename_i new hnew
  obtain ⟨vs, hvs, hva, hvsc, hvl⟩ := srcCells_rel (P := P) h hxr hnew
  have hsize : i.size = ety.size := hE.size
  cases hroom : Nat.ble (len + n) cap with
  | true =>
    have hr := Nat.le_of_ble_eq_true hroom
    rw [hroom] at ha
    simp only [cond_true] at ha
    cases hn0 : Nat.beq n 0 with
    | true =>
      have h0 := Nat.eq_of_beq_eq_true hn0
      rw [hn0] at ha
      simp only [cond_true, Option.map_eq_some_iff, Prod.mk.injEq] at ha
      obtain ⟨v1, hv1, rfl, rfl⟩ := ha
      have hnil : vs = [] := by
        apply List.eq_nil_of_length_eq_zero
        rw [← hva.length, hvl, h0]; simp
      rcases sliceOf_rel hs hso with ⟨rfl, rfl, rfl⟩ | ⟨p, bb, off, c, rfl, hp, rfl, hcc, hf1, hf2⟩
      · simp only [mkSlice, Option.some.injEq] at hv1; subst hv1
        refine ⟨_, β, w, run_append_in ht hU.under hd hE.info w none len cap n x' vs (hl w) (by rw [hsize]; exact hvs w rfl) hr rfl, rfl, Good.refl h⟩
      · refine ⟨_, β, w, run_append_in ht hU.under hd hE.info w (some ⟨bb, off, none⟩) len c n x' vs (hl w) (by rw [hsize]; exact hvs w rfl) (by omega) ?_, mkSlice_rel hp hf1 (fun hf => ?_) hv1, Good.refl h⟩
        · rw [hnil]; rfl
        · obtain ⟨id, ex, _, e2, e3, e4⟩ := hf2 hf; exact ⟨id, ex, e2, e3, e4⟩
    | false =>
      rw [hn0] at ha
      simp only [cond_false] at ha
      split at ha
      case h_2 => cases ha
      rename_i p
      split at ha
      case h_2 => cases ha
      rename_i p' hp'
      split at ha
      case h_2 => cases ha
      rename_i h1 v1 hst1 hv1
      simp only [Option.some.injEq, Prod.mk.injEq] at ha
      obtain ⟨rfl, rfl⟩ := ha
      rcases sliceOf_rel hs hso with ⟨h1', _⟩ | ⟨p0, bb, off, c, hpe, hp, rfl, hcc, hf1, hf2⟩
      · cases h1'
      · cases hpe
        obtain ⟨b1, o1, heq, hr1⟩ := behind_rel hp hp'
        simp only [adr, Value.pointer.injEq, Option.some.injEq, Addr.mk.injEq, and_true] at heq
        obtain ⟨rfl, rfl⟩ := heq
        obtain ⟨b2, o2, w', heq, hrun, hg⟩ := storeN_rel (P := P) h hr1 hst1 hva hvsc
        simp only [adr, Value.pointer.injEq, Option.some.injEq, Addr.mk.injEq, and_true] at heq
        obtain ⟨rfl, rfl⟩ := heq
        refine ⟨_, β, w', run_append_in ht hU.under hd hE.info w (some ⟨bb, off, none⟩) len c n x' vs (hl w) (by rw [hsize]; exact hvs w rfl) (by omega) ?_, mkSlice_rel hp hf1 (fun hf => ?_) hv1, hg⟩
        · simp only [hsize, add_adr]; exact hrun
        · obtain ⟨id, ex, _, e2, e3, e4⟩ := hf2 hf; exact ⟨id, ex, e2, e3, e4⟩
  | false =>
    have hr : cap < len + n := by
      rcases Nat.lt_or_ge cap (len + n) with h | h
      · exact h
      · have := Nat.ble_eq_true_of_le h; rw [this] at hroom; cases hroom
    have hn0 : n ≠ 0 ∨ True := .inr trivial
    rw [hroom] at ha
    simp only [cond_false] at ha
    -- the new block's cells
    have newblock : ∀ (old : List C) (olds : List Value) (capr δ : Nat), All2 (CRel β) old olds → ScalL olds → capr = len + n + δ → ∀ {β' : Be}, Ext β β' →
        ORel cx β' δ (.cells (old ++ new) e true) (.cells (olds ++ vs ++ (Builtin.zeroCells z.cells (capr - (len + n))).toList).toArray e) := fun old olds capr δ ho hos hc {β'} hext => by
      obtain ⟨r1, r2⟩ := All2.rep_zero hE δ
      have hcd : capr - (len + n) = δ := by omega
      refine ⟨_, olds ++ vs, repV δ z.cells.toList, rfl, ?_, ?_, ?_, (fun hf => by cases hf), fun _ => ⟨ety, het, r2⟩⟩
      · simp only [hcd, zeroCells_toList]
      · exact (ho.mono fun _ _ => CRel.mono hext).append (hva.mono fun _ _ => CRel.mono hext)
      · intro y hy
        simp only [hcd, zeroCells_toList] at hy
        rcases List.mem_append.1 hy with hy | hy
        · rcases List.mem_append.1 hy with hy | hy
          · exact hos y hy
          · exact hvsc y hy
        · exact r1 y hy
    cases fx with
    | false =>
      simp only [cond_false] at ha
      split at ha
      case h_2 => cases ha
      rename_i old hold
      simp only [Option.some.injEq, Prod.mk.injEq] at ha
      obtain ⟨rfl, rfl⟩ := ha
      obtain ⟨olds, hos, hoa, hosc, _⟩ := srcCells_rel (P := P) h hs hold
      have hform : ∃ base, s' = .slice base len cap := by
        rcases sliceOf_rel hs hso with ⟨rfl, _, rfl⟩ | ⟨p, bb, off, c, rfl, hp, rfl, hcc, hf1, hf2⟩
        · exact ⟨none, rfl⟩
        · exact ⟨_, by rw [hf1 rfl]⟩
      obtain ⟨base, rfl⟩ := hform
      obtain ⟨capr, hge, hrun⟩ := run_append_out (ty := ty) ht hU.under hd hE.info hE.zero w base len cap n x' olds vs (hl w) (by rw [hsize]; exact hvs w.drew rfl) (by rw [hsize]; exact hos w.drew rfl) hr hn2 hn1
      refine ⟨_, upd β st.next (w.heap.size, capr - (len + n)), _, hrun, ⟨w.heap.size, capr - (len + n), upd_self _ _ _, ?_⟩, Good.alloc h hfl (newblock old olds capr _ hoa hosc (by omega) (ext_upd h _)) rfl rfl rfl rfl⟩
      simp only [cond_true]
      congr 1; omega
    | true =>
      simp only [cond_true] at ha
      split at ha
      case h_2 => cases ha
      rename_i id
      cases hfid : Nat.ble fl id with
      | false => rw [hfid] at ha; simp at ha
      | true =>
      rw [hfid] at ha
      simp only [cond_true] at ha
      split at ha
      case h_2 => cases ha
      rename_i l e' hg
      cases hlen : (Nat.beq l.length (cap * ety.size) && Nat.beq e' e && Nat.ble len cap) with
      | false => rw [hlen] at ha; simp at ha
      | true =>
      rw [hlen] at ha
      simp only [cond_true, Option.some.injEq, Prod.mk.injEq] at ha
      obtain ⟨rfl, rfl⟩ := ha
      simp only [Bool.and_eq_true] at hlen
      have hll := Nat.eq_of_beq_eq_true hlen.1.1
      have hee := Nat.eq_of_beq_eq_true hlen.1.2
      have hlc := Nat.le_of_ble_eq_true hlen.2
      subst hee
      rcases sliceOf_rel hs hso with ⟨h1', _⟩ | ⟨p0, bb, off, c, hpe, hp, rfl, hcc, hf1, hf2⟩
      · cases h1'
      cases hpe
      obtain ⟨id', ex, hse, hpe, hbe, rfl⟩ := hf2 rfl
      simp only [C.ptr.injEq] at hpe
      obtain ⟨rfl, rfl⟩ := hpe
      obtain ⟨b', ex', ob, hb', hh, cur, pre, rest, rfl, hcur, hrel, hsl, _, hfxx⟩ := h.live id _ hg
      rw [hbe] at hb'; cases hb'
      obtain ⟨ety', het', hrest⟩ := hfxx rfl
      rw [het] at het'; cases het'
      have hpl : pre.length = cap * ety.size := by rw [← hrel.length]; exact hll
      have hlen2 : (pre.take (len * ety.size)).length = len * ety.size := by
        rw [List.length_take, hpl]; exact Nat.min_eq_left (Nat.mul_le_mul_right _ hlc)
      have holds : ∀ w2 : World, w2.heap = w.heap → ∀ cc, (Builtin.firstCells i.size len (.slice (some ⟨bb, 0, none⟩) len cc)).run P w2 = .ok (pre.take (len * ety.size)).toArray w2 := fun w2 hw2 cc => by
        have := run_loadCells_list (P := P) w2 ⟨bb, 0, none⟩ (pre.take (len * ety.size)) (fun j x hj => by
          rw [add_adr, cell_heap hw2]
          have hlt := (List.getElem?_eq_some_iff.1 hj).1
          rw [hlen2] at hlt
          rw [List.getElem?_take, if_pos hlt] at hj
          have hj2 := (List.getElem?_eq_some_iff.1 hj).1
          simp only [World.cell?, hh, Option.isSome, Bool.false_eq_true, if_false, Nat.zero_add]
          rw [← Array.getElem?_toList, hcur, List.getElem?_append_left hj2]
          exact hj)
        rw [hlen2] at this
        simp [Builtin.firstCells, hsize, this]
      have hcurlen : cur.size = (cap + ex) * ety.size := by rw [← Array.length_toList, hcur, List.length_append, hpl, hrest, Nat.add_mul]
      by_cases hin : len + n ≤ cap + ex
      · -- within the real capacity
        have hvl2 : vs.length = n * ety.size := by
          rw [← hva.length]; exact hvl
        have hfit : 0 + len * ety.size + 0 + vs.length ≤ cur.size := by
          rw [hcurlen, hvl2]
          have := Nat.mul_le_mul_right ety.size hin
          rw [Nat.add_mul] at this
          omega
        have hrun := run_storeCells_at P bb (0 + len * ety.size) e' vs 0 cur w hh hfit (fun v hv => scal_oneCell (hvsc v hv))
        refine ⟨_, upd β st.next (bb, cap + ex - (len + n)), _, run_append_in ht hU.under hd hE.info w (some ⟨bb, 0, none⟩) len (cap + ex) n x' vs (hl w) (by rw [hsize]; exact hvs w rfl) hin (by simp only [hsize, add_adr]; exact hrun), ⟨bb, _, upd_self _ _ _, ?_⟩,
          Good.consume h hfl (Nat.le_of_ble_eq_true hfid) hg hbe ?_ (chg_setRow hh)⟩
        · simp only [cond_true]; congr 1; omega
        · have hext := ext_upd h (bb, cap + ex - (len + n))
          have hcut : cur.toList.take (0 + len * ety.size + 0) ++ vs ++ cur.toList.drop (0 + len * ety.size + 0 + vs.length) = (pre.take (len * ety.size) ++ vs) ++ (cur.toList.drop ((len + n) * ety.size)) := by
            have e1 : 0 + len * ety.size + 0 = len * ety.size := by omega
            rw [e1, hvl2, ← Nat.add_mul, hcur, List.take_append_of_le_length (by rw [hpl]; exact Nat.mul_le_mul_right _ hlc)]
          refine ⟨_, pre.take (len * ety.size) ++ vs, cur.toList.drop ((len + n) * ety.size), rfl, by simpa using hcut, ?_, ?_, (fun hf => by cases hf), fun _ => ⟨ety, het, ?_⟩⟩
          · exact ((hrel.take _).mono fun _ _ => CRel.mono hext).append (hva.mono fun _ _ => CRel.mono hext)
          · intro y hy
            rw [hcut] at hy
            rcases List.mem_append.1 hy with hy | hy
            · rcases List.mem_append.1 hy with hy | hy
              · exact hsl y (by rw [hcur]; exact List.mem_append.2 (.inl (List.mem_of_mem_take hy)))
              · exact hvsc y hy
            · exact hsl y (List.mem_of_mem_drop hy)
          · rw [List.length_drop, Array.length_toList, hcurlen, ← Nat.mul_sub_right_distrib]
      · -- beyond it
        have hout : cap + ex < len + n := by omega
        obtain ⟨capr, hge, hrun⟩ := run_append_out (ty := ty) ht hU.under hd hE.info hE.zero w (some ⟨bb, 0, none⟩) len (cap + ex) n x' (pre.take (len * ety.size)) vs (hl w) (by rw [hsize]; exact hvs w.drew rfl) (holds w.drew rfl _) hout hn2 hn1
        have hosc : ScalL (pre.take (len * ety.size)) := fun y hy => hsl y (by rw [hcur]; exact List.mem_append.2 (.inl (List.mem_of_mem_take hy)))
        have hg1 : Good cx B fl β st w (upd β st.next (w.heap.size, capr - (len + n))) (st.new (.cells (l.take (len * ety.size) ++ new) e' true)) _ := Good.alloc (w' := w.drew.alloc (.cells (pre.take (len * ety.size) ++ vs ++ (Builtin.zeroCells z.cells (capr - (len + n))).toList).toArray e')) h hfl (newblock _ _ capr _ (hrel.take _) hosc (by omega) (ext_upd h _)) rfl rfl rfl rfl
        have hlt := get_lt h hg
        have hg' : (st.new (.cells (l.take (len * ety.size) ++ new) e' true)).heap.get id = some (.cells l e' true) := by
          simp only [St.new]; rw [T.get_set_other _ _ (by omega)]; exact hg
        have hb2 : upd β st.next (w.heap.size, capr - (len + n)) id = some (bb, ex) := by simp only [upd_at]; rw [if_neg (by omega)]; exact hbe
        obtain ⟨_, _, ob2, hb3, hh3, _⟩ := hg1.inv.live id _ hg'
        rw [hb2] at hb3; cases hb3
        have hg2 := Good.drop (fl := fl) hg1.inv (Nat.le_of_ble_eq_true hfid) hg' hb2 (w' := w.drew.alloc (.cells (pre.take (len * ety.size) ++ vs ++ (Builtin.zeroCells z.cells (capr - (len + n))).toList).toArray e')) (ob := ob2) ⟨rfl, rfl, rfl, rfl, hh3, fun _ _ => rfl⟩
        refine ⟨_, _, _, hrun, ⟨w.heap.size, capr - (len + n), upd_self _ _ _, ?_⟩, hg1.trans hg2⟩
        simp only [cond_true]
        congr 1; omega
end Go.Am
