/- The abstract machine: append, copy, clear, len, cap as the model runs them. The abstract machine: copy, clear, len, cap; arithmetic and comparisons. The abstract machine: comparisons and arithmetic as the model runs them. The abstract machine: operators and conversions as the model runs them. -/
import Derived.Test.YthlmjjdlmidnlaaGreatDoorAmI
import Derived.Laws.AppendOwn
import Derived.Laws.StructEq
import Derived.Lib.Builder
namespace Go.Am
open Go

variable {cx : Cx} {P : Program} {B fl : Nat} {β : Be} {st : St} {w : World}

/-- what the abstract machine asks ahead of an append -/
theorem append_need {need bytes : Nat} (h : Nat.ble ((2 * need + 1024) * (bytes + 1)) 70000000000000 = true) : need * bytes ≤ 140737488355328 ∧ need ≤ 70000000000000 := by
  have h1 := Nat.le_of_ble_eq_true h
  have h2 : (2 * need + 1024) * (bytes + 1) = 2 * (need * bytes) + 2 * need + 1024 * bytes + 1024 := by
    rw [Nat.add_mul, Nat.mul_add, Nat.mul_add, Nat.mul_assoc]; omega
  rw [h2] at h1
  exact ⟨by omega, by omega⟩

section
variable {t u ty e : TypeId} {i : TypeInfo} {z : Value} {d : TypeDesc}

/-- append within the capacity -/
theorem run_append_in (ht : P.underlying t = some (.slice e)) (hu : P.underlying u = some d) (hd : srcKind d = true) (hi : P.info? e = some i) (w : World) (base : Option Addr) (sLen sCap n : Nat) (x' : Value) (news : List Value)
    (hl : (Builtin.lenOf x').run P w = .ok n w) (hf : (Builtin.firstCells i.size n x').run P w = .ok news.toArray w) (hroom : sLen + n ≤ sCap) {w' : World}
    (hs : match base with | some a => (storeCells (a.add (sLen * i.size)) news).run P w = .ok () w' | none => w' = w) :
    (Builtin.append_ #[t, u] ty #[.slice base sLen sCap, x']).run P w = .ok (.slice base (sLen + n) sCap) w' := by
  have hd2 : (∃ q, d = .slice q) ∨ d = .string := by cases d <;> simp_all [srcKind]
  cases base with
  | none =>
    simp only at hs; subst hs
    rcases hd2 with ⟨q, rfl⟩ | rfl <;> simp [Builtin.append_, run_underlying ht, run_underlying hu, sizeOf, typeInfo, hi, hl, hroom, hf]
  | some a =>
    simp only at hs
    rcases hd2 with ⟨q, rfl⟩ | rfl <;> simp [Builtin.append_, run_underlying ht, run_underlying hu, sizeOf, typeInfo, hi, hl, hroom, hf, hs]

/-- append beyond the capacity -/
theorem run_append_out (ht : P.underlying t = some (.slice e)) (hu : P.underlying u = some d) (hd : srcKind d = true) (hi : P.info? e = some i) (hz : i.zero = some z) (w : World) (base : Option Addr) (sLen sCap n : Nat) (x' : Value) (olds news : List Value)
    (hl : (Builtin.lenOf x').run P w = .ok n w) (hf : (Builtin.firstCells i.size n x').run P w.drew = .ok news.toArray w.drew) (hfo : (Builtin.firstCells i.size sLen (.slice base sLen sCap)).run P w.drew = .ok olds.toArray w.drew) (hg : sCap < sLen + n)
    (h63 : sLen + n ≤ 70000000000000) (hfit : (sLen + n) * i.bytes ≤ 140737488355328) :
    ∃ cap, sLen + n ≤ cap ∧ (Builtin.append_ #[t, u] ty #[.slice base sLen sCap, x']).run P w =
      .ok (.slice (some ⟨w.heap.size, 0, none⟩) (sLen + n) cap) (w.drew.alloc (.cells (olds ++ news ++ (Builtin.zeroCells z.cells (cap - (sLen + n))).toList).toArray e)) := by
  have hd2 : (∃ q, d = .slice q) ∨ d = .string := by cases d <;> simp_all [srcKind]
  refine ⟨grownCap w (sLen + n) sCap e, grownCap_ge w _ _ e, ?_⟩
  have hn : ¬ (sLen + n ≤ sCap) := by omega
  have h63' : ¬ (9223372036854775807 < ((sLen : Int) + (n : Int))) := by omega
  have h48 := growslice_fits hg hfit
  have h48' : ¬ (281474976710656 < Builtin.nextslicecap (sLen + n) sCap * i.bytes) := by omega
  have hfin : ∀ a : Array Value, olds.toArray ++ (news.toArray ++ a) = (olds ++ (news ++ a.toList)).toArray := fun a => by
    apply Array.toList_inj.1; simp
  rcases hd2 with ⟨q, rfl⟩ | rfl <;>
    simp [Builtin.append_, run_underlying ht, run_underlying hu, sizeOf, typeInfo, zeroValue, hi, hz, hl, hn, h63', h48', Question.forced, hf, hfo, newRow, grownCap, hfin]
end

theorem zeroCells_toList (z : Array Value) (n : Nat) : (Builtin.zeroCells z n).toList = repV n z.toList := made_cells z n

theorem All2.rep_zero {t : TypeId} {ty : Ty} {i : TypeInfo} {z : Value} (h : TyIs P t ty i z) (n : Nat) : ScalL (repV n z.cells.toList) ∧ (repV n z.cells.toList).length = n * ty.size := by
  obtain ⟨z1, z2⟩ := zeroC_rel (β := { m := fun _ => none, env := ⟨fun _ => 0, fun _ _ => 0, fun _ => (0, 0), fun _ _ => none⟩ }) h
  refine ⟨(rep_rel z1 z2 n).2, ?_⟩
  rw [repV_length, h.cells, h.len]

theorem run_append (hx : CxOk cx P) {t u ty : TypeId} {s x : V} {s' x' : Value} (hs : VRel β s s') (hxr : VRel β x x') (h : Inv cx B β st w) (hfl : fl ≤ st.next) {v : V} {st' : St}
    (ha : appendOp cx fl t ty u s x st = some (v, st')) :
    ∃ v' β' w', (Builtin.append_ #[t, u] ty #[s', x']).run P w = .ok v' w' ∧ VRel β' v v' ∧ Good cx B fl β st w β' st' w' := by
  unfold appendOp at ha
  simp only at ha
  split at ha
  case h_2 => cases ha
  rename_i sty xty b len cap fx n hst hxt hso hln
  obtain ⟨i1, z1, hT⟩ := hx.is hst
  obtain ⟨i2, z2, hU⟩ := hx.is hxt
  have hl := lenOf_rel (P := P) hxr hln
  cases hd : srcKind xty.under with
  | false => rw [hd] at ha; simp at ha
  | true =>
  rw [hd] at ha
  simp only [Bool.not_true, cond_false] at ha
  split at ha
  case h_2 => cases ha
  rename_i e hsu
  have ht : P.underlying t = some (.slice e) := by rw [hT.under, hsu]
  split at ha
  case h_2 => cases ha
  rename_i ety het
  obtain ⟨i, z, hE⟩ := hx.is het
  cases hbd : (Nat.beq ety.size 0 || !(Nat.ble ((2 * (len + n) + 1024) * (ety.bytes + 1)) 70000000000000)) with
  | true => rw [hbd] at ha; simp at ha
  | false =>
  rw [hbd] at ha
  simp only [cond_false] at ha
  simp only [Bool.or_eq_false_iff, Bool.not_eq_false'] at hbd
  have hs0 : ety.size ≠ 0 := fun e => by rw [e] at hbd; simp at hbd
  obtain ⟨hn1, hn2⟩ := append_need hbd.2
  rw [← hE.bytes] at hn1
  split at ha
  case h_2 => cases ha
  rename_i new hnew
  obtain ⟨vs, hvs, hva, hvsc, hvl⟩ := srcCells_rel (P := P) h hxr hnew
  have hsize : i.size = ety.size := hE.size
  cases hroom : Nat.ble (len + n) cap with
  | true =>
    have hr := Nat.le_of_ble_eq_true hroom
    rw [hroom] at ha
    simp only [cond_true] at ha
    cases hn0 : Nat.beq n 0 with
    | true =>
      have h0 := Nat.eq_of_beq_eq_true hn0
      rw [hn0] at ha
      simp only [cond_true, Option.map_eq_some_iff, Prod.mk.injEq] at ha
      obtain ⟨v1, hv1, rfl, rfl⟩ := ha
      have hnil : vs = [] := by
        apply List.eq_nil_of_length_eq_zero
        rw [← hva.length, hvl, h0]; simp
      rcases sliceOf_rel hs hso with ⟨rfl, rfl, rfl⟩ | ⟨p, bb, off, c, rfl, hp, rfl, hcc, hf1, hf2⟩
      · simp only [mkSlice, Option.some.injEq] at hv1; subst hv1
        refine ⟨_, β, w, run_append_in ht hU.under hd hE.info w none len cap n x' vs (hl w) (by rw [hsize]; exact hvs w rfl) hr rfl, rfl, Good.refl h⟩
      · refine ⟨_, β, w, run_append_in ht hU.under hd hE.info w (some ⟨bb, off, none⟩) len c n x' vs (hl w) (by rw [hsize]; exact hvs w rfl) (by omega) ?_, mkSlice_rel hp hf1 (fun hf => ?_) hv1, Good.refl h⟩
        · rw [hnil]; rfl
        · obtain ⟨id, ex, _, e2, e3, e4⟩ := hf2 hf; exact ⟨id, ex, e2, e3, e4⟩
    | false =>
      rw [hn0] at ha
      simp only [cond_false] at ha
      split at ha
      case h_2 => cases ha
      rename_i p
      split at ha
      case h_2 => cases ha
      rename_i p' hp'
      split at ha
      case h_2 => cases ha
      rename_i h1 v1 hst1 hv1
      simp only [Option.some.injEq, Prod.mk.injEq] at ha
      obtain ⟨rfl, rfl⟩ := ha
      rcases sliceOf_rel hs hso with ⟨h1', _⟩ | ⟨p0, bb, off, c, hpe, hp, rfl, hcc, hf1, hf2⟩
      · cases h1'
      · cases hpe
        obtain ⟨b1, o1, heq, hr1⟩ := behind_rel hp hp'
        simp only [adr, Value.pointer.injEq, Option.some.injEq, Addr.mk.injEq, and_true] at heq
        obtain ⟨rfl, rfl⟩ := heq
        obtain ⟨b2, o2, w', heq, hrun, hg⟩ := storeN_rel (P := P) h hr1 hst1 hva hvsc
        simp only [adr, Value.pointer.injEq, Option.some.injEq, Addr.mk.injEq, and_true] at heq
        obtain ⟨rfl, rfl⟩ := heq
        refine ⟨_, β, w', run_append_in ht hU.under hd hE.info w (some ⟨bb, off, none⟩) len c n x' vs (hl w) (by rw [hsize]; exact hvs w rfl) (by omega) ?_, mkSlice_rel hp hf1 (fun hf => ?_) hv1, hg⟩
        · simp only [hsize, add_adr]; exact hrun
        · obtain ⟨id, ex, _, e2, e3, e4⟩ := hf2 hf; exact ⟨id, ex, e2, e3, e4⟩
  | false =>
    have hr : cap < len + n := by
      rcases Nat.lt_or_ge cap (len + n) with h | h
      · exact h
      · have := Nat.ble_eq_true_of_le h; rw [this] at hroom; cases hroom
    have hn0 : n ≠ 0 ∨ True := .inr trivial
    rw [hroom] at ha
    simp only [cond_false] at ha
    -- the new block's cells
    have newblock : ∀ (old : List C) (olds : List Value) (capr δ : Nat), All2 (CRel β) old olds → ScalL olds → capr = len + n + δ → ∀ {β' : Be}, Ext β β' →
        ORel cx β' δ (.cells (old ++ new) e true) (.cells (olds ++ vs ++ (Builtin.zeroCells z.cells (capr - (len + n))).toList).toArray e) := fun old olds capr δ ho hos hc {β'} hext => by
      obtain ⟨r1, r2⟩ := All2.rep_zero hE δ
      have hcd : capr - (len + n) = δ := by omega
      refine ⟨_, olds ++ vs, repV δ z.cells.toList, rfl, ?_, ?_, ?_, (fun hf => by cases hf), fun _ => ⟨ety, het, r2⟩⟩
      · simp only [hcd, zeroCells_toList]
      · exact (ho.mono fun _ _ => CRel.mono hext).append (hva.mono fun _ _ => CRel.mono hext)
      · intro y hy
        simp only [hcd, zeroCells_toList] at hy
        rcases List.mem_append.1 hy with hy | hy
        · rcases List.mem_append.1 hy with hy | hy
          · exact hos y hy
          · exact hvsc y hy
        · exact r1 y hy
    cases fx with
    | false =>
      simp only [cond_false] at ha
      split at ha
      case h_2 => cases ha
      rename_i old hold
      simp only [Option.some.injEq, Prod.mk.injEq] at ha
      obtain ⟨rfl, rfl⟩ := ha
      obtain ⟨olds, hos, hoa, hosc, _⟩ := srcCells_rel (P := P) h hs hold
      have hform : ∃ base, s' = .slice base len cap := by
        rcases sliceOf_rel hs hso with ⟨rfl, _, rfl⟩ | ⟨p, bb, off, c, rfl, hp, rfl, hcc, hf1, hf2⟩
        · exact ⟨none, rfl⟩
        · exact ⟨_, by rw [hf1 rfl]⟩
      obtain ⟨base, rfl⟩ := hform
      obtain ⟨capr, hge, hrun⟩ := run_append_out (ty := ty) ht hU.under hd hE.info hE.zero w base len cap n x' olds vs (hl w) (by rw [hsize]; exact hvs w.drew rfl) (by rw [hsize]; exact hos w.drew rfl) hr hn2 hn1
      refine ⟨_, upd β st.next (w.heap.size, capr - (len + n)), _, hrun, ⟨w.heap.size, capr - (len + n), upd_self _ _ _, ?_⟩, Good.alloc h hfl (newblock old olds capr _ hoa hosc (by omega) (ext_upd h _)) rfl rfl rfl rfl⟩
      simp only [cond_true]
      congr 1; omega
    | true =>
      simp only [cond_true] at ha
      split at ha
      case h_2 => cases ha
      rename_i id
      cases hfid : Nat.ble fl id with
      | false => rw [hfid] at ha; simp at ha
      | true =>
      rw [hfid] at ha
      simp only [cond_true] at ha
      split at ha
      case h_2 => cases ha
      rename_i l e' hg
      cases hlen : (Nat.beq l.length (cap * ety.size) && Nat.beq e' e && Nat.ble len cap) with
      | false => rw [hlen] at ha; simp at ha
      | true =>
      rw [hlen] at ha
      simp only [cond_true, Option.some.injEq, Prod.mk.injEq] at ha
      obtain ⟨rfl, rfl⟩ := ha
      simp only [Bool.and_eq_true] at hlen
      have hll := Nat.eq_of_beq_eq_true hlen.1.1
      have hee := Nat.eq_of_beq_eq_true hlen.1.2
      have hlc := Nat.le_of_ble_eq_true hlen.2
      subst hee
      rcases sliceOf_rel hs hso with ⟨h1', _⟩ | ⟨p0, bb, off, c, hpe, hp, rfl, hcc, hf1, hf2⟩
      · cases h1'
      cases hpe
      obtain ⟨id', ex, hse, hpe, hbe, rfl⟩ := hf2 rfl
      simp only [C.ptr.injEq] at hpe
      obtain ⟨rfl, rfl⟩ := hpe
      obtain ⟨b', ex', ob, hb', hh, cur, pre, rest, rfl, hcur, hrel, hsl, _, hfxx⟩ := h.live id _ hg
      rw [hbe] at hb'; cases hb'
      obtain ⟨ety', het', hrest⟩ := hfxx rfl
      rw [het] at het'; cases het'
      have hpl : pre.length = cap * ety.size := by rw [← hrel.length]; exact hll
      have hlen2 : (pre.take (len * ety.size)).length = len * ety.size := by
        rw [List.length_take, hpl]; exact Nat.min_eq_left (Nat.mul_le_mul_right _ hlc)
      have holds : ∀ w2 : World, w2.heap = w.heap → ∀ cc, (Builtin.firstCells i.size len (.slice (some ⟨bb, 0, none⟩) len cc)).run P w2 = .ok (pre.take (len * ety.size)).toArray w2 := fun w2 hw2 cc => by
        have := run_loadCells_list (P := P) w2 ⟨bb, 0, none⟩ (pre.take (len * ety.size)) (fun j x hj => by
          rw [add_adr, cell_heap hw2]
          have hlt := (List.getElem?_eq_some_iff.1 hj).1
          rw [hlen2] at hlt
          rw [List.getElem?_take, if_pos hlt] at hj
          have hj2 := (List.getElem?_eq_some_iff.1 hj).1
          simp only [World.cell?, hh, Option.isSome, Bool.false_eq_true, if_false, Nat.zero_add]
          rw [← Array.getElem?_toList, hcur, List.getElem?_append_left hj2]
          exact hj)
        rw [hlen2] at this
        simp [Builtin.firstCells, hsize, this]
      have hcurlen : cur.size = (cap + ex) * ety.size := by rw [← Array.length_toList, hcur, List.length_append, hpl, hrest, Nat.add_mul]
      by_cases hin : len + n ≤ cap + ex
      · -- within the real capacity
        have hvl2 : vs.length = n * ety.size := by
          rw [← hva.length]; exact hvl
        have hfit : 0 + len * ety.size + 0 + vs.length ≤ cur.size := by
          rw [hcurlen, hvl2]
          have := Nat.mul_le_mul_right ety.size hin
          rw [Nat.add_mul] at this
          omega
        have hrun := run_storeCells_at P bb (0 + len * ety.size) e' vs 0 cur w hh hfit (fun v hv => scal_oneCell (hvsc v hv))
        refine ⟨_, upd β st.next (bb, cap + ex - (len + n)), _, run_append_in ht hU.under hd hE.info w (some ⟨bb, 0, none⟩) len (cap + ex) n x' vs (hl w) (by rw [hsize]; exact hvs w rfl) hin (by simp only [hsize, add_adr]; exact hrun), ⟨bb, _, upd_self _ _ _, ?_⟩,
          Good.consume h hfl (Nat.le_of_ble_eq_true hfid) hg hbe ?_ (chg_setRow hh)⟩
        · simp only [cond_true]; congr 1; omega
        · have hext := ext_upd h (bb, cap + ex - (len + n))
          have hcut : cur.toList.take (0 + len * ety.size + 0) ++ vs ++ cur.toList.drop (0 + len * ety.size + 0 + vs.length) = (pre.take (len * ety.size) ++ vs) ++ (cur.toList.drop ((len + n) * ety.size)) := by
            have e1 : 0 + len * ety.size + 0 = len * ety.size := by omega
            rw [e1, hvl2, ← Nat.add_mul, hcur, List.take_append_of_le_length (by rw [hpl]; exact Nat.mul_le_mul_right _ hlc)]
          refine ⟨_, pre.take (len * ety.size) ++ vs, cur.toList.drop ((len + n) * ety.size), rfl, by simpa using hcut, ?_, ?_, (fun hf => by cases hf), fun _ => ⟨ety, het, ?_⟩⟩
          · exact ((hrel.take _).mono fun _ _ => CRel.mono hext).append (hva.mono fun _ _ => CRel.mono hext)
          · intro y hy
            rw [hcut] at hy
            rcases List.mem_append.1 hy with hy | hy
            · rcases List.mem_append.1 hy with hy | hy
              · exact hsl y (by rw [hcur]; exact List.mem_append.2 (.inl (List.mem_of_mem_take hy)))
              · exact hvsc y hy
            · exact hsl y (List.mem_of_mem_drop hy)
          · rw [List.length_drop, Array.length_toList, hcurlen, ← Nat.mul_sub_right_distrib]
      · -- beyond it
        have hout : cap + ex < len + n := by omega
        obtain ⟨capr, hge, hrun⟩ := run_append_out (ty := ty) ht hU.under hd hE.info hE.zero w (some ⟨bb, 0, none⟩) len (cap + ex) n x' (pre.take (len * ety.size)) vs (hl w) (by rw [hsize]; exact hvs w.drew rfl) (holds w.drew rfl _) hout hn2 hn1
        have hosc : ScalL (pre.take (len * ety.size)) := fun y hy => hsl y (by rw [hcur]; exact List.mem_append.2 (.inl (List.mem_of_mem_take hy)))
        have hg1 : Good cx B fl β st w (upd β st.next (w.heap.size, capr - (len + n))) (st.new (.cells (l.take (len * ety.size) ++ new) e' true)) _ := Good.alloc (w' := w.drew.alloc (.cells (pre.take (len * ety.size) ++ vs ++ (Builtin.zeroCells z.cells (capr - (len + n))).toList).toArray e')) h hfl (newblock _ _ capr _ (hrel.take _) hosc (by omega) (ext_upd h _)) rfl rfl rfl rfl
        have hlt := get_lt h hg
        have hg' : (st.new (.cells (l.take (len * ety.size) ++ new) e' true)).heap.get id = some (.cells l e' true) := by
          simp only [St.new]; rw [T.get_set_other _ _ (by omega)]; exact hg
        have hb2 : upd β st.next (w.heap.size, capr - (len + n)) id = some (bb, ex) := by simp only [upd_at]; rw [if_neg (by omega)]; exact hbe
        obtain ⟨_, _, ob2, hb3, hh3, _⟩ := hg1.inv.live id _ hg'
        rw [hb2] at hb3; cases hb3
        have hg2 := Good.drop (fl := fl) hg1.inv (Nat.le_of_ble_eq_true hfid) hg' hb2 (w' := w.drew.alloc (.cells (pre.take (len * ety.size) ++ vs ++ (Builtin.zeroCells z.cells (capr - (len + n))).toList).toArray e')) (ob := ob2) ⟨rfl, rfl, rfl, rfl, hh3, fun _ _ => rfl⟩
        refine ⟨_, _, _, hrun, ⟨w.heap.size, capr - (len + n), upd_self _ _ _, ?_⟩, hg1.trans hg2⟩
        simp only [cond_true]
        congr 1; omega

/-- A new block that is never written again. -/
def frz (β : Be) (w' : World) (b : Nat) : Be := ⟨β.m, β.env, fun b' o => if b' = b then w'.cell? ⟨b', o, none⟩ else β.z b' o⟩

theorem Good.freeze {w' : World} (h : Inv cx B β st w) (ob : Obj) (hw : w'.heap = w.heap.push ob) (h1 : w'.os = w.os) (h2 : w'.tape = w.tape) (h3 : w'.output = w.output) : Good cx B fl β st w (frz β w' w.heap.size) st w' := by
  have old : ∀ k, k < w.heap.size → w'.heap[k]? = w.heap[k]? := fun k hk => by rw [hw, Array.getElem?_push, if_neg (by omega)]
  have hs : w.heap.size ≤ w'.heap.size := by rw [hw]; simp
  have hz : ∀ b o v, β.z b o = some v → b < w.heap.size := fun b o v hv => cell_under (h.still b o v hv).1
  have hext : Ext β (frz β w' w.heap.size) := ⟨fun _ _ h => h, rfl, fun b o v hv => by
    have := hz b o v hv
    show (if b = w.heap.size then w'.cell? ⟨b, o, none⟩ else β.z b o) = some v
    rw [if_neg (by omega)]; exact hv⟩
  refine ⟨hext, fun _ _ => rfl, ⟨fun id p hp => ?_, fun id o ho => ?_, h.inj, fun b o v hv => ?_, Nat.le_trans h.size hs, h.facts, fun b o v hv => ?_⟩, fun _ _ => rfl, Nat.le_refl _, h1, h2, h3, hs, fun k hk _ => old k hk, fun id o b e h1 h2 h3 => .inr ⟨id, o, e, h1, h2, h3⟩, fun b o v hv => ?_⟩
  · have := h.low id p hp; exact ⟨this.1, this.2.1, Nat.lt_of_lt_of_le this.2.2 hs⟩
  · obtain ⟨b, e, ob', hb, hh, hr⟩ := h.live id o ho
    exact ⟨b, e, ob', hb, (old b (h.low _ _ hb).2.2).trans hh, hr.mono hext⟩
  · obtain ⟨h1, h2⟩ := h.base b o v hv
    exact ⟨h1, by rw [← h2]; simp only [World.cell?]; rw [old b (Nat.lt_of_lt_of_le h1 h.size)]⟩
  · have hv' : (if b = w.heap.size then w'.cell? ⟨b, o, none⟩ else β.z b o) = some v := hv
    by_cases e : b = w.heap.size
    · rw [if_pos e] at hv'
      refine ⟨hv', fun id p hp => ?_⟩
      have := (h.low id p hp).2.2; omega
    · rw [if_neg e] at hv'
      obtain ⟨g1, g2⟩ := h.still b o v hv'
      refine ⟨?_, g2⟩
      rw [← g1]; simp only [World.cell?]; rw [old b (hz b o v hv')]
  · have hv' : (if b = w.heap.size then w'.cell? ⟨b, o, none⟩ else β.z b o) = some v := hv
    by_cases e : b = w.heap.size
    · exact .inr (by omega)
    · rw [if_neg e] at hv'; exact .inl hv'

theorem noRoom_rel {s : V} {s' : Value} (hs : VRel β s s') (h : noRoom s = true) : ∃ base, s' = .slice base 0 0 := by
  unfold noRoom at h
  split at h
  · obtain ⟨b, e, _, rfl⟩ := hs; exact ⟨_, rfl⟩
  · have e : s' = _ := hs; exact ⟨_, e⟩
  · cases h

theorem run_first0 (sz l c : Nat) (base : Option Addr) (w : World) : (Builtin.firstCells sz 0 (.slice base l c)).run P w = .ok #[] w := by
  cases base with
  | none => rfl
  | some a =>
    have := run_loadCells_list (P := P) w a [] (fun j x hx => by simp at hx)
    simp only [Builtin.firstCells, Nat.zero_mul]
    exact this

/-- A slice of symbols, copied. -/
theorem run_appendOst (hx : CxOk cx P) {t u ty : TypeId} {s v : V} {s' x' : Value} {k : Nat} {o n : E} (hs : VRel β s s') (hxr : VRel β (.a (.c (.ost k o n))) x') (h : Inv cx B β st w) {st' : St} (ha : appendOst cx t u s k o n st = some (v, st')) :
    ∃ v' β' w', (Builtin.append_ #[t, u] ty #[s', x']).run P w = .ok v' w' ∧ VRel β' v v' ∧ Good cx B fl β st w β' st' w' := by
  unfold appendOst at ha
  split at ha
  case h_2 => cases ha
  rename_i sty xty hst hxt
  split at ha
  case h_2 => cases ha
  rename_i e e2 hsu hxu
  split at ha
  case h_2 => cases ha
  rename_i ety het
  obtain ⟨i1, z1, hT⟩ := hx.is hst
  obtain ⟨i2, z2, hU⟩ := hx.is hxt
  obtain ⟨i, z, hE⟩ := hx.is het
  have ht : P.underlying t = some (.slice e) := by rw [hT.under, hsu]
  cases hc : (Nat.beq ety.size 1 && Nat.ble ety.bytes 1000000 && noRoom s && isYes (ask cx (.le n (.lit 1000000)))) with
  | false => rw [hc] at ha; cases ha
  | true =>
  rw [hc] at ha
  simp only [cond_true, Option.some.injEq, Prod.mk.injEq] at ha
  obtain ⟨rfl, rfl⟩ := ha
  simp only [Bool.and_eq_true] at hc
  obtain ⟨⟨⟨c1, c2⟩, c3⟩, c4⟩ := hc
  have hsz : i.size = 1 := by rw [hE.size]; exact Nat.eq_of_beq_eq_true c1
  have hby : i.bytes ≤ 1000000 := by rw [hE.bytes]; exact Nat.le_of_ble_eq_true c2
  obtain ⟨base, rfl⟩ := noRoom_rel hs c3
  obtain ⟨a, m, c, rfl, hmc, hm, hr⟩ := hxr
  have hle : m ≤ 1000000 := by
    cases hq : ask cx (.le n (.lit 1000000)) with
    | none => rw [hq] at c4; cases c4
    | some b =>
      rw [hq] at c4
      have := ask_holds h.facts hq
      have c4' : b = true := c4
      subst c4'
      have := of_decide_eq_true this
      simp only [E.val, E.vals, List.headD_cons] at this hm
      omega
  have hd : srcKind xty.under = true := by rw [hxu]; rfl
  by_cases h0 : m = 0
  · subst h0
    have hrun := run_append_in (ty := ty) (P := P) ht hU.under hd hE.info w base 0 0 0 (.slice a 0 c) [] (by simp [Builtin.lenOf]) (run_first0 _ _ _ _ _) (Nat.le_refl _) (w' := w) (by cases base <;> rfl)
    exact ⟨_, β, w, hrun, ⟨base, 0, 0, rfl, Nat.le_refl _, hm, fun h => absurd rfl h⟩, Good.refl h⟩
  · obtain ⟨b, off, rfl, hj⟩ := hr h0
    let vals : List Value := (List.range m).map fun (j : Nat) => Value.int .i64 (β.env.f (2000 + k) [o.val β.env + (j : Int)])
    have hvl : vals.length = m := by simp [vals]
    have hcell : ∀ j, j < m → w.cell? ⟨b, off + j, none⟩ = some (Value.int .i64 (β.env.f (2000 + k) [o.val β.env + (j : Int)])) := fun j hjm => by
      rcases hj j hjm with q | q
      · exact (h.base _ _ _ q).2
      · exact (h.still _ _ _ q).1
    have hld := run_loadCells_list (P := P) w.drew ⟨b, off, none⟩ vals (fun j x hx => by
      have hlt := (List.getElem?_eq_some_iff.1 hx).1
      rw [hvl] at hlt
      have hx' : x = Value.int .i64 (β.env.f (2000 + k) [o.val β.env + (j : Int)]) := by
        simp [vals, hlt] at hx; exact hx.symm
      rw [add_adr, hx']; exact hcell j hlt)
    rw [hvl] at hld
    obtain ⟨capr, hge, hrun⟩ := run_append_out (ty := ty) (P := P) ht hU.under hd hE.info hE.zero w base 0 0 m (.slice (some ⟨b, off, none⟩) m c) [] vals (by simp [Builtin.lenOf]) (by simp [Builtin.firstCells, hsz, hld]) (run_first0 _ _ _ _ _) (by omega) (by omega) (by
      have : (0 + m) * i.bytes ≤ 1000000 * 1000000 := Nat.mul_le_mul (by omega) hby
      omega)
    refine ⟨_, _, _, hrun, ⟨_, 0 + m, capr, rfl, by omega, by rw [Nat.zero_add]; exact hm, fun _ => ⟨w.heap.size, 0, rfl, fun j hjm => .inr ?_⟩⟩, Good.freeze h _ rfl rfl rfl rfl⟩
    have hjm' : j < m := by omega
    show (if w.heap.size = w.heap.size then _ else _) = _
    rw [if_pos rfl]
    have hat : ∀ X : Obj, (w.drew.heap.push X)[w.heap.size]? = some X := fun X => by
      have : w.drew.heap.size = w.heap.size := rfl
      rw [← this]; exact Array.getElem?_push_size
    show World.cell? { w.drew with heap := w.drew.heap.push (Obj.cells ([] ++ vals ++ (Builtin.zeroCells z.cells (capr - (0 + m))).toList).toArray e (0, 0)) } _ = _
    simp only [World.cell?, hat]
    have hlt : j < vals.length := by omega
    simp [vals, List.getElem?_append, hjm']
    rfl

theorem run_appendX (hx : CxOk cx P) {t u ty : TypeId} {s x : V} {s' x' : Value} (hs : VRel β s s') (hxr : VRel β x x') (h : Inv cx B β st w) (hfl : fl ≤ st.next) {v : V} {st' : St}
    (ha : appendX cx fl t ty u s x st = some (v, st')) :
    ∃ v' β' w', (Builtin.append_ #[t, u] ty #[s', x']).run P w = .ok v' w' ∧ VRel β' v v' ∧ Good cx B fl β st w β' st' w' := by
  unfold appendX at ha
  split at ha
  · rename_i k o n ho
    unfold ostOf at ho
    split at ho
    · simp only [Option.some.injEq, Prod.mk.injEq] at ho
      obtain ⟨rfl, rfl, rfl⟩ := ho
      exact run_appendOst hx hs hxr h ha
    · cases ho
  · exact run_append hx hs hxr h hfl ha
end Go.Am

namespace Go.Am
open Go

variable {cx : Cx} {P : Program} {B fl : Nat} {β : Be} {st : St} {w : World}

theorem run_copy (hx : CxOk cx P) {t : TypeId} {ts : Array TypeId} {ty : TypeId} {d x : V} {d' x' : Value} (hd : VRel β d d') (hxr : VRel β x x') (h : Inv cx B β st w) (ht0 : ts[0]? = some t) {v : V} {st' : St}
    (hc : copyOp cx fl t d x st = some (v, st')) :
    ∃ v' w', (Builtin.copy_ ts ty #[d', x']).run P w = .ok v' w' ∧ VRel β v v' ∧ Good cx B fl β st w β st' w' := by
  unfold copyOp at hc
  split at hc
  case h_2 => cases hc
  rename_i dty b dlen cap fx xl hdt hso hln
  obtain ⟨i, z, hT⟩ := hx.is hdt
  have hl := lenOf_rel (P := P) hxr hln
  split at hc
  case h_2 => cases hc
  rename_i e hu
  split at hc
  case h_2 => cases hc
  rename_i ety het
  obtain ⟨i', z', hE⟩ := hx.is het
  simp only at hc
  split at hc
  case h_2 => cases hc
  rename_i new hnew
  obtain ⟨vs, hvs, hva, hvsc, hvl⟩ := srcCells_rel (P := P) h hxr hnew
  have hgo : ((Nat.min xl dlen : Nat) : Int) = ((Nat.min xl dlen : Nat) : Int) := rfl
  rcases sliceOf_rel hd hso with ⟨rfl, rfl, rfl⟩ | ⟨p, bb, off, c, rfl, hp, rfl, hcc, hf1, hf2⟩
  · simp only [Option.some.injEq, Prod.mk.injEq] at hc
    obtain ⟨rfl, rfl⟩ := hc
    refine ⟨.int .i64 ((Nat.min xl dlen : Nat) : Int), w, ?_, rfl, Good.refl h⟩
    simp [Builtin.copy_, ht0, hT.run_under, hu, hl, hE.run_size, hvs w rfl, goInt]
  · simp only at hc
    cases hz : Nat.beq (Nat.min xl dlen * ety.size) 0 with
    | true =>
      have h0 := Nat.eq_of_beq_eq_true hz
      rw [hz] at hc
      simp only [cond_true, Option.some.injEq, Prod.mk.injEq] at hc
      obtain ⟨rfl, rfl⟩ := hc
      have hnil : vs = [] := by
        apply List.eq_nil_of_length_eq_zero
        rw [← hva.length, hvl, h0]
      subst hnil
      refine ⟨.int .i64 ((Nat.min xl dlen : Nat) : Int), w, ?_, rfl, Good.refl h⟩
      simp [Builtin.copy_, ht0, hT.run_under, hu, hl, hE.run_size, hvs w rfl, goInt, storeCells]
    | false =>
      rw [hz] at hc
      simp only [cond_false, Option.map_eq_some_iff, Prod.mk.injEq] at hc
      obtain ⟨h1, hs1, rfl, rfl⟩ := hc
      obtain ⟨b2, o2, w', heq, hrun, hg⟩ := storeN_rel (P := P) h hp hs1 hva hvsc
      simp only [adr, Value.pointer.injEq, Option.some.injEq, Addr.mk.injEq, and_true] at heq
      obtain ⟨rfl, rfl⟩ := heq
      refine ⟨.int .i64 ((Nat.min xl dlen : Nat) : Int), w', ?_, rfl, hg⟩
      simp [Builtin.copy_, ht0, hT.run_under, hu, hl, hE.run_size, hvs w rfl, goInt, hrun]

theorem run_clear (hx : CxOk cx P) {t : TypeId} {ts : Array TypeId} {ty : TypeId} {x : V} {x' : Value} (hxr : VRel β x x') (h : Inv cx B β st w) (ht0 : ts[0]? = some t) {v : V} {st' : St}
    (hc : clearOp cx fl t x st = some (v, st')) :
    ∃ v' w', (Builtin.clear_ ts ty #[x']).run P w = .ok v' w' ∧ VRel β v v' ∧ Good cx B fl β st w β st' w' := by
  unfold clearOp at hc
  split at hc
  case h_2 => cases hc
  rename_i tty b n cap fx htt hso
  obtain ⟨i, z, hT⟩ := hx.is htt
  split at hc
  case h_2 => cases hc
  rename_i e hu
  split at hc
  case h_3 => cases hc
  · rename_i ety p het
    obtain ⟨i', z', hE⟩ := hx.is het
    rcases sliceOf_rel hxr hso with ⟨h1, _⟩ | ⟨p', bb, off, c, h1, hp, rfl, hcc, hf1, hf2⟩
    · cases h1
    cases h1
    cases hz : Nat.beq n 0 with
    | true =>
      have h0 := Nat.eq_of_beq_eq_true hz
      subst h0
      simp only [hz, cond_true, Option.some.injEq, Prod.mk.injEq] at hc
      obtain ⟨rfl, rfl⟩ := hc
      refine ⟨.tuple #[], w, ?_, ⟨#[], rfl, trivial⟩, Good.refl h⟩
      simp [Builtin.clear_, ht0, hT.run_under, hu]
    | false =>
      have h0 : n ≠ 0 := fun e => by rw [e] at hz; simp at hz
      rw [hz] at hc
      simp only [cond_false, Option.map_eq_some_iff, Prod.mk.injEq] at hc
      obtain ⟨h1, hs1, rfl, rfl⟩ := hc
      obtain ⟨z1, z2⟩ := zeroC_rel (β := β) hE
      obtain ⟨r1, r2⟩ := rep_rel z1 z2 n
      obtain ⟨b2, o2, w', heq, hrun, hg⟩ := storeN_rel (P := P) h hp hs1 r1 r2
      simp only [adr, Value.pointer.injEq, Option.some.injEq, Addr.mk.injEq, and_true] at heq
      obtain ⟨rfl, rfl⟩ := heq
      refine ⟨.tuple #[], w', ?_, ⟨#[], rfl, trivial⟩, hg⟩
      obtain ⟨n, rfl⟩ := Nat.exists_eq_succ_of_ne_zero h0
      simp only [Builtin.clear_, ht0, Sem.run_bind, hT.run_under, hu, Result.andThen_ok, List.getElem?_toArray, List.getElem?_cons_zero]
      simp only [hE.run_zero, zeroCells_toList, hrun, Result.andThen_ok, Sem.run_pure]
  · rename_i ety het
    rcases sliceOf_rel hxr hso with ⟨_, _, rfl⟩ | ⟨p', bb, off, c, h1, _⟩
    · simp only [Option.some.injEq, Prod.mk.injEq] at hc
      obtain ⟨rfl, rfl⟩ := hc
      refine ⟨.tuple #[], w, ?_, ⟨#[], rfl, trivial⟩, Good.refl h⟩
      simp [Builtin.clear_, ht0, hT.run_under, hu]
    · cases h1

theorem mapEs_rel (h : Inv cx B β st w) {m : V} {m' : Value} (hm : VRel β m m') {es : List (C × A × Nat)} {clock : Nat} (he : mapEs st m = some (es, clock)) :
    (m' = .map none ∧ es = []) ∨ ∃ id b e es', m = .a (.c (.mp id)) ∧ β id = some (b, e) ∧ m' = .map (some b) ∧ st.heap.get id = some (.map es clock) ∧ w.heap[b]? = some (.map es' clock) ∧ All2 (ERel β) es es'.toList := by
  unfold mapEs at he
  split at he
  · rename_i id
    simp only [St.get] at he
    split at he
    · rename_i es1 c1 hg
      simp only [Option.some.injEq, Prod.mk.injEq] at he
      obtain ⟨rfl, rfl⟩ := he
      obtain ⟨b, e, hb, rfl⟩ := hm
      obtain ⟨b', e', ob, hb', hh, es', rfl, hr⟩ := h.live id _ hg
      rw [hb] at hb'; cases hb'
      exact .inr ⟨id, b, e, es', rfl, hb, rfl, hg, hh, hr⟩
    · cases he
  · simp only [Option.some.injEq, Prod.mk.injEq] at he
    obtain ⟨rfl, rfl⟩ := he
    exact .inl ⟨hm, rfl⟩
  · cases he

theorem run_len (hx : CxOk cx P) {t : TypeId} {ts : Array TypeId} {ty : TypeId} {x : V} {x' : Value} (hxr : VRel β x x') (h : Inv cx B β st w) (ht0 : ts[0]? = some t) {v : V} (hc : lenOp cx t x st = some v) :
    ∃ v', (Builtin.len_ ts ty #[x']).run P w = .ok v' w ∧ VRel β v v' := by
  unfold lenOp at hc
  split at hc
  case h_2 => cases hc
  rename_i tty htt
  obtain ⟨i, z, hT⟩ := hx.is htt
  split at hc
  · rename_i hu
    split at hc
    · rename_i s
      have hx' : x' = .string s := hxr
      subst hx'
      simp only [Option.some.injEq] at hc; subst hc
      exact ⟨.int .i64 s.size, by simp [Builtin.len_, ht0, hT.run_under, hu, goInt], rfl⟩
    · obtain ⟨s, hx', hs⟩ := hxr
      subst hx'
      simp only [Option.some.injEq] at hc; subst hc
      exact ⟨.int .i64 s.size, by simp [Builtin.len_, ht0, hT.run_under, hu, goInt], by show Value.int _ _ = _; rw [hs]⟩
    · obtain ⟨l, hx', hl, _⟩ := hxr
      subst hx'
      simp only [Option.some.injEq] at hc; subst hc
      have hsz : (⟨l.toArray⟩ : ByteArray).size = l.length := rfl
      exact ⟨.int .i64 (⟨l.toArray⟩ : ByteArray).size, by simp [Builtin.len_, ht0, hT.run_under, hu, goInt], by show Value.int _ _ = _; rw [hsz, hl]⟩
    · obtain ⟨l, hx', hl, _⟩ := hxr
      subst hx'
      simp only [Option.some.injEq] at hc; subst hc
      have hsz : (⟨l.toArray⟩ : ByteArray).size = l.length := rfl
      exact ⟨.int .i64 (⟨l.toArray⟩ : ByteArray).size, by simp [Builtin.len_, ht0, hT.run_under, hu, goInt], by show Value.int _ _ = Value.int _ _; rw [hsz, hl]⟩
    · obtain ⟨rfl, hl⟩ := hxr
      simp only [Option.some.injEq] at hc; subst hc
      exact ⟨_, by simp [Builtin.len_, ht0, hT.run_under, hu, goInt]; rfl, by show Value.int _ _ = Value.int _ _; rw [hl]⟩
    · cases hc
  · rename_i n e hu
    simp only [Option.some.injEq] at hc; subst hc
    exact ⟨.int .i64 n, by simp [Builtin.len_, ht0, hT.run_under, hu, goInt], rfl⟩
  · rename_i e hu
    split at hc
    · rename_i ety het
      obtain ⟨i', z', hE⟩ := hx.is het
      split at hc
      · rename_i n e' hu'
        simp only [Option.some.injEq] at hc; subst hc
        exact ⟨.int .i64 n, by simp [Builtin.len_, ht0, hT.run_under, hu, hE.run_under, hu', goInt], rfl⟩
      · cases hc
    · cases hc
  · rename_i e hu
    split at hc
    · obtain ⟨a, n, c, hx', hs⟩ := hxr
      subst hx'
      simp only [Option.some.injEq] at hc; subst hc
      exact ⟨.int .i64 n, by simp [Builtin.len_, ht0, hT.run_under, hu, goInt], by show Value.int _ _ = _; rw [hs]⟩
    · obtain ⟨a, n, c, hx', _, hs, _⟩ := hxr
      subst hx'
      simp only [Option.some.injEq] at hc; subst hc
      exact ⟨.int .i64 n, by simp [Builtin.len_, ht0, hT.run_under, hu, goInt], by show Value.int _ _ = _; rw [hs]⟩
    simp only [Option.map_eq_some_iff] at hc
    obtain ⟨⟨a, n⟩, hs, rfl⟩ := hc
    rcases sliceRd_rel hxr hs with ⟨_, _, rfl⟩ | ⟨p, b, off, c, _, _, rfl⟩
    · exact ⟨.int .i64 n, by simp [Builtin.len_, ht0, hT.run_under, hu, goInt], rfl⟩
    · exact ⟨.int .i64 n, by simp [Builtin.len_, ht0, hT.run_under, hu, goInt], rfl⟩
  · rename_i k e hu
    simp only [Option.map_eq_some_iff] at hc
    obtain ⟨⟨es, clock⟩, hs, rfl⟩ := hc
    rcases mapEs_rel h hxr hs with ⟨rfl, rfl⟩ | ⟨id, b, e', es', _, _, rfl, _, hh, hr⟩
    · exact ⟨.int .i64 0, by simp [Builtin.len_, ht0, hT.run_under, hu, goInt], rfl⟩
    · refine ⟨.int .i64 es'.size, ?_, ?_⟩
      · simp [Builtin.len_, ht0, hT.run_under, hu, getObj, Sem.run, hh, goInt]
      · show _ = _
        rw [hr.length]; simp
  · cases hc

theorem run_cap (hx : CxOk cx P) {t : TypeId} {ts : Array TypeId} {ty : TypeId} {x : V} {x' : Value} (hxr : VRel β x x') (ht0 : ts[0]? = some t) {v : V} (hc : capOp cx t x = some v) (w : World) :
    ∃ v', (Builtin.cap_ ts ty #[x']).run P w = .ok v' w ∧ VRel β v v' := by
  unfold capOp at hc
  split at hc
  case h_2 => cases hc
  rename_i tty htt
  obtain ⟨i, z, hT⟩ := hx.is htt
  split at hc
  case h_2 => cases hc
  rename_i e hu
  split at hc
  case h_2 => cases hc
  rename_i a n c hs
  simp only [Option.some.injEq] at hc; subst hc
  rcases sliceOf_rel hxr hs with ⟨_, _, rfl⟩ | ⟨p, b, off, c', _, _, rfl, _, hf, _⟩
  · exact ⟨.int .i64 c, by simp [Builtin.cap_, ht0, hT.run_under, hu, goInt], rfl⟩
  · rw [hf rfl]
    exact ⟨.int .i64 c, by simp [Builtin.cap_, ht0, hT.run_under, hu, goInt], rfl⟩

/-- A run that asks the program alone. -/
theorem pureSem_zero {α : Type} {p : Program} {e : Sem α} {a : α} (h : pureSem p 0 e = some a) : e = .pure a := by
  cases e <;> simp_all [pureSem]

theorem max2_rel {x y v : V} {x' y' : Value} (hx : VRel β x x') (hy : VRel β y y') (h : max2 x y = some v) (w : World) : ∃ v', (Builtin.max2 x' y').run P w = .ok v' w ∧ VRel β v v' := by
  unfold max2 at h
  split at h
  · have e1 : x' = _ := hx
    have e2 : y' = _ := hy
    subst e1 e2
    simp only [Option.some.injEq] at h; subst h
    exact ⟨_, rfl, rfl⟩
  · have e1 : x' = _ := hx
    have e2 : y' = _ := hy
    subst e1 e2
    simp only [Option.some.injEq] at h; subst h
    exact ⟨_, rfl, rfl⟩
  · have e1 : x' = _ := hx
    have e2 : y' = _ := hy
    subst e1 e2
    simp only [Option.some.injEq] at h; subst h
    exact ⟨_, rfl, rfl⟩
  · have e1 : x' = _ := hx
    have e2 : y' = _ := hy
    subst e1 e2
    simp only [Option.some.injEq] at h; subst h
    exact ⟨_, rfl, rfl⟩
  · cases h

theorem min2_rel {x y v : V} {x' y' : Value} (hx : VRel β x x') (hy : VRel β y y') (h : min2 x y = some v) (w : World) : ∃ v', (Builtin.min2 x' y').run P w = .ok v' w ∧ VRel β v v' := by
  unfold min2 at h
  split at h
  · have e1 : x' = _ := hx
    have e2 : y' = _ := hy
    subst e1 e2
    simp only [Option.some.injEq] at h; subst h
    exact ⟨_, rfl, rfl⟩
  · have e1 : x' = _ := hx
    have e2 : y' = _ := hy
    subst e1 e2
    simp only [Option.some.injEq] at h; subst h
    exact ⟨_, rfl, rfl⟩
  · have e1 : x' = _ := hx
    have e2 : y' = _ := hy
    subst e1 e2
    simp only [Option.some.injEq] at h; subst h
    exact ⟨_, rfl, rfl⟩
  · have e1 : x' = _ := hx
    have e2 : y' = _ := hy
    subst e1 e2
    simp only [Option.some.injEq] at h; subst h
    exact ⟨_, rfl, rfl⟩
  · cases h

theorem fold2_rel {f : V → V → Option V} {g : Value → Value → Sem Value} (hfg : ∀ x y v x' y', VRel β x x' → VRel β y y' → f x y = some v → ∀ w, ∃ v', (g x' y').run P w = .ok v' w ∧ VRel β v v') :
    ∀ {l : List V} {l' : List Value} {x v : V} {x' : Value}, All2 (VRel β) l l' → VRel β x x' → fold2 f l x = some v → ∀ w, ∃ v', (l'.foldlM g x').run P w = .ok v' w ∧ VRel β v v'
  | [], [], x, v, x', _, hx, h, w => by simp only [fold2, Option.some.injEq] at h; subst h; exact ⟨x', by simp, hx⟩
  | [], _ :: _, _, _, _, h, _, _, _ => h.elim
  | _ :: _, [], _, _, _, h, _, _, _ => h.elim
  | y :: l, y' :: l', x, v, x', hl, hx, h, w => by
    simp only [fold2] at h
    split at h
    · rename_i u hu
      obtain ⟨u', hu', hr⟩ := hfg x y u x' y' hx hl.1 hu w
      obtain ⟨v', hv', hr'⟩ := fold2_rel hfg hl.2 hr h w
      exact ⟨v', by simp [hu', hv'], hr'⟩
    · cases h
end Go.Am

namespace Go.Am
open Go

variable {cx : Cx} {P : Program} {B fl : Nat} {β : Be} {st : St} {w : World}

theorem run_partA (hx : CxOk cx P) {t : TypeId} {cs : List C} {a : Array Value} (h1 : All2 (CRel β) cs a.toList) (h2 : ScalL a.toList) {off : Nat} {x : A} (hp : partA cx t cs off = some x) (w : World) :
    ∃ v', (part t a off).run P w = .ok v' w ∧ ARel β x v' := by
  unfold partA at hp
  split at hp
  · rename_i ty ht
    split at hp
    · rename_i y hy
      simp only [Option.some.injEq] at hp; subst hp
      simp only [Option.bind_eq_some_iff] at hy
      obtain ⟨l, hl, hpk⟩ := hy
      exact run_part hx ht h1 h2 hl hpk w
    · cases hp
  · cases hp

/-- '==' at an array: element by element -/
def eqElems (d : Nat) (e : TypeId) (xs ys : Array Value) (size : Nat) : Nat → Nat → Sem Bool
  | 0, _ => pure true
  | n + 1, i => do
    let a ← part e xs (i * size)
    let b ← part e ys (i * size)
    let r ← Op.equalIn d e a b
    if (!r) = true then pure false else eqElems d e xs ys size n (i + 1)

theorem run_equalIn_arr (d : Nat) (t e : TypeId) (n : Nat) (i : TypeInfo) (xs ys : Array Value) (ht : P.underlying t = some (.array n e)) (hi : P.info? e = some i) (w : World) :
    (Op.equalIn (d + 1) t (.agg xs) (.agg ys)).run P w = (eqElems d e xs ys i.size n 0).run P w := by
  simp only [Op.equalIn, Sem.run_bind, run_underlying ht, Result.andThen_ok, sizeOf, typeInfo, run_program, hi, Sem.run_pure, Std.Legacy.Range.forIn_eq_forIn_range', Std.Legacy.Range.size]
  have key : ∀ (F : Option Bool × PUnit → Sem Bool), F (none, ⟨⟩) = pure true → (∀ b, F (some b, ⟨⟩) = pure b) → ∀ (m k : Nat) (w : World), ((forIn (List.range' k m 1) (none, PUnit.unit) fun j r => do
        let __do_lift ← part e xs (j * i.size)
        let __do_lift_1 ← part e ys (j * i.size)
        let __do_lift ← Op.equalIn d e __do_lift __do_lift_1
        if (!__do_lift) = true then pure (ForInStep.done (some false, PUnit.unit)) else pure (ForInStep.yield (none, PUnit.unit)) : Sem (Option Bool × PUnit)).run P w).andThen
        (fun a w' => (F a).run P w') = (eqElems d e xs ys i.size m k).run P w := by
    intro F hF1 hF2 m
    induction m with
    | zero => intro k w; simp [eqElems, hF1]
    | succ m ih =>
      intro k w
      simp only [List.range'_succ, List.forIn_cons, eqElems, Sem.run_bind]
      generalize (part e xs (k * i.size)).run P w = r1
      cases r1 with
      | ok a w1 =>
        simp only [Result.andThen_ok]
        generalize (part e ys (k * i.size)).run P w1 = r2
        cases r2 with
        | ok b w2 =>
          simp only [Result.andThen_ok]
          generalize (Op.equalIn d e a b).run P w2 = r3
          cases r3 with
          | ok r w3 =>
            cases r
            · simp [Sem.run_pure, hF2]
            · simp only [Result.andThen_ok, Bool.not_true, Bool.false_eq_true, if_false, Sem.run_pure]
              exact ih (k + 1) w3
          | halt x w3 => simp [Result.andThen]
        | halt x w2 => simp [Result.andThen]
      | halt x w1 => simp [Result.andThen]
  rw [Nat.sub_zero, Nat.add_sub_cancel, Nat.div_one]
  exact key _ rfl (fun _ => rfl) n 0 w

theorem eqFs_rel (hx : CxOk cx P) (E : TypeId → A → A → Option Bool) (d : Nat) (hE : ∀ t x y x' y' r, ARel β x x' → ARel β y y' → E t x y = some r → ∀ w, (Op.equalIn d t x' y').run P w = .ok r w) {xs ys : List C} {a b : Array Value}
    (h1 : All2 (CRel β) xs a.toList) (h2 : ScalL a.toList) (h3 : All2 (CRel β) ys b.toList) (h4 : ScalL b.toList) : ∀ (fs : List Field) (r : Bool), (∀ f ∈ fs, f.name ≠ "_") → eqFs cx E xs ys fs = some r →
    ∀ w, (Op.eqFields d a b fs).run P w = .ok r w
  | [], r, _, h, w => by simp only [eqFs, Option.some.injEq] at h; subst h; rfl
  | f :: fs, r, hn, h, w => by
    simp only [eqFs] at h
    split at h
    case h_2 => cases h
    rename_i x y hx' hy'
    obtain ⟨x1, e1, r1⟩ := run_partA hx h1 h2 hx' w
    obtain ⟨y1, e2, r2⟩ := run_partA hx h3 h4 hy' w
    have hne := hn f (by simp)
    simp only [Op.eqFields, hne, ne_eq, not_false_eq_true, if_true, Sem.run_bind, e1, e2, Result.andThen_ok]
    split at h
    · rename_i he
      rw [hE _ _ _ _ _ _ r1 r2 he w]
      simp only [Result.andThen_ok, Bool.not_true, Bool.false_eq_true, if_false]
      exact eqFs_rel hx E d hE h1 h2 h3 h4 fs r (fun f hf => hn f (by simp [hf])) h w
    · rename_i he
      simp only [Option.some.injEq] at h; subst h
      rw [hE _ _ _ _ _ _ r1 r2 he w]
      simp
    · cases h

theorem eqArr_rel (hx : CxOk cx P) (E : TypeId → A → A → Option Bool) (d : Nat) (hE : ∀ t x y x' y' r, ARel β x x' → ARel β y y' → E t x y = some r → ∀ w, (Op.equalIn d t x' y').run P w = .ok r w) {xs ys : List C} {a b : Array Value}
    (h1 : All2 (CRel β) xs a.toList) (h2 : ScalL a.toList) (h3 : All2 (CRel β) ys b.toList) (h4 : ScalL b.toList) (e : TypeId) (size : Nat) : ∀ (n i : Nat) (r : Bool), eqArr cx E xs ys e size n i = some r →
    ∀ w, (eqElems d e a b size n i).run P w = .ok r w
  | 0, i, r, h, w => by simp only [eqArr, Option.some.injEq] at h; subst h; rfl
  | n + 1, i, r, h, w => by
    simp only [eqArr] at h
    split at h
    case h_2 => cases h
    rename_i x y hx' hy'
    obtain ⟨x1, e1, r1⟩ := run_partA hx h1 h2 hx' w
    obtain ⟨y1, e2, r2⟩ := run_partA hx h3 h4 hy' w
    simp only [eqElems, Sem.run_bind, e1, e2, Result.andThen_ok]
    split at h
    · rename_i he
      rw [hE _ _ _ _ _ _ r1 r2 he w]
      simp only [Result.andThen_ok, Bool.not_true, Bool.false_eq_true, if_false]
      exact eqArr_rel hx E d hE h1 h2 h3 h4 e size n (i + 1) r h w
    · rename_i he
      simp only [Option.some.injEq] at h; subst h
      rw [hE _ _ _ _ _ _ r1 r2 he w]
      simp
    · cases h

theorem symE_rel {x y : C} {x' y' : Value} {k k' : IntKind} {a b : E} (hx : CRel β x x') (hy : CRel β y y') (h : symE x y = some (k, a, k', b)) : x' = .int k (a.val β.env) ∧ y' = .int k' (b.val β.env) := by
  unfold symE at h
  split at h <;> simp only [Option.some.injEq, Prod.mk.injEq, reduceCtorEq] at h <;> obtain ⟨rfl, rfl, rfl, rfl⟩ := h <;> exact ⟨hx, hy⟩

theorem eqA_rel (hx : CxOk cx P) (hf : Facts cx β.env) : ∀ (d k : Nat) (t : TypeId) (x y : A) (x' y' : Value) (r : Bool), ARel β x x' → ARel β y y' → eqA cx d t x y = some r → ∀ w, (Op.equalIn (d + k) t x' y').run P w = .ok r w
  | 0, _, _, _, _, _, _, _, _, _, h, _ => by simp [eqA] at h
  | d + 1, k, t, x, y, x', y', r, hxr, hyr, h, w => by
    have ih := fun t x y x' y' r h1 h2 h3 => eqA_rel hx hf d k t x y x' y' r h1 h2 h3
    rw [show d + 1 + k = (d + k) + 1 by omega]
    simp only [eqA] at h
    split at h
    case h_2 => cases h
    rename_i ty ht
    obtain ⟨i, z, hT⟩ := hx.is ht
    split at h
    · rename_i hu
      have e1 : x' = _ := hxr
      have e2 : y' = _ := hyr
      subst e1 e2
      simp only [Option.some.injEq] at h; subst h
      exact run_equalIn_bool w _ _ _ _ (by rw [hT.under, hu])
    · rename_i k' k1 a k2 b hu
      have e1 : x' = _ := hxr
      have e2 : y' = _ := hyr
      subst e1 e2
      cases hk : decide (k1 = k2) with
      | false => rw [hk] at h; simp at h
      | true =>
        rw [hk] at h
        simp only [cond_true, Option.some.injEq] at h; subst h
        have hk' := of_decide_eq_true hk
        subst hk'
        exact run_equalIn_int w _ _ _ k' _ _ (by rw [hT.under, hu])
    · rename_i hu
      have e1 : x' = _ := hxr
      have e2 : y' = _ := hyr
      subst e1 e2
      simp only [Option.some.injEq] at h; subst h
      exact run_equalIn_string w _ _ _ _ (by rw [hT.under, hu])
    · rename_i kk a b _ hu
      split at h
      · rename_i k1 p k2 q hs
        cases hk : decide (k1 = k2) with
        | false => rw [hk] at h; simp at h
        | true =>
          rw [hk] at h
          simp only [cond_true] at h
          have hk' := of_decide_eq_true hk
          subst hk'
          obtain ⟨rfl, rfl⟩ := symE_rel hxr hyr hs
          have := ask_holds hf h
          simp only [Tst.holds] at this
          rw [run_equalIn_int w _ _ _ kk _ _ (by rw [hT.under, hu]), this]
      · cases h
    · rename_i fs xs ys hu
      cases he : cx.eqT t with
      | false => rw [he] at h; simp at h
      | true =>
        rw [he] at h
        simp only [cond_true] at h
        obtain ⟨s1, s2, s3⟩ := hx.eqs t he
        have hu' : P.underlying t = some (.struct fs) := by rw [hT.under, hu]
        have hf : P.fieldsOf t = fs := by simp [Program.fieldsOf, hu']
        obtain ⟨a, rfl, h1, h2⟩ := hxr
        obtain ⟨b, rfl, h3, h4⟩ := hyr
        rw [run_equalIn_struct w (d + k) t a b (by rw [hf]; exact hu') s1, hf]
        exact eqFs_rel hx _ _ ih h1 h2 h3 h4 fs.toList r (s3 fs hu') h w
    · rename_i n e xs ys hu
      split at h
      case h_2 => cases h
      rename_i ety het
      obtain ⟨i', z', hE⟩ := hx.is het
      obtain ⟨a, rfl, h1, h2⟩ := hxr
      obtain ⟨b, rfl, h3, h4⟩ := hyr
      rw [run_equalIn_arr (d + k) t e n i' a b (by rw [hT.under, hu]) hE.info w, hE.size]
      exact eqArr_rel hx _ _ ih h1 h2 h3 h4 e _ n 0 r h w
    · cases h

theorem refIsNil_rel {d : TypeDesc} {x : C} {x' : Value} {r : Bool} (h : CRel β x x') (hn : refIsNil d x = some r) :
    (∃ e a, d = .pointer e ∧ x' = .pointer a ∧ r = a.isNone) ∨ (∃ e a n c, d = .slice e ∧ x' = .slice a n c ∧ r = a.isNone) ∨ (∃ k e a, d = .map k e ∧ x' = .map a ∧ r = a.isNone) ∨
    (∃ p q v, d = .func p q v ∧ ((x' = .nilFunc ∧ r = true) ∨ (∃ f a b, x' = .func f a b) ∧ r = false)) := by
  unfold refIsNil at hn
  split at hn
  · simp only [Option.some.injEq] at hn; subst hn; exact .inl ⟨_, _, rfl, h, rfl⟩
  · simp only [Option.some.injEq] at hn; subst hn; obtain ⟨b, e, _, rfl⟩ := h; exact .inl ⟨_, _, rfl, rfl, rfl⟩
  · simp only [Option.some.injEq] at hn; subst hn; exact .inr (.inl ⟨_, _, _, _, rfl, h, rfl⟩)
  · simp only [Option.some.injEq] at hn; subst hn; obtain ⟨b, e, _, rfl⟩ := h; exact .inr (.inl ⟨_, _, _, _, rfl, rfl, rfl⟩)
  · simp only [Option.some.injEq] at hn; subst hn; exact .inr (.inr (.inl ⟨_, _, _, rfl, h, rfl⟩))
  · simp only [Option.some.injEq] at hn; subst hn; obtain ⟨b, e, _, rfl⟩ := h; exact .inr (.inr (.inl ⟨_, _, _, rfl, rfl, rfl⟩))
  · simp only [Option.some.injEq] at hn; subst hn; exact .inr (.inr (.inr ⟨_, _, _, rfl, .inl ⟨h, rfl⟩⟩))
  · simp only [Option.some.injEq] at hn; subst hn; obtain ⟨bs, _, rfl⟩ := h; exact .inr (.inr (.inr ⟨_, _, _, rfl, .inr ⟨⟨_, _, _, rfl⟩, rfl⟩⟩))
  · cases hn

section
variable {t : TypeId} (d : Nat) (w : World)
theorem eqIn_ptr {e : TypeId} (ht : P.underlying t = some (.pointer e)) (a b : Option Addr) (r : Bool) (h : (a.isNone = true ∧ r = b.isNone) ∨ (b.isNone = true ∧ r = a.isNone)) : (Op.equalIn (d + 1) t (.pointer a) (.pointer b)).run P w = .ok r w := by
  rcases h with ⟨h1, rfl⟩ | ⟨h1, rfl⟩
  · cases a with
    | none => simp [Op.equalIn, run_underlying ht]
    | some a => simp at h1
  · cases b with
    | none => cases a <;> simp [Op.equalIn, run_underlying ht]
    | some b => simp at h1
theorem eqIn_slice {e : TypeId} (ht : P.underlying t = some (.slice e)) (a b : Option Addr) (n c n' c' : Nat) (r : Bool) (h : (a.isNone = true ∧ r = b.isNone) ∨ (b.isNone = true ∧ r = a.isNone)) : (Op.equalIn (d + 1) t (.slice a n c) (.slice b n' c')).run P w = .ok r w := by
  rcases h with ⟨h1, rfl⟩ | ⟨h1, rfl⟩
  · cases a with
    | none => simp [Op.equalIn, run_underlying ht]
    | some a => simp at h1
  · cases b with
    | none => cases a <;> simp [Op.equalIn, run_underlying ht]
    | some b => simp at h1
theorem eqIn_map {k e : TypeId} (ht : P.underlying t = some (.map k e)) (a b : Option Nat) (r : Bool) (h : (a.isNone = true ∧ r = b.isNone) ∨ (b.isNone = true ∧ r = a.isNone)) : (Op.equalIn (d + 1) t (.map a) (.map b)).run P w = .ok r w := by
  rcases h with ⟨h1, rfl⟩ | ⟨h1, rfl⟩
  · cases a with
    | none => simp [Op.equalIn, run_underlying ht]
    | some a => simp at h1
  · cases b with
    | none => cases a <;> simp [Op.equalIn, run_underlying ht]
    | some b => simp at h1
theorem eqIn_func {p q : Array TypeId} {v : Bool} (ht : P.underlying t = some (.func p q v)) (f : Fn) (a b : Array Value) :
    (Op.equalIn (d + 1) t .nilFunc .nilFunc).run P w = .ok true w ∧ (Op.equalIn (d + 1) t .nilFunc (.func f a b)).run P w = .ok false w ∧ (Op.equalIn (d + 1) t (.func f a b) .nilFunc).run P w = .ok false w := by
  refine ⟨?_, ?_, ?_⟩ <;> simp [Op.equalIn, run_underlying ht]
end

theorem run_nilCmp {t : TypeId} {d : TypeDesc} (ht : P.underlying t = some d) {x y : C} {x' y' : Value} (hx : CRel β x x') (hy : CRel β y y') {r : Bool} (h : nilCmp d x y = some r) (w : World) :
    (Op.equal t x' y').run P w = .ok r w ∧ (∀ op a b, (eqGuard op t a b x' y').run P w = .ok () w) ∧ binOp .eql t x' y' = (do pure (.bool (← Op.equal t x' y'))) ∧ binOp .neq t x' y' = (do pure (.bool (!(← Op.equal t x' y')))) := by
  have h' : (∃ q, refIsNil d x = some true ∧ refIsNil d y = some q ∧ r = q) ∨ (∃ q, refIsNil d x = some q ∧ refIsNil d y = some true ∧ r = q) := by
    unfold nilCmp at h
    split at h
    · rename_i h1 h2; simp only [Option.some.injEq] at h; exact .inl ⟨_, h1, h2, h.symm⟩
    · rename_i h1 h2; simp only [Option.some.injEq] at h; exact .inr ⟨_, h1, h2, h.symm⟩
    · cases h
  have key : ∀ p q, refIsNil d x = some p → refIsNil d y = some q → ((p = true ∧ r = q) ∨ (q = true ∧ r = p)) →
    (Op.equal t x' y').run P w = .ok r w ∧ (∀ op a b, (eqGuard op t a b x' y').run P w = .ok () w) ∧ binOp .eql t x' y' = (do pure (.bool (← Op.equal t x' y'))) ∧ binOp .neq t x' y' = (do pure (.bool (!(← Op.equal t x' y')))) := by
    intro p q h1 h2 hpq
    rcases refIsNil_rel hx h1 with ⟨e, a, rfl, rfl, rfl⟩ | ⟨e, a, n, c, rfl, rfl, rfl⟩ | ⟨k, e, a, rfl, rfl, rfl⟩ | ⟨pp, qq, vv, rfl, hxx⟩ <;>
      rcases refIsNil_rel hy h2 with ⟨e', a', he, rfl, rfl⟩ | ⟨e', a', n', c', he, rfl, rfl⟩ | ⟨k', e', a', he, rfl, rfl⟩ | ⟨pp', qq', vv', he, hyy⟩ <;> cases he
    · exact ⟨eqIn_ptr 9999 w ht _ _ _ hpq, fun op u v => by cases op <;> rfl, rfl, rfl⟩
    · exact ⟨eqIn_slice 9999 w ht _ _ _ _ _ _ _ hpq, fun op u v => by cases op <;> rfl, rfl, rfl⟩
    · exact ⟨eqIn_map 9999 w ht _ _ _ hpq, fun op u v => by cases op <;> rfl, rfl, rfl⟩
    · rcases hxx with ⟨rfl, rfl⟩ | ⟨⟨f, a, b, rfl⟩, rfl⟩ <;> rcases hyy with ⟨rfl, rfl⟩ | ⟨⟨f', a', b', rfl⟩, rfl⟩
      · have : r = true := by simpa using hpq
        subst this
        exact ⟨(eqIn_func 9999 w ht (.func 0) #[] #[]).1, fun op u v => by cases op <;> rfl, rfl, rfl⟩
      · have : r = false := by simpa using hpq
        subst this
        exact ⟨(eqIn_func 9999 w ht f' a' b').2.1, fun op u v => by cases op <;> rfl, rfl, rfl⟩
      · have : r = false := by simpa using hpq
        subst this
        exact ⟨(eqIn_func 9999 w ht f a b).2.2, fun op u v => by cases op <;> rfl, rfl, rfl⟩
      · simp at hpq
  rcases h' with ⟨q, h1, h2, rfl⟩ | ⟨q, h1, h2, rfl⟩
  · exact key _ _ h1 h2 (.inl ⟨rfl, rfl⟩)
  · exact key _ _ h1 h2 (.inr ⟨rfl, rfl⟩)
end Go.Am

namespace Go.Am
open Go

variable {cx : Cx} {P : Program} {B fl : Nat} {β : Be} {st : St} {w : World}

theorem map_sc_rel {e : Sem Value} {v : V} (h : (pureSem default 0 e).map sc = some v) : ∃ u, e = .pure u ∧ v = sc u := by
  simp only [Option.map_eq_some_iff] at h
  obtain ⟨u, hu, rfl⟩ := h
  exact ⟨u, pureSem_zero hu, rfl⟩

theorem run_guard_scal (op : BinOp) (t : TypeId) (a b : Operand) {x y : Value} (hx : ∀ c, x ≠ .agg c) (hn : x ≠ .nilIface) (w : World) : (eqGuard op t a b x y).run P w = .ok () w := by
  cases op <;> cases x <;> first | rfl | exact absurd rfl (hx _) | exact absurd rfl hn | (cases y <;> rfl)

theorem run_binop_int (op : BinOp) (t : TypeId) (k k' : IntKind) (x y : Int) (a b : Operand) {v : V} (hop : op ≠ .shl ∧ op ≠ .shr) (h : (bif decide (k = k') then
      (match op with
      | .add => some (sc (.int k (k.wrap (x + y))))
      | .sub => some (sc (.int k (k.wrap (x - y))))
      | .mul => some (sc (.int k (k.wrap (x * y))))
      | .eql => some (sc (.bool (x == y)))
      | .neq => some (sc (.bool (x != y)))
      | .lss => some (sc (.bool (x < y)))
      | .leq => some (sc (.bool (x ≤ y)))
      | .gtr => some (sc (.bool (x > y)))
      | .geq => some (sc (.bool (x ≥ y)))
      | .quo => (pureSem default 0 (Op.intDiv .quo k x y)).map sc
      | .rem => (pureSem default 0 (Op.intDiv .rem k x y)).map sc
      | op => (pureSem default 0 (Op.intBits op k x y)).map sc)
    else none) = some v) (w : World) : ∃ u, ((do eqGuard op t a b (.int k x) (.int k' y); binOp op t (.int k x) (.int k' y) : Sem Value)).run P w = .ok u w ∧ v = sc u := by
  have hg := run_guard_scal (P := P) op t a b (x := .int k x) (y := .int k' y) (fun c => by simp) (by simp) w
  cases hk : decide (k = k') with
  | false => rw [hk] at h; simp at h
  | true =>
    have hk' := of_decide_eq_true hk
    subst hk'
    rw [hk] at h
    simp only [cond_true] at h
    simp only [Sem.run_bind, hg, Result.andThen_ok]
    cases op <;> simp only at h <;> first
      | exact absurd rfl hop.1
      | exact absurd rfl hop.2
      | (simp only [Option.some.injEq] at h; subst h; exact ⟨_, by simp [binOp, Op.intArith, Op.intCmp], rfl⟩)
      | (obtain ⟨u, hu, rfl⟩ := map_sc_rel h; exact ⟨u, by simp [binOp, hu], rfl⟩)

theorem run_binop0 (hx : CxOk cx P) {op : BinOp} {t : TypeId} {x y v : V} {x' y' : Value} (hf : Facts cx β.env) (hxr : VRel β x x') (hyr : VRel β y y') (h : binop0 cx op t x y = some v) (a b : Operand) (w : World) :
    ∃ v', ((do eqGuard op t a b x' y'; binOp op t x' y' : Sem Value)).run P w = .ok v' w ∧ VRel β v v' := by
  unfold binop0 at h
  split at h
  · -- shl
    have e1 : x' = _ := hxr
    have e2 : y' = _ := hyr
    subst e1 e2
    obtain ⟨u, hu, rfl⟩ := map_sc_rel h
    exact ⟨u, by simp [eqGuard, binOp, hu], rfl⟩
  · have e1 : x' = _ := hxr
    have e2 : y' = _ := hyr
    subst e1 e2
    obtain ⟨u, hu, rfl⟩ := map_sc_rel h
    exact ⟨u, by simp [eqGuard, binOp, hu], rfl⟩
  · -- integers
    rename_i k p k' q hn1 hn2
    have e1 : x' = _ := hxr
    have e2 : y' = _ := hyr
    subst e1 e2
    obtain ⟨u, hu, rfl⟩ := run_binop_int (P := P) op t k k' p q a b ⟨hn1, hn2⟩ h w
    exact ⟨u, hu, rfl⟩
  · -- strings
    rename_i p q
    have e1 : x' = _ := hxr
    have e2 : y' = _ := hyr
    subst e1 e2
    obtain ⟨u, hu, rfl⟩ := map_sc_rel h
    have hg := run_guard_scal (P := P) op t a b (x := .string p) (y := .string q) (fun c => by simp) (by simp) w
    refine ⟨u, ?_, rfl⟩
    simp only [Sem.run_bind, hg, Result.andThen_ok]
    cases op <;> simp [binOp, hu]
  · -- bools
    rename_i p q
    have e1 : x' = _ := hxr
    have e2 : y' = _ := hyr
    subst e1 e2
    split at h
    · rename_i ty ht
      obtain ⟨i, z, hT⟩ := hx.is ht
      split at h
      · rename_i hu
        simp only [Option.some.injEq] at h; subst h
        refine ⟨_, ?_, rfl⟩
        have h2 : (Op.equal t (.bool p) (.bool q)).run P w = .ok (p == q) w := run_equalIn_bool w 9999 t _ _ (P := P) (by rw [hT.under, hu])
        simp [eqGuard, binOp, h2]
      · cases h
    · cases h
  · rename_i p q
    have e1 : x' = _ := hxr
    have e2 : y' = _ := hyr
    subst e1 e2
    split at h
    · rename_i ty ht
      obtain ⟨i, z, hT⟩ := hx.is ht
      split at h
      · rename_i hu
        simp only [Option.some.injEq] at h; subst h
        refine ⟨_, ?_, rfl⟩
        have h2 : (Op.equal t (.bool p) (.bool q)).run P w = .ok (p == q) w := run_equalIn_bool w 9999 t _ _ (P := P) (by rw [hT.under, hu])
        simp [eqGuard, binOp, h2]
      · cases h
    · cases h
  · -- one pointer
    rename_i i o j q
    cases hc : (Nat.beq i j && elemOk cx t) with
    | false => rw [hc] at h; simp at h
    | true =>
      rw [hc] at h
      simp only [cond_true, Option.some.injEq] at h; subst h
      simp only [Bool.and_eq_true] at hc
      have hij := Nat.eq_of_beq_eq_true hc.1
      subst hij
      obtain ⟨bb, e, hb, rfl⟩ := hxr
      obtain ⟨b2, e2, hb2, rfl⟩ := hyr
      rw [hb] at hb2; cases hb2
      have hok := hc.2
      unfold elemOk at hok
      split at hok
      · rename_i ty ht
        obtain ⟨i', z', hT⟩ := hx.is ht
        split at hok
        · rename_i el hu
          split at hok
          · rename_i ety het
            obtain ⟨i2, z2, hE⟩ := hx.is het
            have hne : ety.size ≠ 0 := fun e => by rw [e] at hok; simp at hok
            have heq : (Op.equal t (adr bb o) (adr bb q)).run P w = .ok (Nat.beq o q) w := by
              have : ∀ d, (Op.equalIn (d + 1) t (adr bb o) (adr bb q)).run P w = .ok (Nat.beq o q) w := fun d => by
                have hbq : ((⟨bb, o, none⟩ : Addr) == ⟨bb, q, none⟩) = Nat.beq o q := by
                  cases h : Nat.beq o q with
                  | true => have := Nat.eq_of_beq_eq_true h; subst this; simp
                  | false =>
                    have : o ≠ q := fun e => by subst e; rw [T.beq_true rfl] at h; cases h
                    simp [this]
                simp [Op.equalIn, hT.run_under, hu, adr, hE.run_size, hne, sameAddr]
                exact hbq
              exact this 9999
            refine ⟨_, ?_, rfl⟩
            have hg := run_guard_scal (P := P) .eql t a b (x := adr bb o) (y := adr bb q) (fun c => by simp [adr]) (by simp [adr]) w
            have h3 : binOp .eql t (adr bb o) (adr bb q) = (do pure (.bool (← Op.equal t (adr bb o) (adr bb q)))) := rfl
            simp only [Sem.run_bind, hg, Result.andThen_ok, h3, heq, Sem.run_pure]
          · cases hok
        · cases hok
      · cases hok
  · rename_i i o j q
    cases hc : (Nat.beq i j && elemOk cx t) with
    | false => rw [hc] at h; simp at h
    | true =>
      rw [hc] at h
      simp only [cond_true, Option.some.injEq] at h; subst h
      simp only [Bool.and_eq_true] at hc
      have hij := Nat.eq_of_beq_eq_true hc.1
      subst hij
      obtain ⟨bb, e, hb, rfl⟩ := hxr
      obtain ⟨b2, e2, hb2, rfl⟩ := hyr
      rw [hb] at hb2; cases hb2
      have hok := hc.2
      unfold elemOk at hok
      split at hok
      · rename_i ty ht
        obtain ⟨i', z', hT⟩ := hx.is ht
        split at hok
        · rename_i el hu
          split at hok
          · rename_i ety het
            obtain ⟨i2, z2, hE⟩ := hx.is het
            have hne : ety.size ≠ 0 := fun e => by rw [e] at hok; simp at hok
            have heq : (Op.equal t (adr bb o) (adr bb q)).run P w = .ok (Nat.beq o q) w := by
              have : ∀ d, (Op.equalIn (d + 1) t (adr bb o) (adr bb q)).run P w = .ok (Nat.beq o q) w := fun d => by
                have hbq : ((⟨bb, o, none⟩ : Addr) == ⟨bb, q, none⟩) = Nat.beq o q := by
                  cases h : Nat.beq o q with
                  | true => have := Nat.eq_of_beq_eq_true h; subst this; simp
                  | false =>
                    have : o ≠ q := fun e => by subst e; rw [T.beq_true rfl] at h; cases h
                    simp [this]
                simp [Op.equalIn, hT.run_under, hu, adr, hE.run_size, hne, sameAddr]
                exact hbq
              exact this 9999
            refine ⟨_, ?_, rfl⟩
            have hg := run_guard_scal (P := P) .neq t a b (x := adr bb o) (y := adr bb q) (fun c => by simp [adr]) (by simp [adr]) w
            have h3 : binOp .neq t (adr bb o) (adr bb q) = (do pure (.bool (!(← Op.equal t (adr bb o) (adr bb q))))) := rfl
            simp only [Sem.run_bind, hg, Result.andThen_ok, h3, heq, Sem.run_pure]
          · cases hok
        · cases hok
      · cases hok
  · -- nil
    split at h
    · rename_i ty ht
      obtain ⟨i, z, hT⟩ := hx.is ht
      simp only [Option.map_eq_some_iff] at h
      obtain ⟨r, hr, rfl⟩ := h
      obtain ⟨h1, h2, h3, h4⟩ := run_nilCmp hT.under hxr hyr hr w
      refine ⟨_, ?_, rfl⟩
      simp only [Sem.run_bind, h2, Result.andThen_ok, h3, h1, Sem.run_pure]
    · cases h
  · split at h
    · rename_i ty ht
      obtain ⟨i, z, hT⟩ := hx.is ht
      simp only [Option.map_eq_some_iff] at h
      obtain ⟨r, hr, rfl⟩ := h
      obtain ⟨h1, h2, h3, h4⟩ := run_nilCmp hT.under hxr hyr hr w
      refine ⟨_, ?_, rfl⟩
      simp only [Sem.run_bind, h2, Result.andThen_ok, h4, h1, Sem.run_pure]
    · cases h
  · -- aggregates
    rename_i l m
    cases he : cx.eqT t with
    | false => rw [he] at h; simp at h
    | true =>
      rw [he] at h
      simp only [cond_true, Option.map_eq_some_iff] at h
      obtain ⟨r, hr, rfl⟩ := h
      obtain ⟨s1, s2, s3⟩ := hx.eqs t he
      have hq := eqA_rel hx hf 8 9992 t (.agg l) (.agg m) x' y' r hxr hyr hr w
      obtain ⟨p, rfl, p1, p2⟩ := hxr
      obtain ⟨q, rfl, q1, q2⟩ := hyr
      refine ⟨_, ?_, rfl⟩
      simp only [Sem.run_bind, run_eqGuard_agg w .eql t a b p q s2, Result.andThen_ok, run_eql_struct]
      rw [hq]; rfl
  · rename_i l m
    cases he : cx.eqT t with
    | false => rw [he] at h; simp at h
    | true =>
      rw [he] at h
      simp only [cond_true, Option.map_eq_some_iff] at h
      obtain ⟨r, hr, rfl⟩ := h
      obtain ⟨s1, s2, s3⟩ := hx.eqs t he
      have hq := eqA_rel hx hf 8 9992 t (.agg l) (.agg m) x' y' r hxr hyr hr w
      obtain ⟨p, rfl, p1, p2⟩ := hxr
      obtain ⟨q, rfl, q1, q2⟩ := hyr
      refine ⟨_, ?_, rfl⟩
      simp only [Sem.run_bind, run_eqGuard_agg w .neq t a b p q s2, Result.andThen_ok, run_neq_struct]
      rw [hq]; rfl
  · cases h

theorem run_symbin {op : BinOp} {t : TypeId} {k k' : IntKind} {p q : E} {v : V} (hf : Facts cx β.env) (h : symbin cx op k p k' q = some v) (a b : Operand) (w : World) :
    ∃ v', ((do eqGuard op t a b (.int k (p.val β.env)) (.int k' (q.val β.env)); binOp op t (.int k (p.val β.env)) (.int k' (q.val β.env)) : Sem Value)).run P w = .ok v' w ∧ VRel β v v' := by
  have hg := run_guard_scal (P := P) op t a b (x := .int k (p.val β.env)) (y := .int k' (q.val β.env)) (fun c => by simp) (by simp) w
  unfold symbin at h
  cases hk : decide (k = k') with
  | false => rw [hk] at h; simp at h
  | true =>
    have hk' := of_decide_eq_true hk
    subst hk'
    rw [hk] at h
    simp only [cond_true] at h
    simp only [Sem.run_bind, hg, Result.andThen_ok]
    have key : ∀ (tt : Tst) (n : Bool), syB (ask cx tt) n = some v → VRel β v (.bool (bif n then !(tt.holds β.env) else tt.holds β.env)) := fun tt n hh => by
      unfold syB at hh
      simp only [Option.map_eq_some_iff] at hh
      obtain ⟨r, hr, rfl⟩ := hh
      rw [ask_holds hf hr]; rfl
    split at h
    · simp only [Option.some.injEq] at h; subst h; exact ⟨_, by simp [binOp, Op.intArith]; rfl, rfl⟩
    · simp only [Option.some.injEq] at h; subst h; exact ⟨_, by simp [binOp, Op.intArith]; rfl, rfl⟩
    · simp only [Option.some.injEq] at h; subst h; exact ⟨_, by simp [binOp, Op.intArith]; rfl, rfl⟩
    · exact ⟨_, by simp [binOp, Op.intCmp]; rfl, key _ _ h⟩
    · exact ⟨_, by simp [binOp, Op.intCmp]; rfl, key _ _ h⟩
    · refine ⟨.bool (decide (p.val β.env < q.val β.env)), by simp [binOp, Op.intCmp], ?_⟩
      have := key _ _ h
      simp only [Tst.holds, cond_true] at this
      have e : (!decide (q.val β.env ≤ p.val β.env)) = decide (p.val β.env < q.val β.env) := by rw [Bool.eq_iff_iff]; simp
      rw [e] at this; exact this
    · exact ⟨_, by simp [binOp, Op.intCmp]; rfl, key _ _ h⟩
    · refine ⟨.bool (decide (p.val β.env > q.val β.env)), by simp [binOp, Op.intCmp], ?_⟩
      have := key _ _ h
      simp only [Tst.holds, cond_true] at this
      have e : (!decide (p.val β.env ≤ q.val β.env)) = decide (p.val β.env > q.val β.env) := by rw [Bool.eq_iff_iff]; simp
      rw [e] at this; exact this
    · exact ⟨_, by simp [binOp, Op.intCmp]; rfl, key _ _ h⟩
    · split at h
      · rename_i hq
        have hne : q.val β.env ≠ 0 := by have := ask_holds hf hq; simpa [Tst.holds, E.val, E.vals] using this
        simp only [Option.some.injEq] at h; subst h
        exact ⟨.int k (k.wrap ((p.val β.env).tdiv (q.val β.env))), by simp [binOp, Op.intDiv, hne], rfl⟩
      · cases h
    · split at h
      case h_2 => cases h
      rename_i hq
      have hne : q.val β.env ≠ 0 := by have := ask_holds hf hq; simpa [Tst.holds, E.val, E.vals] using this
      have hrun : (binOp .rem t (.int k (p.val β.env)) (.int k (q.val β.env))).run P w = .ok (.int k ((p.val β.env).tmod (q.val β.env))) w := by simp [binOp, Op.intDiv, hne]
      split at h
      · rename_i bb n
        cases hb : Nat.ble n 64 with
        | true =>
          rw [hb] at h
          simp only [cond_true, Option.map_eq_some_iff] at h
          obtain ⟨r, hr, rfl⟩ := h
          have := askIs_holds hf hr
          refine ⟨_, hrun, ?_⟩
          have e : (p.val β.env).tmod (E.val β.env (.lit (.ofNat n))) = r := this
          rw [e]; rfl
        | false =>
          rw [hb] at h
          simp only [cond_false, Option.some.injEq] at h; subst h
          exact ⟨_, hrun, rfl⟩
      · simp only [Option.some.injEq] at h; subst h
        exact ⟨_, hrun, rfl⟩
    · cases h

theorem run_hiB {op : BinOp} {t : TypeId} {x y : V} {x' y' : Value} {r : Bool} (hxr : VRel β x x') (hyr : VRel β y y') (h : hiB op x y = some r) (a b : Operand) (w : World) :
    ((do eqGuard op t a b x' y'; binOp op t x' y' : Sem Value)).run P w = .ok (.bool r) w := by
  unfold hiB at h
  split at h
  case h_2 => cases h
  rename_i k lo k' n
  obtain ⟨z, rfl, hz⟩ := hxr
  have e1 : y' = .int k' n := hyr
  subst e1
  cases hc : (decide (k = k') && decide (n < (lo : Int))) with
  | false => rw [hc] at h; cases h
  | true =>
  rw [hc] at h
  simp only [cond_true] at h
  simp only [Bool.and_eq_true, decide_eq_true_eq] at hc
  obtain ⟨rfl, hn⟩ := hc
  have hg := run_guard_scal (P := P) op t a b (x := .int k z) (y := .int k n) (fun c => by simp) (by simp) w
  simp only [Sem.run_bind, hg, Result.andThen_ok]
  split at h <;> cases h <;> simp [binOp, Op.intCmp] <;> omega

theorem byteE_val (ρ : Env) (k : Nat) (o : E) (j : Nat) : (byteE k o j).val ρ = ρ.f (1000 + k) [o.val ρ + (j : Int)] := rfl

theorem bytesEqB_ok (hf : Facts cx β.env) {k : Nat} {o : E} : ∀ {s l : List UInt8} {j : Nat} {r : Bool}, (∀ (i : Nat) (b : UInt8), l[i]? = some b → (b.toNat : Int) = β.env.f (1000 + k) [o.val β.env + ((j + i : Nat) : Int)]) → l.length = s.length → bytesEqB cx k o s j = some r → (l == s) = r
  | [], [], _, _, _, _, h => by simp only [bytesEqB, Option.some.injEq] at h; subst h; rfl
  | [], _ :: _, _, _, _, hl, _ => by simp at hl
  | _ :: _, [], _, _, _, hl, _ => by simp at hl
  | b :: bs, c :: l, j, r, hb, hl, h => by
    simp only [bytesEqB] at h
    have hc : (c.toNat : Int) = β.env.f (1000 + k) [o.val β.env + (j : Int)] := by simpa using hb 0 c rfl
    have hq : ∀ {q : Bool}, ask cx (.eq (byteE k o j) (.lit (Int.ofNat b.toNat))) = some q → ((c.toNat : Int) == (b.toNat : Int)) = q := fun hq => by
      have := ask_holds hf hq
      simp only [Tst.holds, byteE_val] at this
      rw [hc]; exact this
    split at h
    · rename_i h1
      have e := hq h1
      have e' : c = b := UInt8.toNat_inj.1 (by have := eq_of_beq e; omega)
      have ih := bytesEqB_ok hf (s := bs) (l := l) (j := j + 1) (r := r) (fun i x hx => by have := hb (i + 1) x (by simpa using hx); rw [this]; congr 3; omega) (by simpa using hl) h
      rw [e', List.cons_beq_cons, ih]; simp
    · rename_i h1
      have e := hq h1
      have e' : c ≠ b := fun e2 => by rw [e2] at e; simp at e
      simp only [Option.some.injEq] at h; subst h
      simp [e']
    · cases h

theorem otEqB_ok (hf : Facts cx β.env) {k : Nat} {o n : E} {s l : List UInt8} {r : Bool} (hl : (l.length : Int) = n.val β.env) (hb : ∀ (j : Nat) (b : UInt8), l[j]? = some b → (b.toNat : Int) = β.env.f (1000 + k) [o.val β.env + (j : Int)]) (h : otEqB cx k o n s = some r) : (l == s) = r := by
  unfold otEqB at h
  split at h
  · rename_i h1
    have := ask_holds hf h1
    simp only [Tst.holds] at this
    have e : n.val β.env = (s.length : Int) := by simpa [E.val, E.vals] using this
    exact bytesEqB_ok hf (j := 0) (fun i b hi => by simpa using hb i b hi) (by omega) h
  · rename_i h1
    have := ask_holds hf h1
    simp only [Tst.holds] at this
    have e : n.val β.env ≠ (s.length : Int) := by simpa [E.val, E.vals] using this
    simp only [Option.some.injEq] at h; subst h
    have : l ≠ s := fun e2 => by subst e2; exact e hl.symm
    simp [this]
  · cases h

theorem run_otEq (hf : Facts cx β.env) {op : BinOp} {t : TypeId} {x y : V} {x' y' : Value} {r : Bool} (hxr : VRel β x x') (hyr : VRel β y y') (h : otEq cx op x y = some r) (a b : Operand) (w : World) :
    ((do eqGuard op t a b x' y'; binOp op t x' y' : Sem Value)).run P w = .ok (.bool r) w := by
  unfold otEq at h
  split at h
  case h_2 => cases h
  rename_i k o n s
  obtain ⟨l, rfl, hl, hb⟩ := hxr
  have e1 : y' = .string s := hyr
  subst e1
  have hg := run_guard_scal (P := P) op t a b (x := .string ⟨l.toArray⟩) (y := .string s) (fun c => by simp) (by simp) w
  simp only [Sem.run_bind, hg, Result.andThen_ok]
  have key : ∀ {q : Bool}, otEqB cx k o n s.data.toList = some q → ((⟨l.toArray⟩ : ByteArray).toList == s.toList) = q := fun hq => by
    rw [ByteArray.toList_mk, ByteArray.toList_eq]; exact otEqB_ok hf hl hb hq
  split at h
  · rw [binOp_string_eql, key h]; rfl
  · simp only [Option.map_eq_some_iff] at h
    obtain ⟨q, hq, rfl⟩ := h
    rw [binOp_string_neq, key hq]; rfl
  · cases h

theorem run_binop (hx : CxOk cx P) {op : BinOp} {t : TypeId} {x y v : V} {x' y' : Value} (hf : Facts cx β.env) (hxr : VRel β x x') (hyr : VRel β y y') (h : binop cx op t x y = some v) (a b : Operand) (w : World) :
    ∃ v', ((do eqGuard op t a b x' y'; binOp op t x' y' : Sem Value)).run P w = .ok v' w ∧ VRel β v v' := by
  unfold binop at h
  split at h
  · rename_i k p k' q hs
    unfold symV at hs
    split at hs
    · obtain ⟨rfl, rfl⟩ := symE_rel hxr hyr hs
      exact run_symbin hf h a b w
    · cases hs
  · split at h
    · rename_i r hr
      simp only [Option.some.injEq] at h; subst h
      exact ⟨_, run_hiB hxr hyr hr a b w, rfl⟩
    · split at h
      · rename_i r hr
        simp only [Option.some.injEq] at h; subst h
        exact ⟨_, run_otEq hf hxr hyr hr a b w, rfl⟩
      · exact run_binop0 hx hf hxr hyr h a b w

theorem run_unop {op : UnOp} {x v : V} {x' : Value} (hxr : VRel β x x') (h : unOp op x = some v) (w : World) : ∃ v', (Op.unary op x').run P w = .ok v' w ∧ VRel β v v' := by
  unfold unOp at h
  split at h
  · have e1 : x' = _ := hxr
    subst e1
    obtain ⟨u, hu, rfl⟩ := map_sc_rel h
    exact ⟨u, by rw [hu]; rfl, rfl⟩
  · have e1 : x' = _ := hxr
    subst e1
    split at h
    · simp only [Option.some.injEq] at h; subst h; exact ⟨_, rfl, rfl⟩
    · cases h
  · have e1 : x' = _ := hxr
    subst e1
    split at h
    · simp only [Option.some.injEq] at h; subst h; exact ⟨_, rfl, rfl⟩
    · cases h
  · cases h

theorem run_unsafeConv (hx : CxOk cx P) {src dst : TypeId} {sty dty : Ty} {si di : TypeInfo} {sz dz : Value} (hS : TyIs P src sty si sz) (hD : TyIs P dst dty di dz) {id off b e0 : Nat} (hb : β id = some (b, e0)) (hi : Inv cx B β st w)
    (h : unsafeConv cx st sty.under dty.under id off = true) : (convert src dst (adr b off)).run P w = .ok (adr b off) w := by
  unfold unsafeConv at h
  split at h
  · rename_i t l e fx h1 h2 h3
    obtain ⟨b', e', ob, hb', hh, cur, pre, rest, rfl, hcur, hrel, _, _, _⟩ := hi.live id _ h3
    rw [hb] at hb'; cases hb'
    split at h
    · rename_i ety het
      obtain ⟨i, z, hE⟩ := hx.is het
      simp only [Bool.and_eq_true, Bool.not_eq_true'] at h
      have hs0 : i.size ≠ 0 := by
        rw [hE.size]; intro e; rw [e] at h; simp at h
      have hlt : off < l.length := by simpa [Nat.blt, Nat.ble_eq, Nat.succ_le_iff] using h.2
      have hoff : off < cur.size := by
        rw [← Array.length_toList, hcur, List.length_append, ← hrel.length]; omega
      exact Lib.run_to_unsafe w ⟨b, off, none⟩ (by rw [hS.under, h1]) (by rw [hD.under, h2]) hE.info hs0 (cells := cur.size) (e := e) (by simp [World.shape?, hh]) hoff
    · cases h
  · rename_i u l e h1 h2 h3
    obtain ⟨b', e', ob, hb', hh, cur, pre, rest, rfl, hcur, hrel, _, hno, _⟩ := hi.live id _ h3
    rw [hb] at hb'; cases hb'
    split at h
    · rename_i uty hut
      obtain ⟨i, z, hE⟩ := hx.is hut
      simp only [Bool.and_eq_true, Bool.not_eq_true'] at h
      have c1 := Nat.eq_of_beq_eq_true h.1.1.1
      have c2 := Nat.eq_of_beq_eq_true h.1.1.2
      have c3 := Nat.eq_of_beq_eq_true h.1.2
      subst c1 c2
      have hs0 : uty.size ≠ 0 := fun e => by rw [e] at h; simp at h
      have hsz : cur.size = uty.size := by
        rw [← Array.length_toList, hcur, hno rfl, List.append_nil, ← hrel.length, c3]
      have hco : P.cellsOf e = uty.size := by simp [Program.cellsOf, hE.info, hE.size]
      have hdiv : cur.size / P.cellsOf e = 1 := by rw [hsz, hco]; exact Nat.div_self (Nat.pos_of_ne_zero hs0)
      refine Lib.run_from_unsafe w ⟨b, 0, none⟩ (by rw [hS.under, h1]) (by rw [hD.under, h2]) hE.info (cells := cur.size) (e := e) (by simp [World.shape?, hh]) ?_
      rw [hdiv]
      have hd : P.depth = (2 * (P.types.size + Made.depth) + 1) + 1 := rfl
      rw [hd]
      simp only [liesAt, Bool.or_eq_true]
      left
      rw [hd]
      simp [rowAt, hco, sameLayout, hs0]
    · cases h
  · cases h

theorem encN_ok (hf : Facts cx β.env) {e : E} {n : Nat} (h : encN cx e = some n) : (Utf8.encode (e.val β.env)).size = n := by
  have le1 : ∀ {a b : Int}, (isYes (ask cx (.le (.lit a) e)) && isYes (ask cx (.le e (.lit b)))) = true → a ≤ e.val β.env ∧ e.val β.env ≤ b := fun hc => by
    simp only [Bool.and_eq_true] at hc
    exact ⟨of_decide_eq_true (isYes_ask hf hc.1), of_decide_eq_true (isYes_ask hf hc.2)⟩
  generalize e.val β.env = x at le1 ⊢
  unfold encN at h
  have fin : ∀ c : Nat, (if Utf8.valid x then x.toNat else Utf8.runeError) = c → (Utf8.encode x).size = if c < 0x80 then 1 else if c < 0x800 then 2 else if c < 0x10000 then 3 else 4 := fun c hc => by
    unfold Utf8.encode
    simp only [hc]
    split
    · rfl
    · split
      · rfl
      · split <;> rfl
  cases c1 : (isYes (ask cx (.le (.lit 0) e)) && isYes (ask cx (.le e (.lit 127)))) with
  | true =>
    rw [c1] at h
    simp only [cond_true, Option.some.injEq] at h; subst h
    obtain ⟨h1, h2⟩ := le1 c1
    have hv : Utf8.valid x = true := by simp [Utf8.valid]; omega
    rw [fin x.toNat (by rw [hv]; rfl), if_pos (by omega)]
  | false =>
  rw [c1] at h
  simp only [cond_false] at h
  cases c2 : (isYes (ask cx (.le (.lit 128) e)) && isYes (ask cx (.le e (.lit 2047)))) with
  | true =>
    rw [c2] at h
    simp only [cond_true, Option.some.injEq] at h; subst h
    obtain ⟨h1, h2⟩ := le1 c2
    have hv : Utf8.valid x = true := by simp [Utf8.valid]; omega
    rw [fin x.toNat (by rw [hv]; rfl), if_neg (by omega), if_pos (by omega)]
  | false =>
  rw [c2] at h
  simp only [cond_false] at h
  cases c3 : (isYes (ask cx (.le (.lit 2048) e)) && isYes (ask cx (.le e (.lit 65535)))) with
  | true =>
    rw [c3] at h
    simp only [cond_true, Option.some.injEq] at h; subst h
    obtain ⟨h1, h2⟩ := le1 c3
    by_cases hv : Utf8.valid x = true
    · rw [fin x.toNat (by rw [hv]; rfl), if_neg (by omega), if_neg (by omega), if_pos (by omega)]
    · rw [fin Utf8.runeError (by rw [if_neg hv]), if_neg (by decide), if_neg (by decide), if_pos (by decide)]
  | false =>
  rw [c3] at h
  simp only [cond_false] at h
  cases c4 : (isYes (ask cx (.le (.lit 65536) e)) && isYes (ask cx (.le e (.lit 1114111)))) with
  | false => rw [c4] at h; cases h
  | true =>
    rw [c4] at h
    simp only [cond_true, Option.some.injEq] at h; subst h
    obtain ⟨h1, h2⟩ := le1 c4
    have hv : Utf8.valid x = true := by simp [Utf8.valid]; omega
    rw [fin x.toNat (by rw [hv]; rfl), if_neg (by omega), if_neg (by omega), if_neg (by omega)]

theorem run_conv (hx : CxOk cx P) {src dst : TypeId} {x v : V} {x' : Value} (hxr : VRel β x x') (hi : Inv cx B β st w) (h : convOp cx st src dst x = some v) : ∃ v', (convert src dst x').run P w = .ok v' w ∧ VRel β v v' := by
  unfold convOp at h
  split at h
  · rename_i sty dty k n hs hd
    obtain ⟨i, z, hS⟩ := hx.is hs
    obtain ⟨i', z', hD⟩ := hx.is hd
    have e1 : x' = _ := hxr
    subst e1
    split at h
    · rename_i k' hu
      simp only [Option.some.injEq] at h; subst h
      refine ⟨_, ?_, rfl⟩
      simp only [convert, Sem.run_bind, hS.run_under, hD.run_under, hu, Result.andThen_ok]
      cases sty.under <;> rfl
    · rename_i hu
      simp only [Option.some.injEq] at h; subst h
      refine ⟨_, ?_, rfl⟩
      simp only [convert, Sem.run_bind, hS.run_under, hD.run_under, hu, Result.andThen_ok]
      cases sty.under <;> rfl
    · cases h
  · rename_i sty dty k e hs hd
    obtain ⟨i, z, hS⟩ := hx.is hs
    obtain ⟨i', z', hD⟩ := hx.is hd
    have e1 : x' = _ := hxr
    subst e1
    split at h
    · rename_i k' hu
      simp only [Option.some.injEq] at h; subst h
      refine ⟨.int k' (k'.wrap (e.val β.env)), ?_, rfl⟩
      simp only [convert, Sem.run_bind, hS.run_under, hD.run_under, hu, Result.andThen_ok]
      cases sty.under <;> rfl
    · rename_i hu
      simp only [Option.map_eq_some_iff] at h
      obtain ⟨n, hn, rfl⟩ := h
      refine ⟨_, ?_, rfl, encN_ok hi.facts hn⟩
      simp only [convert, Sem.run_bind, hS.run_under, hD.run_under, hu, Result.andThen_ok]
      cases sty.under <;> rfl
    · cases h
  · rename_i sty dty s hs hd
    obtain ⟨i, z, hS⟩ := hx.is hs
    obtain ⟨i', z', hD⟩ := hx.is hd
    have e1 : x' = _ := hxr
    subst e1
    split at h
    · rename_i hu
      simp only [Option.some.injEq] at h; subst h
      refine ⟨_, ?_, rfl⟩
      simp only [convert, Sem.run_bind, hS.run_under, hD.run_under, hu, Result.andThen_ok]
      cases sty.under <;> rfl
    · cases h
  · rename_i sty dty k off len hs hd
    obtain ⟨i, z, hS⟩ := hx.is hs
    obtain ⟨i', z', hD⟩ := hx.is hd
    obtain ⟨l, rfl, hl, hb⟩ := hxr
    split at h
    · rename_i hu
      simp only [Option.some.injEq] at h; subst h
      refine ⟨_, ?_, l, rfl, hl, hb⟩
      simp only [convert, Sem.run_bind, hS.run_under, hD.run_under, hu, Result.andThen_ok]
      cases sty.under <;> rfl
    · cases h
  · rename_i sty dty k off len hs hd
    obtain ⟨i, z, hS⟩ := hx.is hs
    obtain ⟨i', z', hD⟩ := hx.is hd
    obtain ⟨l, rfl, hl, hb⟩ := hxr
    split at h
    · rename_i hu
      simp only [Option.some.injEq] at h; subst h
      refine ⟨_, ?_, l, rfl, hl, hb⟩
      simp only [convert, Sem.run_bind, hS.run_under, hD.run_under, hu, Result.andThen_ok]
      cases sty.under <;> rfl
    · cases h
  · rename_i sty dty id off hs hd
    obtain ⟨i, z, hS⟩ := hx.is hs
    obtain ⟨i', z', hD⟩ := hx.is hd
    cases hu : unsafeConv cx st sty.under dty.under id off with
    | false => rw [hu] at h; simp at h
    | true =>
      rw [hu] at h
      simp only [cond_true, Option.some.injEq] at h; subst h
      obtain ⟨b, e, hb, rfl⟩ := hxr
      exact ⟨_, run_unsafeConv hx hS hD hb hi hu, b, e, hb, rfl⟩
  · cases h
end Go.Am
