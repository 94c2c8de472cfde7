/- Totals without those of nothing, by the reference: by the kit's walk. Totals brought up to date by the reference (Update): by the kit's walk; sums of lists of totals. -/
import Derived.Test.YtbfonnoebbjenaaGreatDoorAxUc
import Derived.Test.YtbfonnoebbjenaaGreatDoorAxShelf
import Derived.Test.YtbfonnoebbjenaaGreatDoorAxUa
import Derived.Test.YtbfonnoebbjenaaGreatDoorAxTi
namespace Go.Proofs.Tryz
open Go Go.Am Go.RowKit Go.Op
set_option maxRecDepth 100000

theorem clean_snoc {l : List Tot} {i : Nat} {t : Tot} (h : l[i]? = some t) : cleanT (l.take (i + 1)) = cleanT (l.take i) ++ if nzT t = true then [t] else [] := by
  rw [take_snoc h, cleanT, cleanT, List.filter_append]
  congr 1
  cases hq : nzT t <;> simp [hq]
theorem clean_len (l : List Tot) (i : Nat) : (cleanT (l.take i)).length ≤ i := Nat.le_trans (List.length_filter_le _ _) (by rw [List.length_take]; omega)
set_option maxHeartbeats 3200000 in
theorem without_w {l : List Tot} {v : Value} {w : World} (h : IsTots w v l) (hn : l.length ≤ 10000) :
    Calls prog 92 #[v] w fun e w' => (∃ u, e = .returned u ∧ OwnTots w' w.heap.size 56 u (cleanT l)) ∧ Below w.heap.size w w' := by
  obtain ⟨iT, TT⟩ := elTR
  have HT := Lib.hid TT
  clear TT
  have h0 := h
  obtain ⟨ad, c, rfl, hnc⟩ := h0.slice
  have hs0 : OwnTots w w.heap.size 56 (.slice none 0 0) (cleanT (l.take 0)) := OwnTots.start _ _ _
  obtain ⟨n, hln⟩ : ∃ n, l.length = n := ⟨_, rfl⟩
  have HL := Lib.hid hln
  rw [hln] at hn hnc ⊢
  clear hln
  go_enter func92, ntmps92
  go_wp2_with fail
  go_loopw [3, 4] (fun t s wr => ∃ i : Nat, i ≤ n ∧ s = .int .i64 i ∧ OwnTots wr w.heap.size 56 t (cleanT (l.take i)) ∧ Below w.heap.size w wr) (fun _ s _ => n - (numOf' s).toNat)
  case atStart => exact ⟨0, Nat.zero_le _, rfl, hs0, Below.refl _ _⟩
  case round =>
    clear hs0
    obtain ⟨i, hi, rfl, hl, hb⟩ := hrel
    by_cases hin : i < n
    · obtain ⟨t, ht⟩ : ∃ t, l[i]? = some t := ⟨_, List.getElem?_eq_getElem (by rw [HL.out]; exact hin)⟩
      obtain ⟨b, off, c1, e, -, p0, p1, pc⟩ := (h.below hb).at ht
      simp only [HL.out, Value.slice.injEq, true_and] at e
      obtain ⟨rfl, rfl⟩ := e
      have hc0 := pc 0 (by omega)
      have hc1 := pc 1 (by omega)
      have hc2 := pc 2 (by omega)
      have hc3 := pc 3 (by omega)
      have hc4 := pc 4 (by omega)
      have hc5 := pc 5 (by omega)
      have hc6 := pc 6 (by omega)
      have hc7 := pc 7 (by omega)
      have hc8 := pc 8 (by omega)
      have hc9 := pc 9 (by omega)
      have hc10 := pc 10 (by omega)
      have hc11 := pc 11 (by omega)
      simp only [Nat.reduceAdd] at hc0 hc1 hc2 hc3 hc4 hc5 hc6 hc7 hc8 hc9 hc10 hc11
      have hii : (i : Int) < (n : Int) := by omega
      have hk := clean_snoc ht
      have hz := neq_cnts t.c (fun _ => 0)
      have HH := Lib.hid h
      clear pc ht h
      by_cases q1 : t.gm = 0
      · have q1' : (t.gm != 0) = false := by simp [q1]
        cases q2 : allEq t.c (fun _ => 0) 0 12 with
        | true =>
          rw [q2] at hz
          have hl9 : OwnTots wr w.heap.size 56 u3 (cleanT (l.take (i + 1))) := by
            rw [hk, show nzT t = false by simp [nzT, q1, q2], if_neg (by decide), List.append_nil]; exact hl
          clear hk q1 q2 hl
          simp only [Bool.not_true] at hz
          go_wp2_with fail
          go_roundw
          case rel => exact ⟨i + 1, by omega, by go_num, hl9, hb⟩
          case measure => simp [numOf'] <;> omega
        | false =>
          rw [q2] at hz
          have HTk : Hid (cleanT (l.take (i + 1)) = cleanT (l.take i) ++ [t]) := Lib.hid (by rw [hk, show nzT t = true by simp [nzT, q2], if_pos rfl])
          clear hk q1 q2
          simp only [Bool.not_false] at hz
          go_wp2_with (first
            | (with_reducible refine haltR ?_)
            | fail)
          unfold Halt
          clear p0 p1 hc0 hc1 hc2 hc3 hc4 hc5 hc6 hc7 hc8 hc9 hc10 hc11
          have hal := fun o => (Below.refl wr.heap.size wr).alloc (Nat.le_refl _) o
          refine wpList_sliceR (fun w => run_sliceTR w t) _ rfl _ rfl rfl ?_
          refine wpList_appendR HT.out _ rfl _ _ rfl w.heap.size _ ((cleanT (l.take i)).map Tot.cells) _ rfl 1 rfl (hl.below (hal _)) (by rw [List.length_map]; have := clean_len l i; omega) t.cells (Tot.len _) (Tot.one _) ?hat ?c2 ?_
          case hat => rw [Tot.arr_eq]; exact at_new _ _ _
          case c2 => exact Nat.le_trans hb.size (hal _).size
          intro a9 k9 c9 w9 hA
          have hl9 : OwnTots w9 w.heap.size 56 (.slice a9 k9 c9) (cleanT (l.take (i + 1))) := by rw [HTk.out]; exact OwnTots.more hA
          have hb9 := hA.below w (hb.trans ((hal _).mono hb.size)) (Nat.le_refl _)
          clear hA hl hb hal HTk
          go_wp2_with fail
          go_roundw
          case rel => exact ⟨i + 1, by omega, by go_num, hl9, hb9⟩
          case measure => simp [numOf'] <;> omega
      · have q1' : (t.gm != 0) = true := by simpa using q1
        have HTk : Hid (cleanT (l.take (i + 1)) = cleanT (l.take i) ++ [t]) := Lib.hid (by rw [hk, show nzT t = true by simp [nzT, q1], if_pos rfl])
        clear hk q1 hz
        go_wp2_with (first
          | (with_reducible refine haltR ?_)
          | fail)
        unfold Halt
        clear p0 p1 hc0 hc1 hc2 hc3 hc4 hc5 hc6 hc7 hc8 hc9 hc10 hc11
        have hal := fun o => (Below.refl wr.heap.size wr).alloc (Nat.le_refl _) o
        refine wpList_sliceR (fun w => run_sliceTR w t) _ rfl _ rfl rfl ?_
        refine wpList_appendR HT.out _ rfl _ _ rfl w.heap.size _ ((cleanT (l.take i)).map Tot.cells) _ rfl 1 rfl (hl.below (hal _)) (by rw [List.length_map]; have := clean_len l i; omega) t.cells (Tot.len _) (Tot.one _) ?hat ?c2 ?_
        case hat => rw [Tot.arr_eq]; exact at_new _ _ _
        case c2 => exact Nat.le_trans hb.size (hal _).size
        intro a9 k9 c9 w9 hA
        have hl9 : OwnTots w9 w.heap.size 56 (.slice a9 k9 c9) (cleanT (l.take (i + 1))) := by rw [HTk.out]; exact OwnTots.more hA
        have hb9 := hA.below w (hb.trans ((hal _).mono hb.size)) (Nat.le_refl _)
        clear hA hl hb hal HTk
        go_wp2_with fail
        go_roundw
        case rel => exact ⟨i + 1, by omega, by go_num, hl9, hb9⟩
        case measure => simp [numOf'] <;> omega
    · obtain rfl : i = n := by omega
      have hl9 : OwnTots wr w.heap.size 56 u3 (cleanT l) := by rw [List.take_of_length_le (by rw [HL.out]; exact Nat.le_refl _)] at hl; exact hl
      clear hl h
      go_wp2_with fail
      go_ret
      exact ⟨⟨_, rfl, hl9⟩, hb⟩
end Go.Proofs.Tryz

namespace Go.Proofs.Tryz
open Go Go.Am Go.RowKit Go.Op
set_option maxRecDepth 100000

/-- A list of totals summed onto one. -/
def sumT (L : List Tot) (ds : List Tot) : List Tot := ds.foldl (fun L d => insT 1 d L) L
theorem sumT_snoc (L ds : List Tot) (d : Tot) : sumT L (ds ++ [d]) = insT 1 d (sumT L ds) := by simp [sumT]
theorem sumT_append (L a b : List Tot) : sumT L (a ++ b) = sumT (sumT L a) b := by simp [sumT]
theorem sumT_sort {L : List Tot} : ∀ {ds : List Tot}, SortT L → SortT (sumT L ds)
  | [], h => h
  | d :: ds, h => by
    show SortT (sumT (insT 1 d L) ds)
    exact sumT_sort (insT_sort h)
theorem sumT_len {L : List Tot} : ∀ {ds : List Tot}, (sumT L ds).length ≤ L.length + ds.length
  | [] => Nat.le_refl _
  | d :: ds => by
    show (sumT (insT 1 d L) ds).length ≤ _
    have h1 := sumT_len (L := insT 1 d L) (ds := ds)
    have h2 := insT_len 1 d L
    rw [List.length_cons]; omega
/-- Numbers within k times the range. -/
def InB (k : Nat) (L : List Tot) : Prop := ∀ t ∈ L, (-(k * 999999999 : Int) ≤ t.gm ∧ t.gm ≤ k * 999999999) ∧ ∀ i, i < 12 → -(k * 999999999 : Int) ≤ t.c i ∧ t.c i ≤ k * 999999999
theorem InB.mono {k m : Nat} {L : List Tot} (h : InB k L) (hk : k ≤ m) : InB m L := fun t ht => by
  have := h t ht
  exact ⟨by omega, fun i hi => by have := this.2 i hi; omega⟩
theorem InB.ins {k : Nat} {d : Tot} (hd : NumK d 12) : ∀ {L : List Tot}, InB k L → InB (k + 1) (insT 1 d L) := by
  have up : ∀ t : Tot, ((-(k * 999999999 : Int) ≤ t.gm ∧ t.gm ≤ k * 999999999) ∧ ∀ i, i < 12 → -(k * 999999999 : Int) ≤ t.c i ∧ t.c i ≤ k * 999999999) → ((-((k + 1 : Nat) * 999999999 : Int) ≤ t.gm ∧ t.gm ≤ (k + 1 : Nat) * 999999999) ∧ ∀ i, i < 12 → -((k + 1 : Nat) * 999999999 : Int) ≤ t.c i ∧ t.c i ≤ (k + 1 : Nat) * 999999999) := fun t h => ⟨by omega, fun i hi => by have := h.2 i hi; omega⟩
  have ad : ∀ t : Tot, ((-(k * 999999999 : Int) ≤ t.gm ∧ t.gm ≤ k * 999999999) ∧ ∀ i, i < 12 → -(k * 999999999 : Int) ≤ t.c i ∧ t.c i ≤ k * 999999999) → ((-((k + 1 : Nat) * 999999999 : Int) ≤ (addT t 1 d).gm ∧ (addT t 1 d).gm ≤ (k + 1 : Nat) * 999999999) ∧ ∀ i, i < 12 → -((k + 1 : Nat) * 999999999 : Int) ≤ (addT t 1 d).c i ∧ (addT t 1 d).c i ≤ (k + 1 : Nat) * 999999999) := fun t h => by
    have h1 := hd.1
    unfold inR at h1
    simp only [addT]
    exact ⟨by omega, fun i hi => by have := h.2 i hi; have h2 := hd.2 i hi; unfold inR at h2; omega⟩
  intro L h
  induction L with
  | nil =>
    intro t ht
    simp only [insT, List.mem_singleton] at ht
    subst ht
    exact ad _ ⟨by simp only [zeroT]; omega, fun i _ => by simp only [zeroT]; omega⟩
  | cons y r ih =>
    have hy := h y (by simp)
    intro t ht
    unfold insT at ht
    split at ht
    · rcases List.mem_cons.1 ht with rfl | ht
      · exact ad _ hy
      · exact up _ (h t (by simp [ht]))
    · split at ht
      · rcases List.mem_cons.1 ht with rfl | ht
        · exact ad _ ⟨by simp only [zeroT]; omega, fun i _ => by simp only [zeroT]; omega⟩
        · exact up _ (h t ht)
      · rcases List.mem_cons.1 ht with rfl | ht
        · exact up _ hy
        · exact ih (fun t ht => h t (by simp [ht])) t ht
theorem InB.small {k : Nat} {L : List Tot} (h : InB k L) (hk : k ≤ 1000) : ∀ t ∈ L, SmallT t := fun t ht => by
  have := h t ht
  exact ⟨by omega, fun i hi => by have := this.2 i hi; omega⟩
theorem NumK.small {t : Tot} (h : NumK t 12) : SmallT t := by
  have h1 := h.1
  unfold inR at h1
  exact ⟨by omega, fun i hi => by have := h.2 i hi; unfold inR at this; omega⟩
theorem InB.of {L : List Tot} (h : ∀ t ∈ L, NumK t 12) : InB 1 L := fun t ht => by
  have h0 := h t ht
  have h1 := h0.1
  unfold inR at h1
  exact ⟨by omega, fun i hi => by have := h0.2 i hi; unfold inR at this; omega⟩
theorem sumT_in {k : Nat} : ∀ {ds L : List Tot}, InB k L → (∀ d ∈ ds, NumK d 12) → InB (k + ds.length) (sumT L ds)
  | [], _, h, _ => h
  | d :: ds, L, h, hd => by
    have := sumT_in (ds := ds) (h.ins (hd d (by simp))) fun x hx => hd x (by simp [hx])
    rw [List.length_cons]
    exact this.mono (by omega)
/-- A sorted list, summed up from nothing, is itself. -/
theorem insT_last {d : Tot} : ∀ {L : List Tot}, (∀ t ∈ L, bytesLess t.p d.p = true) → insT 1 d L = L ++ [d]
  | [], _ => by simp [insT, addT, zeroT]
  | y :: r, h => by
    have hy := h y (by simp)
    unfold insT
    rw [if_neg (fun e => bl_ne hy e.symm), if_neg (by rw [bl_asymm hy]; decide), insT_last fun t ht => h t (by simp [ht])]
    rfl
theorem sumT_self : ∀ {L : List Tot}, SortT L → ∀ i, i ≤ L.length → sumT [] (L.take i) = L.take i := fun {L} h i => by
  induction i with
  | zero => intro _; simp [sumT]
  | succ i ih =>
    intro hi
    have ht : L[i]? = some L[i] := List.getElem?_eq_getElem (by omega)
    rw [take_snoc ht, sumT_snoc, ih (by omega)]
    refine insT_last fun t hm => ?_
    obtain ⟨j, hj⟩ := List.mem_iff_getElem?.1 hm
    rw [List.getElem?_take] at hj
    split at hj
    · rename_i hji
      obtain ⟨hjl, rfl⟩ := List.getElem?_eq_some_iff.1 hj
      exact (List.pairwise_iff_getElem.1 h) j i hjl (by omega) hji
    · cases hj

set_option maxHeartbeats 3200000 in
/-- The reference's. -/
theorem updateR_w {l d : List Tot} {v vd : Value} {w : World} (hl : IsTots w v l) (hd : IsTots w vd d) (hn : l.length ≤ 5000) (hnd : d.length ≤ 100) (hs : SortT l) (hk : ∀ t ∈ l, NumK t 12) (hkd : ∀ t ∈ d, NumK t 12) :
    Calls prog 71 #[v, vd] w fun e w' => (∃ u, e = .returned u ∧ OwnTots w' w.heap.size 56 u (cleanT (sumT l d))) ∧ Below w.heap.size w w' := by
  obtain ⟨iT, TT⟩ := elTR
  have HT := Lib.hid TT
  clear TT
  have HL := Lib.hid (And.intro hs (And.intro hk (And.intro hkd hn)))
  have hd0 := hd
  obtain ⟨a2, c2, rfl, hc2⟩ := hd0.slice
  have HV := Lib.hid hl
  have HD := Lib.hid hd
  obtain ⟨n, hln⟩ : ∃ n, d.length = n := ⟨_, rfl⟩
  have HN := Lib.hid hln
  rw [hln] at hnd hc2 ⊢
  clear hln hs hk hkd hl hd hd0 hn
  go_enter func71, ntmps71
  go_wp2_with (first
    | (with_reducible refine haltAp ?_)
    | fail)
  unfold Halt
  have hal : Below w.heap.size w (w.alloc (.cells #[] 56)) := (Below.refl _ _).alloc (Nat.le_refl _) _
  have hemp : OwnTots (w.alloc (.cells #[] 56)) w.heap.size 56 (.slice (some ⟨w.heap.size, 0, none⟩) 0 0) [] :=
    ⟨⟨by simp [flatR], .inr ⟨w.heap.size, 0, #[], rfl, Nat.le_refl _, at_new w #[] 56, Nat.le_refl _, by decide, rfl, by simp [flatR]⟩⟩, fun x hx => by simp at hx⟩
  refine wpList_appendTs HT.out rfl _ _ rfl rfl rfl hemp (HV.out.below hal) (by simp) (Nat.le_trans HL.out.2.2.2 (by decide)) hal.size ?_
  intro v1 w1 hA hg
  have hb1 := hal.grown hg hal.size (fun q hq => (hemp.lt q hq).1)
  rw [List.nil_append] at hA
  have hs0 : OwnTots w1 w.heap.size 56 v1 (sumT l (d.take 0)) := hA
  clear hal hemp hA hg
  go_wp2_with fail
  go_loopw [5, 6] (fun t s wr => ∃ i : Nat, i ≤ n ∧ s = .int .i64 i ∧ OwnTots wr w.heap.size 56 t (sumT l (d.take i)) ∧ Below w.heap.size w wr) (fun _ s _ => n - (numOf' s).toNat)
  case atStart => exact ⟨0, Nat.zero_le _, rfl, hs0, hb1⟩
  case round =>
    clear hs0 hb1
    obtain ⟨i, hi, rfl, hl, hb⟩ := hrel
    by_cases hin : i < n
    · obtain ⟨t, ht⟩ : ∃ t, d[i]? = some t := ⟨_, List.getElem?_eq_getElem (by rw [HN.out]; exact hin)⟩
      obtain ⟨b, off, c1, e, -, p0, p1, pc⟩ := (HD.out.below hb).at ht
      simp only [HN.out, Value.slice.injEq, true_and] at e
      obtain ⟨rfl, rfl⟩ := e
      have hc0 := pc 0 (by omega)
      have hc1 := pc 1 (by omega)
      have hc2 := pc 2 (by omega)
      have hc3 := pc 3 (by omega)
      have hc4 := pc 4 (by omega)
      have hc5 := pc 5 (by omega)
      have hc6 := pc 6 (by omega)
      have hc7 := pc 7 (by omega)
      have hc8 := pc 8 (by omega)
      have hc9 := pc 9 (by omega)
      have hc10 := pc 10 (by omega)
      have hc11 := pc 11 (by omega)
      simp only [Nat.reduceAdd] at hc0 hc1 hc2 hc3 hc4 hc5 hc6 hc7 hc8 hc9 hc10 hc11
      have hii : (i : Int) < (n : Int) := by omega
      have htk : ∀ x ∈ d.take i, NumK x 12 := fun x hx => HL.out.2.2.1 x (List.mem_of_mem_take hx)
      have hin1 := sumT_in (InB.of HL.out.2.1) htk
      have hlen : (d.take i).length ≤ 100 := by rw [List.length_take]; omega
      have cS := summed_w hl hb.size (sumT_sort HL.out.1) (Nat.le_trans sumT_len (by have := HL.out.2.2.2; omega)) t 1 (.inl rfl) ((HL.out.2.2.1 t (List.mem_of_getElem? ht)).small) (hin1.small (by omega))
      have HTk := Lib.hid (show sumT l (d.take (i + 1)) = insT 1 t (sumT l (d.take i)) by rw [take_snoc ht, sumT_snoc])
      clear hl htk hin1 hlen pc ht
      go_wp2_with fail
      go_at_call 133
      refine cS.mono ?_
      rintro e W ⟨⟨u, rfl, hu⟩, hkp⟩
      have hbw := hkp w hb (Nat.le_refl _)
      rw [← HTk.out] at hu
      clear cS hkp hb HTk p0 p1 hc0 hc1 hc2 hc3 hc4 hc5 hc6 hc7 hc8 hc9 hc10 hc11
      go_wp2_with fail
      go_roundw
      case rel => exact ⟨i + 1, by omega, by go_num, hu, hbw⟩
      case measure => simp [numOf'] <;> omega
    · obtain rfl : i = n := by omega
      have hl2 := hl
      rw [List.take_of_length_le (by rw [HN.out]; exact Nat.le_refl _)] at hl2
      have cW := without_w hl2.is (Nat.le_trans sumT_len (by have := HL.out.2.2.2; have := HN.out; omega))
      have hbs := hb.size
      clear hl hl2
      go_wp2_with fail
      go_at_call 92
      refine cW.mono ?_
      rintro e W ⟨⟨u, rfl, hu⟩, hk⟩
      have hu2 := hu.mono hbs
      have hbw := hb.trans (hk.mono hbs)
      clear cW hu hk
      go_wp2_with fail
      go_ret
      exact ⟨⟨_, rfl, hu2⟩, hbw⟩
end Go.Proofs.Tryz
