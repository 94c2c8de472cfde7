/- A list of totals checked by the reference: by the kit's walk; what a list that passes is like. A list of totals checked by the season: by the kit's walk. -/
import Derived.Test.YtbfonnoebbjenaaGreatDoorAxH
namespace Go.Proofs.Tryz
open Go Go.Am Go.RowKit Go.Op
set_option maxRecDepth 100000

def atT (l : List Tot) (i : Nat) : Tot := l[i]?.getD tot0
def lateT (l : List Tot) (i : Nat) : Bool := decide (0 < i) && (bytesLess (atT l i).p (atT l (i - 1)).p || (atT l i).p == (atT l (i - 1)).p)
def totA (l : List Tot) (i : Nat) : Int := if totE (atT l i) = 0 then (if lateT l i = true then 11 else 0) else totE (atT l i)
def totsK (l : List Tot) : Nat → Nat → Int
  | _, 0 => 0
  | i, n + 1 => if totA l i = 0 then totsK l (i + 1) n else totA l i
/-- What a list's check answers. -/
def totsE (l : List Tot) : Int := if 4096 < l.length then 5 else totsK l 0 l.length
theorem tots_step (l : List Tot) {i n : Nat} (h : i < n) : totsK l i (n - i) = if totA l i = 0 then totsK l (i + 1) (n - (i + 1)) else totA l i := by
  rw [show n - i = (n - (i + 1)) + 1 by omega, totsK]
theorem totsK_zero {l : List Tot} : ∀ {n i : Nat}, totsK l i n = 0 → ∀ j, i ≤ j → j < i + n → totA l j = 0
  | 0, i, _, j, h1, h2 => by omega
  | n + 1, i, h, j, h1, h2 => by
    unfold totsK at h
    by_cases h0 : totA l i = 0
    · rw [if_pos h0] at h
      by_cases e : j = i
      · rw [e]; exact h0
      · exact totsK_zero h j (by omega) (by omega)
    · rw [if_neg h0] at h; exact absurd h h0
theorem totA_zero {l : List Tot} {i : Nat} (h : totA l i = 0) : totE (atT l i) = 0 ∧ lateT l i = false := by
  unfold totA at h
  by_cases h0 : totE (atT l i) = 0
  · rw [if_pos h0] at h
    refine ⟨h0, ?_⟩
    cases hl : lateT l i with
    | false => rfl
    | true => rw [hl] at h; cases h
  · rw [if_neg h0] at h; exact absurd h h0
theorem atT_get {l : List Tot} {i : Nat} {t : Tot} (h : l[i]? = some t) : atT l i = t := by unfold atT; rw [h]; rfl
/-- A list that passes: short, sorted, each total in order. -/
theorem totsE_zero {l : List Tot} (h : totsE l = 0) : l.length ≤ 4096 ∧ SortT l ∧ ∀ t ∈ l, isNm t.p = true ∧ NumK t 12 := by
  unfold totsE at h
  by_cases h1 : 4096 < l.length
  · rw [if_pos h1] at h; cases h
  · rw [if_neg h1] at h
    have hall := fun i (hi : i < l.length) => totA_zero (totsK_zero h i (Nat.zero_le _) (by omega))
    have hstep : ∀ i, (hi : i + 1 < l.length) → bytesLess (l[i]'(by omega)).p (l[i + 1]).p = true := fun i hi => by
      have hl := (hall (i + 1) hi).2
      unfold lateT at hl
      rw [decide_eq_true (by omega : 0 < i + 1), Bool.true_and, Nat.add_sub_cancel, atT_get (List.getElem?_eq_getElem hi), atT_get (List.getElem?_eq_getElem (by omega : i < l.length))] at hl
      simp only [Bool.or_eq_false_iff, beq_eq_false_iff_ne] at hl
      cases hb : bytesLess (l[i]'(by omega)).p (l[i + 1]).p with
      | true => rfl
      | false => exact absurd (bl_tri hl.1 hb) hl.2
    refine ⟨by omega, ?_, fun t ht => ?_⟩
    · unfold SortT
      rw [List.pairwise_iff_getElem]
      intro i j hi hj hij
      induction j with
      | zero => omega
      | succ j ih =>
        by_cases e : i = j
        · subst e; exact hstep i hj
        · exact bl_trans (ih (by omega) (by omega)) (hstep j hj)
    · obtain ⟨i, hi⟩ := List.mem_iff_getElem?.1 ht
      have hq := (hall i (List.getElem?_eq_some_iff.1 hi).1).1
      rw [atT_get hi] at hq
      unfold totE numE at hq
      cases hn : isNm t.p with
      | false => rw [hn] at hq; cases hq
      | true =>
        rw [hn, if_pos rfl] at hq
        by_cases hk : NumK t 12
        · exact ⟨rfl, hk⟩
        · rw [if_neg hk] at hq; cases hq

set_option maxHeartbeats 3200000 in
theorem checkTotsR_w {l : List Tot} {v : Value} {w : World} (h : IsTots w v l) (hn : l.length ≤ 10000) :
    Calls prog 31 #[v] w fun e w' => e = .returned (.int .i64 (totsE l)) ∧ Below w.heap.size w w' := by
  have h0 := h
  obtain ⟨ad, c, rfl, hnc⟩ := h0.slice
  obtain ⟨n, hln⟩ : ∃ n, l.length = n := ⟨_, rfl⟩
  have HL := Lib.hid hln
  obtain ⟨R, hR⟩ : ∃ R, totsE l = R := ⟨_, rfl⟩
  rw [hR]
  have HR : Hid (totsE l = R) := Lib.hid hR
  clear hR h0
  rw [hln] at hn hnc ⊢
  clear hln
  by_cases hbig : 4096 < n
  · have hR5 : Hid (R = 5) := Lib.hid (by rw [← HR.out]; unfold totsE; rw [HL.out, if_pos hbig])
    have hbi : (4096 : Int) < (n : Int) := by omega
    go_enter func31, ntmps31
    go_wp2_with fail
    go_ret
    exact ⟨by rw [hR5.out]; rfl, Below.refl _ _⟩
  have hbi : ¬ (4096 : Int) < (n : Int) := by omega
  have HS : Hid (R = totsK l 0 (n - 0)) := Lib.hid (by rw [← HR.out]; unfold totsE; rw [HL.out, if_neg hbig]; rfl)
  clear HR
  go_enter func31, ntmps31
  go_wp2_with fail
  go_loopw [3, 4] (fun s _ wr => ∃ i : Nat, i ≤ n ∧ s = .int .i64 i ∧ Hid (R = totsK l i (n - i)) ∧ Below w.heap.size w wr) (fun s _ _ => n - (numOf' s).toNat)
  case atStart => exact ⟨0, Nat.zero_le _, rfl, HS, Below.refl _ _⟩
  case round =>
    clear HS
    obtain ⟨i, hi, rfl, hE, hb⟩ := hrel
    by_cases hin : i < n
    · obtain ⟨t, ht⟩ : ∃ t, l[i]? = some t := ⟨_, List.getElem?_eq_getElem (by rw [HL.out]; exact hin)⟩
      obtain ⟨b, off, c1, e, -, p0, p1, pc⟩ := (h.below hb).at ht
      simp only [HL.out, Value.slice.injEq, true_and] at e
      obtain ⟨rfl, rfl⟩ := e
      have hc0 := pc 0 (by omega)
      have hc1 := pc 1 (by omega)
      have hc2 := pc 2 (by omega)
      have hc3 := pc 3 (by omega)
      have hc4 := pc 4 (by omega)
      have hc5 := pc 5 (by omega)
      have hc6 := pc 6 (by omega)
      have hc7 := pc 7 (by omega)
      have hc8 := pc 8 (by omega)
      have hc9 := pc 9 (by omega)
      have hc10 := pc 10 (by omega)
      have hc11 := pc 11 (by omega)
      simp only [Nat.reduceAdd] at hc0 hc1 hc2 hc3 hc4 hc5 hc6 hc7 hc8 hc9 hc10 hc11
      have hii : (i : Int) < (n : Int) := by omega
      have cT := checkTotR_w t
      have hs := tots_step l hin
      have hA : Hid (totA l i = if totE t = 0 then (if lateT l i = true then 11 else 0) else totE t) := Lib.hid (by unfold totA; rw [atT_get ht])
      have hE2 := Lib.hid (hE.out.trans hs)
      clear hs pc hE
      go_wp2_with fail
      go_at_call 107
      refine (cT _).mono ?_
      rintro e W ⟨rfl, hk⟩
      have hbw := hb.trans (hk.mono hb.size)
      clear hc0 hc1 hc2 hc3 hc4 hc5 hc6 hc7 hc8 hc9 hc10 hc11 cT p0 p1
      by_cases he0 : totE t = 0
      · rw [he0] at hA ⊢
        have hA2 : Hid (totA l i = if lateT l i = true then 11 else 0) := Lib.hid (by rw [hA.out, if_pos rfl])
        clear hA he0
        go_wp2_with fail
        have hty := (h.below hbw).at ht
        obtain ⟨b2, off2, c2, e2, -, y0, -, -⟩ := hty
        simp only [HL.out, Value.slice.injEq, Option.some.injEq, Addr.mk.injEq, true_and, and_true] at e2
        obtain ⟨⟨rfl, rfl⟩, rfl⟩ := e2
        rcases Nat.eq_zero_or_pos i with rfl | hpos
        · skip
          have hA3 : Hid (R = totsK l (0 + 1) (n - (0 + 1))) := Lib.hid (by
            rw [hE2.out, if_pos (by rw [hA2.out, show lateT l 0 = false from rfl]; rfl)])
          clear hE2 hA2 y0 ht
          go_quiet (fail)
          have hdn : Below w.heap.size w (W.drewN nq) := belowN hbw nq
          all_goals (
            go_wp2_with fail
            go_roundw
            case rel => exact ⟨0 + 1, by omega, by go_num, hA3, hdn⟩
            case measure => simp [numOf'] <;> omega)
        · obtain ⟨k, rfl⟩ : ∃ k, i = k + 1 := ⟨i - 1, by omega⟩
          obtain ⟨q, hq⟩ : ∃ q, l[k]? = some q := ⟨_, List.getElem?_eq_getElem (by rw [HL.out]; omega)⟩
          obtain ⟨b', off', c', e', -, x0, -, -⟩ := (h.below hbw).at hq
          simp only [HL.out, Value.slice.injEq, Option.some.injEq, Addr.mk.injEq, true_and, and_true] at e'
          obtain ⟨⟨rfl, rfl⟩, rfl⟩ := e'
          have i1 : (0:Int) < ((k + 1 : Nat) : Int) := by omega
          have i2 : ((k + 1 : Nat) : Int) - 1 = (k : Int) := by omega
          have i3 : (k : Int) < (n : Int) := by omega
          have i4 : IntKind.i64.wrap (k : Int) = (k : Int) := IntWalk.i64_in _ (by omega)
          have i5 : IntKind.i64.wrap ((k : Int) + 1 - 1) = (k : Int) := by rw [IntWalk.i64_in _ (by omega)]; omega
          have i6 : wrap64 (k : Int) = (k : Int) := by simp only [wrap64] at *; omega
          have l1 : (bA t.p).toList = t.p := bA_list _
          have l2 : (bA q.p).toList = q.p := bA_list _
          have hlt : lateT l (k + 1) = (bytesLess t.p q.p || t.p == q.p) := by
            unfold lateT; rw [decide_eq_true (by omega : 0 < k + 1), Bool.true_and, atT_get ht, Nat.add_sub_cancel, atT_get hq]
          cases hlate : lateT l (k + 1) with
          | true =>
            rw [hlate] at hlt hA2
            have hA3 : Hid (R = 11) := Lib.hid (by rw [hE2.out, hA2.out]; rfl)
            have hlt2 := hlt.symm
            clear hE2 hA2 hlate hlt ht hq
            go_quiet (fail)
            have hdn : Below w.heap.size w (W.drewN nq) := belowN hbw nq
            all_goals (go_wp2_with fail; go_ret; exact ⟨by rw [hA3.out]; rfl, hdn⟩)
          | false =>
            rw [hlate] at hlt hA2
            have hA3 : Hid (R = totsK l (k + 1 + 1) (n - (k + 1 + 1))) := Lib.hid (by rw [hE2.out, if_pos (by rw [hA2.out]; rfl)])
            have hlt2 := hlt.symm
            clear hE2 hA2 hlate hlt ht hq
            go_quiet (fail)
            have hdn : Below w.heap.size w (W.drewN nq) := belowN hbw nq
            all_goals (
              go_wp2_with fail
              go_roundw
              case rel => exact ⟨k + 1 + 1, by omega, by go_num, hA3, hdn⟩
              case measure => simp [numOf'] <;> omega)
      · have hA2 : Hid (R = totE t) := Lib.hid (by rw [hE2.out, hA.out, if_neg he0, if_neg he0])
        obtain ⟨x, hx⟩ : ∃ x, totE t = x := ⟨_, rfl⟩
        rw [hx] at he0 hA2 ⊢
        clear hA hE2 hx
        go_wp2_with fail
        go_ret
        exact ⟨by rw [hA2.out]; rfl, hbw⟩
    · obtain rfl : i = n := by omega
      have hE2 : Hid (R = 0) := Lib.hid (by rw [hE.out, Nat.sub_self]; rfl)
      clear hE
      go_wp2_with fail
      go_ret
      exact ⟨by rw [hE2.out]; rfl, hb⟩
end Go.Proofs.Tryz

namespace Go.Proofs.Tryz
open Go Go.Am Go.RowKit Go.Op
set_option maxRecDepth 100000

theorem first3T_w (x y z : Int) (b : Nat) (W : World) (h0 : W.cell? ⟨b, 0, none⟩ = some (.int .i64 x)) (h1 : W.cell? ⟨b, 1, none⟩ = some (.int .i64 y)) (h2 : W.cell? ⟨b, 2, none⟩ = some (.int .i64 z)) :
    Calls prog 88 #[.slice (some ⟨b, 0, none⟩) 3 3] W fun e w' => e = .returned (.int .i64 (fstE [x, y, z])) ∧ w' = W :=
  first_w [x, y, z] b 3 W (by simp) fun j u h => by
    match j, h with
    | 0, h => simp at h; subst h; exact h0
    | 1, h => simp at h; subst h; exact h1
    | 2, h => simp at h; subst h; exact h2
    | j + 3, h => simp at h
theorem totA_fst (t : Tot) (lt : Int) : fstE [nmE t.p, numE t, lt] = if totE t = 0 then lt else totE t := by
  unfold totE nmE
  cases isNm t.p with
  | false => simp [fstE]
  | true =>
    unfold numE
    by_cases h : NumK t 12
    · by_cases h2 : lt = 0 <;> simp [h, h2, fstE]
    · simp [h, fstE]

set_option maxHeartbeats 6400000 in
theorem checkTots_w {l : List Tot} {v : Value} {w : World} (h : IsTots w v l) (hn : l.length ≤ 10000) :
    Calls prog 72 #[v] w fun e w' => e = .returned (.int .i64 (totsE l)) ∧ Below w.heap.size w w' := by
  have h0 := h
  obtain ⟨ad, c, rfl, hnc⟩ := h0.slice
  obtain ⟨n, hln⟩ : ∃ n, l.length = n := ⟨_, rfl⟩
  have HL := Lib.hid hln
  obtain ⟨R, hR⟩ : ∃ R, totsE l = R := ⟨_, rfl⟩
  rw [hR]
  have HR : Hid (totsE l = R) := Lib.hid hR
  clear hR h0
  rw [hln] at hn hnc ⊢
  clear hln
  by_cases hbig : 4096 < n
  · have hR5 : Hid (R = 5) := Lib.hid (by rw [← HR.out]; unfold totsE; rw [HL.out, if_pos hbig])
    have hbi : (4096 : Int) < (n : Int) := by omega
    go_enter func72, ntmps72
    go_wp2_with fail
    go_ret
    exact ⟨by rw [hR5.out]; rfl, Below.refl _ _⟩
  have hbi : ¬ (4096 : Int) < (n : Int) := by omega
  have HS : Hid (R = totsK l 0 (n - 0)) := Lib.hid (by rw [← HR.out]; unfold totsE; rw [HL.out, if_neg hbig]; rfl)
  clear HR
  go_enter func72, ntmps72
  go_wp2_with fail
  go_loopw [12] (fun s wr => ∃ i : Nat, i ≤ n ∧ s = .int .i64 i ∧ Hid (R = totsK l i (n - i)) ∧ Below w.heap.size w wr) (fun s _ => n - (numOf' s).toNat)
  case atStart => exact ⟨0, Nat.zero_le _, rfl, HS, Below.refl _ _⟩
  case round =>
    clear HS
    obtain ⟨i, hi, rfl, hE, hb⟩ := hrel
    by_cases hin : i < n
    · obtain ⟨t, ht⟩ : ∃ t, l[i]? = some t := ⟨_, List.getElem?_eq_getElem (by rw [HL.out]; exact hin)⟩
      obtain ⟨b, off, c1, e, -, p0, p1, pc⟩ := (h.below hb).at ht
      simp only [HL.out, Value.slice.injEq, true_and] at e
      obtain ⟨rfl, rfl⟩ := e
      have hc0 := pc 0 (by omega)
      have hc1 := pc 1 (by omega)
      have hc2 := pc 2 (by omega)
      have hc3 := pc 3 (by omega)
      have hc4 := pc 4 (by omega)
      have hc5 := pc 5 (by omega)
      have hc6 := pc 6 (by omega)
      have hc7 := pc 7 (by omega)
      have hc8 := pc 8 (by omega)
      have hc9 := pc 9 (by omega)
      have hc10 := pc 10 (by omega)
      have hc11 := pc 11 (by omega)
      simp only [Nat.reduceAdd] at hc0 hc1 hc2 hc3 hc4 hc5 hc6 hc7 hc8 hc9 hc10 hc11
      have hii : (i : Int) < (n : Int) := by omega
      have hbn : Below wr.heap.size wr (wr.alloc (.cells t.arr 66)) := (Below.refl _ _).alloc (Nat.le_refl _) _
      have hy := at_new wr t.arr 66
      obtain ⟨W5, hW5⟩ : ∃ W5, wr.alloc (.cells t.arr 66) = W5 := ⟨_, rfl⟩
      rw [hW5] at hbn hy
      unfold Tot.arr at hW5
      have hb5 := hb.trans (hbn.mono hb.size)
      obtain ⟨late, hlate⟩ : ∃ b, lateT l i = b := ⟨_, rfl⟩
      have hs := tots_step l hin
      have hA : totA l i = if totE t = 0 then (if late = true then 11 else 0) else totE t := by unfold totA; rw [atT_get ht, hlate]
      have HE2 := Lib.hid (hE.out.trans hs)
      have HA := Lib.hid hA
      clear hE hs pc hA
      go_wp2_with fail
      try rw [hW5]
      clear hW5 p0 p1 hc0 hc1 hc2 hc3 hc4 hc5 hc6 hc7 hc8 hc9 hc10 hc11
      obtain ⟨z0, z1, z2, z3, z4, z5, z6, z7, z8, z9, z10, z11, z12, z13⟩ := box14t hy
      have HH := Lib.hid h
      go_cut [5] (fun s5 wx => s5 = .bool late ∧ ∃ n, wx = W5.drewN n)
      case first =>
        clear z1 z2 z3 z4 z5 z6 z7 z8 z9 z10 z11 z12 z13 HA HE2
        rcases Nat.eq_zero_or_pos i with rfl | hpos
        · obtain rfl : false = late := hlate
          go_quiet (fail)
          go_wp2_with fail
          go_meet
          exact ⟨rfl, _, rfl⟩
        · obtain ⟨k, rfl⟩ : ∃ k, i = k + 1 := ⟨i - 1, by omega⟩
          obtain ⟨q, hq⟩ : ∃ q, l[k]? = some q := ⟨_, List.getElem?_eq_getElem (by rw [HL.out]; omega)⟩
          obtain ⟨b', off', c', e', -, x0, -, -⟩ := (HH.out.below hb5).at hq
          simp only [HL.out, Value.slice.injEq, Option.some.injEq, Addr.mk.injEq, true_and, and_true] at e'
          obtain ⟨⟨rfl, rfl⟩, rfl⟩ := e'
          have i1 : (0:Int) < ((k + 1 : Nat) : Int) := by omega
          have i2 : ((k + 1 : Nat) : Int) - 1 = (k : Int) := by omega
          have i3 : (k : Int) < (n : Int) := by omega
          have i4 : IntKind.i64.wrap (k : Int) = (k : Int) := IntWalk.i64_in _ (by omega)
          have i5 : IntKind.i64.wrap ((k : Int) + 1 - 1) = (k : Int) := by rw [IntWalk.i64_in _ (by omega)]; omega
          have i7 : max (0 : Int) (k : Int) = (k : Int) := by omega
          have i8 : (0 : Int) ≤ (k : Int) := by omega
          have l1 : (bA t.p).toList = t.p := bA_list _
          have l2 : (bA q.p).toList = q.p := bA_list _
          have hlt : (bytesLess t.p q.p || t.p == q.p) = late := by
            rw [← hlate]; unfold lateT; rw [decide_eq_true (by omega : 0 < k + 1), Bool.true_and, atT_get ht, Nat.add_sub_cancel, atT_get hq]
          clear hlate ht hq
          cases late with
          | true =>
            go_quiet (fail)
            go_wp2_with fail
            go_meet
            exact ⟨rfl, _, rfl⟩
          | false =>
            go_quiet (fail)
            go_wp2_with fail
            go_meet
            exact ⟨rfl, _, rfl⟩
      case rest =>
        obtain ⟨rfl, nq, rfl⟩ := hcut
        have hb6 : Below w.heap.size w (W5.drewN nq) := belowN hb5 nq
        have hy6 : At (W5.drewN nq) wr.heap.size t.arr 66 := hy
        clear z0 z1 z2 z3 z4 z5 z6 z7 z8 z9 z10 z11 z12 z13 hlate hb5 hbn hy hb h
        generalize W5.drewN nq = W6 at hb6 hy6 ⊢
        obtain ⟨z0, z1, z2, z3, z4, z5, z6, z7, z8, z9, z10, z11, z12, z13⟩ := box14t hy6
        have HY := Lib.hid hy6
        have HB6 := Lib.hid hb6
        have cN := named_w t.p
        have cU := numbers_w t
        have cW := when_w late 11
        obtain ⟨en, hen⟩ : ∃ x, nmE t.p = x := ⟨_, rfl⟩
        obtain ⟨eu, heu⟩ : ∃ x, numE t = x := ⟨_, rfl⟩
        obtain ⟨lt, hlt⟩ : ∃ lt : Int, (if late = true then 11 else 0) = lt := ⟨_, rfl⟩
        have hF := totA_fst t lt
        rw [hen] at cN hF
        rw [heu] at cU hF
        rw [hlt] at cW HA
        rw [← HA.out] at hF
        obtain ⟨v, hv⟩ : ∃ v, fstE [en, eu, lt] = v := ⟨_, rfl⟩
        have cF := first3T_w en eu lt
        rw [hv] at cF hF
        have HZ : Hid ((v = 0 → R = totsK l (i + 1) (n - (i + 1))) ∧ (v ≠ 0 → R = v)) := Lib.hid (by
          rw [HE2.out, ← hF]
          exact ⟨fun h => by rw [if_pos h], fun h => by rw [if_neg h]⟩)
        clear hen heu hlt hv HE2 hF HA hy6
        have hdr : Below W6.heap.size W6 W6.drew := (Below.refl _ _).drew
        have hrf : Below W6.heap.size W6 W6 := Below.refl _ _
        go_wp2_with fail
        go_cut [6] (fun s6 wx => s6 = .int .i64 v ∧ Below W6.heap.size W6 wx)
        case first =>
          clear HZ hb6
          go_region_held3 (fun W => W.cell? ⟨wr.heap.size, 0, none⟩ = some (.string (bA t.p)) ∧ W.cell? ⟨wr.heap.size, 1, none⟩ = some (.int .i64 t.gm) ∧ W.cell? ⟨wr.heap.size, 2, none⟩ = some (.int .i64 (t.c 0)) ∧ W.cell? ⟨wr.heap.size, 3, none⟩ = some (.int .i64 (t.c 1)) ∧ W.cell? ⟨wr.heap.size, 4, none⟩ = some (.int .i64 (t.c 2)) ∧ W.cell? ⟨wr.heap.size, 5, none⟩ = some (.int .i64 (t.c 3)) ∧ W.cell? ⟨wr.heap.size, 6, none⟩ = some (.int .i64 (t.c 4)) ∧ W.cell? ⟨wr.heap.size, 7, none⟩ = some (.int .i64 (t.c 5)) ∧ W.cell? ⟨wr.heap.size, 8, none⟩ = some (.int .i64 (t.c 6)) ∧ W.cell? ⟨wr.heap.size, 9, none⟩ = some (.int .i64 (t.c 7)) ∧ W.cell? ⟨wr.heap.size, 10, none⟩ = some (.int .i64 (t.c 8)) ∧ W.cell? ⟨wr.heap.size, 11, none⟩ = some (.int .i64 (t.c 9)) ∧ W.cell? ⟨wr.heap.size, 12, none⟩ = some (.int .i64 (t.c 10)) ∧ W.cell? ⟨wr.heap.size, 13, none⟩ = some (.int .i64 (t.c 11)) ∧ Below W6.heap.size W6 W)
            (go_keep)
            (first
              | (go_at_call 117; refine Calls.mono (cN _) ?_; rintro e W ⟨rfl, hkk⟩; have hbk := Below.trans (B := W6.heap.size) (a := W6) (by assumption) (Below.mono hkk (Below.size (B := W6.heap.size) (w := W6) (by assumption))); have hbs : ∀ o, Below W6.heap.size W6 (W.alloc o) := (fun o => hbk.alloc hbk.size o); have hbd : ∀ o, Below W6.heap.size W6 (W.alloc o).drew := (fun o => (hbk.alloc hbk.size o).drew); have hbd0 : Below W6.heap.size W6 W.drew := hbk.drew; obtain ⟨z0, z1, z2, z3, z4, z5, z6, z7, z8, z9, z10, z11, z12, z13⟩ := box14t (HY.out.below hbk HY.out.lt))
              | (go_at_call 132; refine Calls.mono (cU _) ?_; rintro e W ⟨rfl, hkk⟩; have hbk := Below.trans (B := W6.heap.size) (a := W6) (by assumption) (Below.mono hkk (Below.size (B := W6.heap.size) (w := W6) (by assumption))); have hbs : ∀ o, Below W6.heap.size W6 (W.alloc o) := (fun o => hbk.alloc hbk.size o); have hbd : ∀ o, Below W6.heap.size W6 (W.alloc o).drew := (fun o => (hbk.alloc hbk.size o).drew); have hbd0 : Below W6.heap.size W6 W.drew := hbk.drew; obtain ⟨z0, z1, z2, z3, z4, z5, z6, z7, z8, z9, z10, z11, z12, z13⟩ := box14t (HY.out.below hbk HY.out.lt))
              | (go_at_call 113; refine Calls.mono (cW _) ?_; rintro e W ⟨rfl, rfl⟩)
              | (go_at_call 88; refine Calls.mono (cF _ _ (by simp) (by simp) (by simp)) ?_; rintro e W ⟨rfl, rfl⟩))
          all_goals (go_wp2_with fail; go_meet; exact ⟨rfl, by first | exact hbs _ | exact hbd _⟩)
        case rest =>
          obtain ⟨rfl, hk⟩ := hcut
          have hbw := HB6.out.trans (hk.mono HB6.out.size)
          clear z0 z1 z2 z3 z4 z5 z6 z7 z8 z9 z10 z11 z12 z13 cN cU cW cF hdr hrf hk hb6
          by_cases hv0 : v = 0
          · have HR2 := Lib.hid (HZ.out.1 hv0)
            subst hv0
            clear HZ
            go_wp2_with fail
            go_roundw
            case rel => exact ⟨i + 1, by omega, by go_num, HR2, hbw⟩
            case measure => simp [numOf'] <;> omega
          · have HR2 := Lib.hid (HZ.out.2 hv0)
            have hv' : (v != 0) = true := by simpa using hv0
            clear HZ
            go_wp2_with fail
            go_ret
            exact ⟨by rw [HR2.out]; rfl, hbw⟩
    · obtain rfl : i = n := by omega
      have hE2 : Hid (R = 0) := Lib.hid (by rw [hE.out, Nat.sub_self]; rfl)
      clear hE
      go_wp2_with fail
      go_ret
      exact ⟨by rw [hE2.out]; rfl, hb⟩
end Go.Proofs.Tryz
