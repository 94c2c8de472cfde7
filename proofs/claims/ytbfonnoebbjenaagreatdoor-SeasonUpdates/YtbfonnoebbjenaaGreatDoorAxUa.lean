/- A total's numbers checked, on both sides: by the kit's walk. A list of totals checked by the reference: by the kit's walk; what a list that passes is like. -/
import Derived.Test.YtbfonnoebbjenaaGreatDoorAxTb
import Derived.Test.YtbfonnoebbjenaaGreatDoorAxH
namespace Go.Proofs.Tryz
open Go Go.Am Go.RowKit Go.Op
set_option maxRecDepth 100000

def inR (n : Int) : Prop := -999999999 ≤ n ∧ n ≤ 999999999
instance (n : Int) : Decidable (inR n) := inferInstanceAs (Decidable (_ ∧ _))
theorem inE_r (n : Int) : inE n (-999999999) 999999999 = if inR n then 0 else 3 := by
  unfold inE
  by_cases h : inR n
  · rw [if_pos h, if_neg (by unfold inR at h; omega)]
  · rw [if_neg h, if_pos (by unfold inR at h; omega)]
/-- The first j numbers are in range. -/
def NumK (t : Tot) (j : Nat) : Prop := inR t.gm ∧ ∀ i, i < j → inR (t.c i)
instance (t : Tot) (j : Nat) : Decidable (NumK t j) := inferInstanceAs (Decidable (_ ∧ _))
def numE (t : Tot) : Int := if NumK t 12 then 0 else 3
theorem NumK.succ {t : Tot} {j : Nat} : NumK t (j + 1) ↔ NumK t j ∧ inR (t.c j) := by
  constructor
  · rintro ⟨a, b⟩; exact ⟨⟨a, fun i hi => b i (by omega)⟩, b j (by omega)⟩
  · rintro ⟨⟨a, b⟩, c⟩
    refine ⟨a, fun i hi => ?_⟩
    by_cases h : i = j
    · rw [h]; exact c
    · exact b i (by omega)
theorem num_step (t : Tot) (j : Nat) : fstE [if NumK t j then 0 else 3, inE (t.c j) (-999999999) 999999999] = if NumK t (j + 1) then 0 else 3 := by
  rw [inE_r]
  by_cases h : NumK t j
  · by_cases h2 : inR (t.c j)
    · rw [if_pos h, if_pos h2, if_pos (NumK.succ.2 ⟨h, h2⟩)]; rfl
    · rw [if_pos h, if_neg h2, if_neg (fun q => h2 (NumK.succ.1 q).2)]; rfl
  · rw [if_neg h, if_neg (fun q => h (NumK.succ.1 q).1)]; rfl

set_option maxHeartbeats 3200000 in
theorem numbers_w (t : Tot) (w : World) : Calls prog 132 #[.agg #[.string (bA t.p), .int .i64 t.gm, .int .i64 (t.c 0), .int .i64 (t.c 1), .int .i64 (t.c 2), .int .i64 (t.c 3), .int .i64 (t.c 4), .int .i64 (t.c 5), .int .i64 (t.c 6), .int .i64 (t.c 7), .int .i64 (t.c 8), .int .i64 (t.c 9), .int .i64 (t.c 10), .int .i64 (t.c 11)]] w fun e w' => e = .returned (.int .i64 (numE t)) ∧ Below w.heap.size w w' := by
  have hB : Below w.heap.size w (w.alloc (.cells t.arr 66)) := (Below.refl _ _).alloc (Nat.le_refl _) _
  have hx := at_new w t.arr 66
  obtain ⟨W2, hW⟩ : ∃ W2, w.alloc (.cells t.arr 66) = W2 := ⟨_, rfl⟩
  rw [hW] at hB hx
  obtain ⟨z0, z1, z2, z3, z4, z5, z6, z7, z8, z9, z10, z11, z12, z13⟩ := box14t hx
  unfold Tot.arr at hW
  have c0 := within_w t.gm (-999999999) 999999999
  have H0 : Hid (inE t.gm (-999999999) 999999999 = if NumK t 0 then 0 else 3) := Lib.hid (by
    rw [inE_r]
    by_cases h : inR t.gm
    · rw [if_pos h, if_pos ⟨h, fun i hi => absurd hi (Nat.not_lt_zero i)⟩]
    · rw [if_neg h, if_neg (fun q => h q.1)])
  obtain ⟨e0, he0⟩ : ∃ x, inE t.gm (-999999999) 999999999 = x := ⟨_, rfl⟩
  rw [he0] at c0 H0
  clear he0
  go_enter func132, ntmps132
  go_wp2_with (go_at_call 94; refine (c0 _).mono ?_; rintro e w' ⟨rfl, rfl⟩)
  try rw [hW]
  clear hW
  clear z0 z1 z2 z3 z4 z5 z6 z7 z8 z9 z10 z11 z12 z13 hx c0
  go_loopw [3, 11] (fun s3 s11 wr => ∃ j : Nat, j ≤ 12 ∧ s11 = .int .i64 j ∧ (∃ e, s3 = .int .i64 e ∧ Hid (e = if NumK t j then 0 else 3)) ∧ Below w.heap.size w wr) (fun _ s11 _ => 12 - (numOf' s11).toNat)
  case atStart => exact ⟨0, Nat.zero_le _, rfl, ⟨_, rfl, H0⟩, hB⟩
  case round =>
    clear H0 hB
    obtain ⟨j, hj, rfl, ⟨e, rfl, hE⟩, hbl⟩ := hrel
    by_cases hj12 : j < 12
    · have hidx := run_idx12 t.c hj12
      have hjj : (j : Int) < 12 := by omega
      have cW := within_w (t.c j) (-999999999) 999999999
      have hs := num_step t j
      rw [← hE.out] at hs
      obtain ⟨x, hx⟩ : ∃ x, inE (t.c j) (-999999999) 999999999 = x := ⟨_, rfl⟩
      rw [hx] at cW hs
      have cF := first2_w e x
      have HS := Lib.hid hs
      clear hs hx hE
      have hbx := fun o => hbl.alloc hbl.size o
      go_wp2_with (first
        | (go_at_call 94; refine (cW _).mono ?_; rintro e w' ⟨rfl, rfl⟩)
        | (go_at_call 88; refine (cF _ _ (by simp) (by simp)).mono ?_; rintro e w' ⟨rfl, rfl⟩))
      go_roundw
      case rel => exact ⟨j + 1, by omega, by go_num, ⟨_, rfl, HS⟩, hbx _⟩
      case measure => simp [numOf'] <;> omega
    · obtain rfl : j = 12 := by omega
      go_wp2_with fail
      go_ret
      exact ⟨by rw [show numE t = e from hE.out.symm]; rfl, hbl⟩

/-- What a total's check answers. -/
def totE (t : Tot) : Int := if isNm t.p = true then numE t else 8
theorem first2R_w (x y : Int) (b : Nat) (W : World) (h0 : W.cell? ⟨b, 0, none⟩ = some (.int .i64 x)) (h1 : W.cell? ⟨b, 1, none⟩ = some (.int .i64 y)) :
    Calls prog 22 #[.slice (some ⟨b, 0, none⟩) 2 2] W fun e w' => e = .returned (.int .i64 (fstE [x, y])) ∧ w' = W :=
  firstR_w [x, y] b 2 W (by simp) fun j z h => by
    match j, h with
    | 0, h => simp at h; subst h; exact h0
    | 1, h => simp at h; subst h; exact h1
    | j + 2, h => simp at h
theorem cell14t {w : World} {b : Nat} {x : Tot} {e : TypeId} (h : At w b x.arr e) {i : Nat} (hi : i < 12) : w.cell? ⟨b, 2 + i, none⟩ = some (.int .i64 (x.c i)) := by
  unfold At at h
  simp only [World.cell?, h]
  have : x.arr[2 + i]? = some (.int .i64 (x.c i)) := by
    rw [← Array.getElem?_toList, Tot.arr_cells, Nat.add_comm]
    exact ints_get hi
  simpa using this
theorem tot_head (t : Tot) : fstE [nmE t.p, inE t.gm (-999999999) 999999999] = if isNm t.p = true then (if NumK t 0 then 0 else 3) else 8 := by
  have h0 : inE t.gm (-999999999) 999999999 = if NumK t 0 then 0 else 3 := by
    rw [inE_r]
    by_cases h : inR t.gm
    · rw [if_pos h, if_pos ⟨h, fun i hi => absurd hi (Nat.not_lt_zero i)⟩]
    · rw [if_neg h, if_neg (fun q => h q.1)]
  rw [h0]
  unfold nmE
  cases isNm t.p with
  | false => simp [fstE]
  | true => by_cases h : NumK t 0 <;> simp [h, fstE]
theorem NumK.mono {t : Tot} {i j : Nat} (h : NumK t j) (hij : i ≤ j) : NumK t i := ⟨h.1, fun k hk => h.2 k (by omega)⟩

set_option maxHeartbeats 3200000 in
theorem checkTotR_w (t : Tot) (w : World) : Calls prog 107 #[.agg #[.string (bA t.p), .int .i64 t.gm, .int .i64 (t.c 0), .int .i64 (t.c 1), .int .i64 (t.c 2), .int .i64 (t.c 3), .int .i64 (t.c 4), .int .i64 (t.c 5), .int .i64 (t.c 6), .int .i64 (t.c 7), .int .i64 (t.c 8), .int .i64 (t.c 9), .int .i64 (t.c 10), .int .i64 (t.c 11)]] w fun e w' => e = .returned (.int .i64 (totE t)) ∧ Below w.heap.size w w' := by
  have hB : Below w.heap.size w (w.alloc (.cells t.arr 56)) := (Below.refl _ _).alloc (Nat.le_refl _) _
  have hx := at_new w t.arr 56
  obtain ⟨W2, hW⟩ : ∃ W2, w.alloc (.cells t.arr 56) = W2 := ⟨_, rfl⟩
  rw [hW] at hB hx
  obtain ⟨z0, z1, -⟩ := box14t hx
  have hxB := Lib.hid hx
  have hBs := Lib.hid hB
  unfold Tot.arr at hW
  have cN := nameE_w t.p
  have c0 := rangeR_w t.gm (-999999999) 999999999
  have H0 := Lib.hid (tot_head t)
  obtain ⟨en, hen⟩ : ∃ x, nmE t.p = x := ⟨_, rfl⟩
  obtain ⟨e0, he0⟩ : ∃ x, inE t.gm (-999999999) 999999999 = x := ⟨_, rfl⟩
  rw [hen] at cN H0
  rw [he0] at c0 H0
  have cF := first2R_w en e0
  clear hen he0
  obtain ⟨R, hR⟩ : ∃ R, totE t = R := ⟨_, rfl⟩
  rw [hR]
  have HR : Hid (totE t = R) := Lib.hid hR
  clear hR
  have hlt := hx.lt
  clear hx
  go_enter func107, ntmps107
  go_wp2_with fail
  try rw [hW]
  clear hW
  have hdr : Below W2.heap.size W2 W2.drew := (Below.refl _ _).drew
  go_cut [3] (fun s3 wx => s3 = .int .i64 (fstE [en, e0]) ∧ Below W2.heap.size W2 wx)
  case first =>
    clear H0 HR
    have hbs : ∀ o, Below W2.heap.size W2 (W2.alloc o) := fun o => (Below.refl _ W2).alloc (Nat.le_refl _) o
    have hbd : ∀ o, Below W2.heap.size W2 (W2.alloc o).drew := fun o => (hbs o).drew
    go_region_held3 (fun W => W.cell? ⟨w.heap.size, 0, none⟩ = some (.string (bA t.p)) ∧ W.cell? ⟨w.heap.size, 1, none⟩ = some (.int .i64 t.gm) ∧ Below W2.heap.size W2 W)
      (go_keep)
      (first
        | (go_at_call 48; refine Calls.mono (cN _) ?_; rintro e W ⟨rfl, rfl⟩)
        | (go_at_call 33; refine Calls.mono (c0 _) ?_; rintro e W ⟨rfl, rfl⟩)
        | (go_at_call 22; refine Calls.mono (cF _ _ (by simp) (by simp)) ?_; rintro e W ⟨rfl, rfl⟩))
    all_goals (go_wp2_with fail; go_meet; exact ⟨rfl, hbd _⟩)
  case rest =>
    obtain ⟨rfl, hk⟩ := hcut
    have hxw := hxB.out.below hk hlt
    have hbw : Below w.heap.size w wc := hBs.out.trans (hk.mono hBs.out.size)
    have hyc := fun j hj => cell14t (i := j) hxw hj
    clear hxw hxB hBs z0 z1 hB hdr cN c0 cF hk
    cases hnm : isNm t.p with
    | false =>
      have h8 : fstE [en, e0] = 8 := by rw [H0.out, hnm]; rfl
      rw [h8]
      have HR2 : Hid (R = 8) := Lib.hid (by rw [← HR.out]; unfold totE; rw [hnm]; rfl)
      clear H0 HR h8 hyc
      go_wp2_with fail
      go_ret
      exact ⟨by rw [HR2.out]; rfl, hbw⟩
    | true =>
      have HR2 : Hid (R = numE t) := Lib.hid (by rw [← HR.out]; unfold totE; rw [hnm]; rfl)
      clear HR
      by_cases hk0 : NumK t 0
      · have h8 : fstE [en, e0] = 0 := by rw [H0.out, hnm, if_pos rfl, if_pos hk0]
        rw [h8]
        have HK := Lib.hid hk0
        clear H0 h8 hk0 hnm
        have HY := Lib.hid hyc
        clear hyc
        go_wp2_with fail
        go_loopw [4, 5] (fun s4 s5 wr => ∃ j : Nat, j ≤ 12 ∧ s4 = .int .i64 j ∧ Hid (NumK t j) ∧ wr = wc) (fun s4 _ _ => 12 - (numOf' s4).toNat)
        case atStart => exact ⟨0, Nat.zero_le _, rfl, HK, rfl⟩
        case round =>
          clear HK
          obtain ⟨j, hj, rfl, hE, rfl⟩ := hrel
          by_cases hj12 : j < 12
          · have cj := HY.out j hj12
            have hjj : (j : Int) < 12 := by omega
            have cW := rangeR_w (t.c j) (-999999999) 999999999
            rw [inE_r] at cW
            by_cases hin : inR (t.c j)
            · rw [if_pos hin] at cW
              have hE2 := Lib.hid (NumK.succ.2 ⟨hE.out, hin⟩)
              clear hE hin
              go_wp2_with (go_at_call 33; refine (cW _).mono ?_; rintro e w' ⟨rfl, rfl⟩)
              go_roundw
              case rel => exact ⟨j + 1, by omega, by go_num, hE2, by first | trivial | rfl⟩
              case measure => simp [numOf'] <;> omega
            · rw [if_neg hin] at cW
              have hE2 : Hid (R = 3) := Lib.hid (by
                rw [HR2.out]; unfold numE
                rw [if_neg (fun q => hin (q.2 j hj12))])
              clear hE hin
              go_wp2_with (go_at_call 33; refine (cW _).mono ?_; rintro e w' ⟨rfl, rfl⟩)
              go_ret
              exact ⟨by rw [hE2.out]; rfl, hbw⟩
          · obtain rfl : j = 12 := by omega
            have hE2 : Hid (R = 0) := Lib.hid (by rw [HR2.out]; unfold numE; rw [if_pos hE.out])
            go_wp2_with fail
            go_ret
            exact ⟨by rw [hE2.out]; rfl, hbw⟩
      · have h8 : fstE [en, e0] = 3 := by rw [H0.out, hnm, if_pos rfl, if_neg hk0]
        rw [h8]
        have HR3 : Hid (R = 3) := Lib.hid (by rw [HR2.out]; unfold numE; rw [if_neg (fun q => hk0 (q.mono (Nat.zero_le _)))])
        clear H0 h8 hk0 hnm hyc HR2
        go_wp2_with fail
        go_ret
        exact ⟨by rw [HR3.out]; rfl, hbw⟩
end Go.Proofs.Tryz

namespace Go.Proofs.Tryz
open Go Go.Am Go.RowKit Go.Op
set_option maxRecDepth 100000

def atT (l : List Tot) (i : Nat) : Tot := l[i]?.getD tot0
def lateT (l : List Tot) (i : Nat) : Bool := decide (0 < i) && (bytesLess (atT l i).p (atT l (i - 1)).p || (atT l i).p == (atT l (i - 1)).p)
def totA (l : List Tot) (i : Nat) : Int := if totE (atT l i) = 0 then (if lateT l i = true then 11 else 0) else totE (atT l i)
def totsK (l : List Tot) : Nat → Nat → Int
  | _, 0 => 0
  | i, n + 1 => if totA l i = 0 then totsK l (i + 1) n else totA l i
/-- What a list's check answers. -/
def totsE (l : List Tot) : Int := if 4096 < l.length then 5 else totsK l 0 l.length
theorem tots_step (l : List Tot) {i n : Nat} (h : i < n) : totsK l i (n - i) = if totA l i = 0 then totsK l (i + 1) (n - (i + 1)) else totA l i := by
  rw [show n - i = (n - (i + 1)) + 1 by omega, totsK]
theorem totE_cases (t : Tot) : totE t = 0 ∨ totE t = 3 ∨ totE t = 8 := by
  unfold totE numE
  cases isNm t.p with
  | false => simp
  | true => by_cases h : NumK t 12 <;> simp [h]
theorem totsK_zero {l : List Tot} : ∀ {n i : Nat}, totsK l i n = 0 → ∀ j, i ≤ j → j < i + n → totA l j = 0
  | 0, i, _, j, h1, h2 => by omega
  | n + 1, i, h, j, h1, h2 => by
    unfold totsK at h
    by_cases h0 : totA l i = 0
    · rw [if_pos h0] at h
      by_cases e : j = i
      · rw [e]; exact h0
      · exact totsK_zero h j (by omega) (by omega)
    · rw [if_neg h0] at h; exact absurd h h0
theorem totA_zero {l : List Tot} {i : Nat} (h : totA l i = 0) : totE (atT l i) = 0 ∧ lateT l i = false := by
  unfold totA at h
  by_cases h0 : totE (atT l i) = 0
  · rw [if_pos h0] at h
    refine ⟨h0, ?_⟩
    cases hl : lateT l i with
    | false => rfl
    | true => rw [hl] at h; cases h
  · rw [if_neg h0] at h; exact absurd h h0
theorem atT_get {l : List Tot} {i : Nat} {t : Tot} (h : l[i]? = some t) : atT l i = t := by unfold atT; rw [h]; rfl
/-- A list that passes: short, sorted, each total in order. -/
theorem totsE_zero {l : List Tot} (h : totsE l = 0) : l.length ≤ 4096 ∧ SortT l ∧ ∀ t ∈ l, isNm t.p = true ∧ NumK t 12 := by
  unfold totsE at h
  by_cases h1 : 4096 < l.length
  · rw [if_pos h1] at h; cases h
  · rw [if_neg h1] at h
    have hall := fun i (hi : i < l.length) => totA_zero (totsK_zero h i (Nat.zero_le _) (by omega))
    have hstep : ∀ i, (hi : i + 1 < l.length) → bytesLess (l[i]'(by omega)).p (l[i + 1]).p = true := fun i hi => by
      have hl := (hall (i + 1) hi).2
      unfold lateT at hl
      rw [decide_eq_true (by omega : 0 < i + 1), Bool.true_and, Nat.add_sub_cancel, atT_get (List.getElem?_eq_getElem hi), atT_get (List.getElem?_eq_getElem (by omega : i < l.length))] at hl
      simp only [Bool.or_eq_false_iff, beq_eq_false_iff_ne] at hl
      cases hb : bytesLess (l[i]'(by omega)).p (l[i + 1]).p with
      | true => rfl
      | false => exact absurd (bl_tri hl.1 hb) hl.2
    refine ⟨by omega, ?_, fun t ht => ?_⟩
    · unfold SortT
      rw [List.pairwise_iff_getElem]
      intro i j hi hj hij
      induction j with
      | zero => omega
      | succ j ih =>
        by_cases e : i = j
        · subst e; exact hstep i hj
        · exact bl_trans (ih (by omega) (by omega)) (hstep j hj)
    · obtain ⟨i, hi⟩ := List.mem_iff_getElem?.1 ht
      have hq := (hall i (List.getElem?_eq_some_iff.1 hi).1).1
      rw [atT_get hi] at hq
      unfold totE numE at hq
      cases hn : isNm t.p with
      | false => rw [hn] at hq; cases hq
      | true =>
        rw [hn, if_pos rfl] at hq
        by_cases hk : NumK t 12
        · exact ⟨rfl, hk⟩
        · rw [if_neg hk] at hq; cases hq

set_option maxHeartbeats 3200000 in
theorem checkTotsR_w {l : List Tot} {v : Value} {w : World} (h : IsTots w v l) (hn : l.length ≤ 10000) :
    Calls prog 31 #[v] w fun e w' => e = .returned (.int .i64 (totsE l)) ∧ Below w.heap.size w w' := by
  have h0 := h
  obtain ⟨ad, c, rfl, hnc⟩ := h0.slice
  obtain ⟨n, hln⟩ : ∃ n, l.length = n := ⟨_, rfl⟩
  have HL := Lib.hid hln
  obtain ⟨R, hR⟩ : ∃ R, totsE l = R := ⟨_, rfl⟩
  rw [hR]
  have HR : Hid (totsE l = R) := Lib.hid hR
  clear hR h0
  rw [hln] at hn hnc ⊢
  clear hln
  by_cases hbig : 4096 < n
  · have hR5 : Hid (R = 5) := Lib.hid (by rw [← HR.out]; unfold totsE; rw [HL.out, if_pos hbig])
    have hbi : (4096 : Int) < (n : Int) := by omega
    go_enter func31, ntmps31
    go_wp2_with fail
    go_ret
    exact ⟨by rw [hR5.out]; rfl, Below.refl _ _⟩
  have hbi : ¬ (4096 : Int) < (n : Int) := by omega
  have HS : Hid (R = totsK l 0 (n - 0)) := Lib.hid (by rw [← HR.out]; unfold totsE; rw [HL.out, if_neg hbig]; rfl)
  clear HR
  go_enter func31, ntmps31
  go_wp2_with fail
  go_loopw [3, 4] (fun s _ wr => ∃ i : Nat, i ≤ n ∧ s = .int .i64 i ∧ Hid (R = totsK l i (n - i)) ∧ Below w.heap.size w wr) (fun s _ _ => n - (numOf' s).toNat)
  case atStart => exact ⟨0, Nat.zero_le _, rfl, HS, Below.refl _ _⟩
  case round =>
    clear HS
    obtain ⟨i, hi, rfl, hE, hb⟩ := hrel
    by_cases hin : i < n
    · obtain ⟨t, ht⟩ : ∃ t, l[i]? = some t := ⟨_, List.getElem?_eq_getElem (by rw [HL.out]; exact hin)⟩
      obtain ⟨b, off, c1, e, -, p0, p1, pc⟩ := (h.below hb).at ht
      simp only [HL.out, Value.slice.injEq, true_and] at e
      obtain ⟨rfl, rfl⟩ := e
      have hc0 := pc 0 (by omega)
      have hc1 := pc 1 (by omega)
      have hc2 := pc 2 (by omega)
      have hc3 := pc 3 (by omega)
      have hc4 := pc 4 (by omega)
      have hc5 := pc 5 (by omega)
      have hc6 := pc 6 (by omega)
      have hc7 := pc 7 (by omega)
      have hc8 := pc 8 (by omega)
      have hc9 := pc 9 (by omega)
      have hc10 := pc 10 (by omega)
      have hc11 := pc 11 (by omega)
      simp only [Nat.reduceAdd] at hc0 hc1 hc2 hc3 hc4 hc5 hc6 hc7 hc8 hc9 hc10 hc11
      have hii : (i : Int) < (n : Int) := by omega
      have cT := checkTotR_w t
      have hs := tots_step l hin
      have hA : Hid (totA l i = if totE t = 0 then (if lateT l i = true then 11 else 0) else totE t) := Lib.hid (by unfold totA; rw [atT_get ht])
      have hE2 := Lib.hid (hE.out.trans hs)
      clear hs pc hE
      go_wp2_with fail
      go_at_call 107
      refine (cT _).mono ?_
      rintro e W ⟨rfl, hk⟩
      have hbw := hb.trans (hk.mono hb.size)
      clear hc0 hc1 hc2 hc3 hc4 hc5 hc6 hc7 hc8 hc9 hc10 hc11 cT p0 p1
      by_cases he0 : totE t = 0
      · rw [he0] at hA ⊢
        have hA2 : Hid (totA l i = if lateT l i = true then 11 else 0) := Lib.hid (by rw [hA.out, if_pos rfl])
        clear hA he0
        go_wp2_with fail
        have hty := (h.below hbw).at ht
        obtain ⟨b2, off2, c2, e2, -, y0, -, -⟩ := hty
        simp only [HL.out, Value.slice.injEq, Option.some.injEq, Addr.mk.injEq, true_and, and_true] at e2
        obtain ⟨⟨rfl, rfl⟩, rfl⟩ := e2
        rcases Nat.eq_zero_or_pos i with rfl | hpos
        · skip
          have hA3 : Hid (R = totsK l (0 + 1) (n - (0 + 1))) := Lib.hid (by
            rw [hE2.out, if_pos (by rw [hA2.out, show lateT l 0 = false from rfl]; rfl)])
          clear hE2 hA2 y0 ht
          go_quiet (fail)
          have hdn : Below w.heap.size w (W.drewN nq) := belowN hbw nq
          all_goals (
            go_wp2_with fail
            go_roundw
            case rel => exact ⟨0 + 1, by omega, by go_num, hA3, hdn⟩
            case measure => simp [numOf'] <;> omega)
        · obtain ⟨k, rfl⟩ : ∃ k, i = k + 1 := ⟨i - 1, by omega⟩
          obtain ⟨q, hq⟩ : ∃ q, l[k]? = some q := ⟨_, List.getElem?_eq_getElem (by rw [HL.out]; omega)⟩
          obtain ⟨b', off', c', e', -, x0, -, -⟩ := (h.below hbw).at hq
          simp only [HL.out, Value.slice.injEq, Option.some.injEq, Addr.mk.injEq, true_and, and_true] at e'
          obtain ⟨⟨rfl, rfl⟩, rfl⟩ := e'
          have i1 : (0:Int) < ((k + 1 : Nat) : Int) := by omega
          have i2 : ((k + 1 : Nat) : Int) - 1 = (k : Int) := by omega
          have i3 : (k : Int) < (n : Int) := by omega
          have i4 : IntKind.i64.wrap (k : Int) = (k : Int) := IntWalk.i64_in _ (by omega)
          have i5 : IntKind.i64.wrap ((k : Int) + 1 - 1) = (k : Int) := by rw [IntWalk.i64_in _ (by omega)]; omega
          have i6 : wrap64 (k : Int) = (k : Int) := by simp only [wrap64] at *; omega
          have l1 : (bA t.p).toList = t.p := bA_list _
          have l2 : (bA q.p).toList = q.p := bA_list _
          have hlt : lateT l (k + 1) = (bytesLess t.p q.p || t.p == q.p) := by
            unfold lateT; rw [decide_eq_true (by omega : 0 < k + 1), Bool.true_and, atT_get ht, Nat.add_sub_cancel, atT_get hq]
          cases hlate : lateT l (k + 1) with
          | true =>
            rw [hlate] at hlt hA2
            have hA3 : Hid (R = 11) := Lib.hid (by rw [hE2.out, hA2.out]; rfl)
            have hlt2 := hlt.symm
            clear hE2 hA2 hlate hlt ht hq
            go_quiet (fail)
            have hdn : Below w.heap.size w (W.drewN nq) := belowN hbw nq
            all_goals (go_wp2_with fail; go_ret; exact ⟨by rw [hA3.out]; rfl, hdn⟩)
          | false =>
            rw [hlate] at hlt hA2
            have hA3 : Hid (R = totsK l (k + 1 + 1) (n - (k + 1 + 1))) := Lib.hid (by rw [hE2.out, if_pos (by rw [hA2.out]; rfl)])
            have hlt2 := hlt.symm
            clear hE2 hA2 hlate hlt ht hq
            go_quiet (fail)
            have hdn : Below w.heap.size w (W.drewN nq) := belowN hbw nq
            all_goals (
              go_wp2_with fail
              go_roundw
              case rel => exact ⟨k + 1 + 1, by omega, by go_num, hA3, hdn⟩
              case measure => simp [numOf'] <;> omega)
      · have hA2 : Hid (R = totE t) := Lib.hid (by rw [hE2.out, hA.out, if_neg he0, if_neg he0])
        obtain ⟨x, hx⟩ : ∃ x, totE t = x := ⟨_, rfl⟩
        rw [hx] at he0 hA2 ⊢
        clear hA hE2 hx
        go_wp2_with fail
        go_ret
        exact ⟨by rw [hA2.out]; rfl, hbw⟩
    · obtain rfl : i = n := by omega
      have hE2 : Hid (R = 0) := Lib.hid (by rw [hE.out, Nat.sub_self]; rfl)
      clear hE
      go_wp2_with fail
      go_ret
      exact ⟨by rw [hE2.out]; rfl, hb⟩
end Go.Proofs.Tryz
