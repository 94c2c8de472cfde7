/- A line of a game checked by the season: by the kit's walk. A total's numbers checked, on both sides: by the kit's walk. -/
import Derived.Test.YtbfonnoebbjenaaGreatDoorAxD
import Derived.Test.YtbfonnoebbjenaaGreatDoorAxTb
namespace Go.Proofs.Tryz
open Go Go.Am Go.RowKit Go.Op
set_option maxRecDepth 100000

theorem first2_w (x y : Int) (b : Nat) (W : World) (h0 : W.cell? ⟨b, 0, none⟩ = some (.int .i64 x)) (h1 : W.cell? ⟨b, 1, none⟩ = some (.int .i64 y)) :
    Calls prog 88 #[.slice (some ⟨b, 0, none⟩) 2 2] W fun e w' => e = .returned (.int .i64 (fstE [x, y])) ∧ w' = W :=
  first_w [x, y] b 2 W (by simp) fun j z h => by
    match j, h with
    | 0, h => simp at h; subst h; exact h0
    | 1, h => simp at h; subst h; exact h1
    | j + 2, h => simp at h
theorem index12 (c : Nat → Int) {j : Nat} (h : j < 12) : (#[Value.int .i64 (c 0), .int .i64 (c 1), .int .i64 (c 2), .int .i64 (c 3), .int .i64 (c 4), .int .i64 (c 5), .int .i64 (c 6), .int .i64 (c 7), .int .i64 (c 8), .int .i64 (c 9), .int .i64 (c 10), .int .i64 (c 11)] : Array Value)[j]? = some (.int .i64 (c j)) := by
  rw [← Array.getElem?_toList]
  exact ints_get h
theorem run_idx12 (c : Nat → Int) {j : Nat} (h : j < 12) (w : World) : (Instr.index 54 (.agg #[Value.int .i64 (c 0), .int .i64 (c 1), .int .i64 (c 2), .int .i64 (c 3), .int .i64 (c 4), .int .i64 (c 5), .int .i64 (c 6), .int .i64 (c 7), .int .i64 (c 8), .int .i64 (c 9), .int .i64 (c 10), .int .i64 (c 11)]) (.int .i64 (j : Int))).run prog w = .ok (.int .i64 (c j)) w := by
  have hu : prog.underlying 54 = some (.array 12 3) := by kernel_rfl
  have hi : (0 : Int) ≤ (j : Int) ∧ (j : Int) < 12 := by omega
  have hx := index12 c h
  generalize (#[Value.int .i64 (c 0), .int .i64 (c 1), .int .i64 (c 2), .int .i64 (c 3), .int .i64 (c 4), .int .i64 (c 5), .int .i64 (c 6), .int .i64 (c 7), .int .i64 (c 8), .int .i64 (c 9), .int .i64 (c 10), .int .i64 (c 11)] : Array Value) = xs at hx ⊢
  simp [Instr.index, run_underlying hu, asIntOf, hi, hx, go_sem]
  intro; omega
end Go.Proofs.Tryz

namespace Go.Proofs.Tryz
open Go Go.Am Go.RowKit Go.Op
set_option maxRecDepth 100000

def inR (n : Int) : Prop := -999999999 ≤ n ∧ n ≤ 999999999
instance (n : Int) : Decidable (inR n) := inferInstanceAs (Decidable (_ ∧ _))
theorem inE_r (n : Int) : inE n (-999999999) 999999999 = if inR n then 0 else 3 := by
  unfold inE
  by_cases h : inR n
  · rw [if_pos h, if_neg (by unfold inR at h; omega)]
  · rw [if_neg h, if_pos (by unfold inR at h; omega)]
/-- The first j numbers are in range. -/
def NumK (t : Tot) (j : Nat) : Prop := inR t.gm ∧ ∀ i, i < j → inR (t.c i)
instance (t : Tot) (j : Nat) : Decidable (NumK t j) := inferInstanceAs (Decidable (_ ∧ _))
def numE (t : Tot) : Int := if NumK t 12 then 0 else 3
theorem NumK.succ {t : Tot} {j : Nat} : NumK t (j + 1) ↔ NumK t j ∧ inR (t.c j) := by
  constructor
  · rintro ⟨a, b⟩; exact ⟨⟨a, fun i hi => b i (by omega)⟩, b j (by omega)⟩
  · rintro ⟨⟨a, b⟩, c⟩
    refine ⟨a, fun i hi => ?_⟩
    by_cases h : i = j
    · rw [h]; exact c
    · exact b i (by omega)
theorem num_step (t : Tot) (j : Nat) : fstE [if NumK t j then 0 else 3, inE (t.c j) (-999999999) 999999999] = if NumK t (j + 1) then 0 else 3 := by
  rw [inE_r]
  by_cases h : NumK t j
  · by_cases h2 : inR (t.c j)
    · rw [if_pos h, if_pos h2, if_pos (NumK.succ.2 ⟨h, h2⟩)]; rfl
    · rw [if_pos h, if_neg h2, if_neg (fun q => h2 (NumK.succ.1 q).2)]; rfl
  · rw [if_neg h, if_neg (fun q => h (NumK.succ.1 q).1)]; rfl

set_option maxHeartbeats 3200000 in
theorem numbers_w (t : Tot) (w : World) : Calls prog 132 #[.agg #[.string (bA t.p), .int .i64 t.gm, .int .i64 (t.c 0), .int .i64 (t.c 1), .int .i64 (t.c 2), .int .i64 (t.c 3), .int .i64 (t.c 4), .int .i64 (t.c 5), .int .i64 (t.c 6), .int .i64 (t.c 7), .int .i64 (t.c 8), .int .i64 (t.c 9), .int .i64 (t.c 10), .int .i64 (t.c 11)]] w fun e w' => e = .returned (.int .i64 (numE t)) ∧ Below w.heap.size w w' := by
  have hB : Below w.heap.size w (w.alloc (.cells t.arr 66)) := (Below.refl _ _).alloc (Nat.le_refl _) _
  have hx := at_new w t.arr 66
  obtain ⟨W2, hW⟩ : ∃ W2, w.alloc (.cells t.arr 66) = W2 := ⟨_, rfl⟩
  rw [hW] at hB hx
  obtain ⟨z0, z1, z2, z3, z4, z5, z6, z7, z8, z9, z10, z11, z12, z13⟩ := box14t hx
  unfold Tot.arr at hW
  have c0 := within_w t.gm (-999999999) 999999999
  have H0 : Hid (inE t.gm (-999999999) 999999999 = if NumK t 0 then 0 else 3) := Lib.hid (by
    rw [inE_r]
    by_cases h : inR t.gm
    · rw [if_pos h, if_pos ⟨h, fun i hi => absurd hi (Nat.not_lt_zero i)⟩]
    · rw [if_neg h, if_neg (fun q => h q.1)])
  obtain ⟨e0, he0⟩ : ∃ x, inE t.gm (-999999999) 999999999 = x := ⟨_, rfl⟩
  rw [he0] at c0 H0
  clear he0
  go_enter func132, ntmps132
  go_wp2_with (go_at_call 94; refine (c0 _).mono ?_; rintro e w' ⟨rfl, rfl⟩)
  try rw [hW]
  clear hW
  clear z0 z1 z2 z3 z4 z5 z6 z7 z8 z9 z10 z11 z12 z13 hx c0
  go_loopw [3, 11] (fun s3 s11 wr => ∃ j : Nat, j ≤ 12 ∧ s11 = .int .i64 j ∧ (∃ e, s3 = .int .i64 e ∧ Hid (e = if NumK t j then 0 else 3)) ∧ Below w.heap.size w wr) (fun _ s11 _ => 12 - (numOf' s11).toNat)
  case atStart => exact ⟨0, Nat.zero_le _, rfl, ⟨_, rfl, H0⟩, hB⟩
  case round =>
    clear H0 hB
    obtain ⟨j, hj, rfl, ⟨e, rfl, hE⟩, hbl⟩ := hrel
    by_cases hj12 : j < 12
    · have hidx := run_idx12 t.c hj12
      have hjj : (j : Int) < 12 := by omega
      have cW := within_w (t.c j) (-999999999) 999999999
      have hs := num_step t j
      rw [← hE.out] at hs
      obtain ⟨x, hx⟩ : ∃ x, inE (t.c j) (-999999999) 999999999 = x := ⟨_, rfl⟩
      rw [hx] at cW hs
      have cF := first2_w e x
      have HS := Lib.hid hs
      clear hs hx hE
      have hbx := fun o => hbl.alloc hbl.size o
      go_wp2_with (first
        | (go_at_call 94; refine (cW _).mono ?_; rintro e w' ⟨rfl, rfl⟩)
        | (go_at_call 88; refine (cF _ _ (by simp) (by simp)).mono ?_; rintro e w' ⟨rfl, rfl⟩))
      go_roundw
      case rel => exact ⟨j + 1, by omega, by go_num, ⟨_, rfl, HS⟩, hbx _⟩
      case measure => simp [numOf'] <;> omega
    · obtain rfl : j = 12 := by omega
      go_wp2_with fail
      go_ret
      exact ⟨by rw [show numE t = e from hE.out.symm]; rfl, hbl⟩

/-- What a total's check answers. -/
def totE (t : Tot) : Int := if isNm t.p = true then numE t else 8
theorem first2R_w (x y : Int) (b : Nat) (W : World) (h0 : W.cell? ⟨b, 0, none⟩ = some (.int .i64 x)) (h1 : W.cell? ⟨b, 1, none⟩ = some (.int .i64 y)) :
    Calls prog 22 #[.slice (some ⟨b, 0, none⟩) 2 2] W fun e w' => e = .returned (.int .i64 (fstE [x, y])) ∧ w' = W :=
  firstR_w [x, y] b 2 W (by simp) fun j z h => by
    match j, h with
    | 0, h => simp at h; subst h; exact h0
    | 1, h => simp at h; subst h; exact h1
    | j + 2, h => simp at h
theorem cell14t {w : World} {b : Nat} {x : Tot} {e : TypeId} (h : At w b x.arr e) {i : Nat} (hi : i < 12) : w.cell? ⟨b, 2 + i, none⟩ = some (.int .i64 (x.c i)) := by
  unfold At at h
  simp only [World.cell?, h]
  have : x.arr[2 + i]? = some (.int .i64 (x.c i)) := by
    rw [← Array.getElem?_toList, Tot.arr_cells, Nat.add_comm]
    exact ints_get hi
  simpa using this
theorem tot_head (t : Tot) : fstE [nmE t.p, inE t.gm (-999999999) 999999999] = if isNm t.p = true then (if NumK t 0 then 0 else 3) else 8 := by
  have h0 : inE t.gm (-999999999) 999999999 = if NumK t 0 then 0 else 3 := by
    rw [inE_r]
    by_cases h : inR t.gm
    · rw [if_pos h, if_pos ⟨h, fun i hi => absurd hi (Nat.not_lt_zero i)⟩]
    · rw [if_neg h, if_neg (fun q => h q.1)]
  rw [h0]
  unfold nmE
  cases isNm t.p with
  | false => simp [fstE]
  | true => by_cases h : NumK t 0 <;> simp [h, fstE]
theorem NumK.mono {t : Tot} {i j : Nat} (h : NumK t j) (hij : i ≤ j) : NumK t i := ⟨h.1, fun k hk => h.2 k (by omega)⟩

set_option maxHeartbeats 3200000 in
theorem checkTotR_w (t : Tot) (w : World) : Calls prog 107 #[.agg #[.string (bA t.p), .int .i64 t.gm, .int .i64 (t.c 0), .int .i64 (t.c 1), .int .i64 (t.c 2), .int .i64 (t.c 3), .int .i64 (t.c 4), .int .i64 (t.c 5), .int .i64 (t.c 6), .int .i64 (t.c 7), .int .i64 (t.c 8), .int .i64 (t.c 9), .int .i64 (t.c 10), .int .i64 (t.c 11)]] w fun e w' => e = .returned (.int .i64 (totE t)) ∧ Below w.heap.size w w' := by
  have hB : Below w.heap.size w (w.alloc (.cells t.arr 56)) := (Below.refl _ _).alloc (Nat.le_refl _) _
  have hx := at_new w t.arr 56
  obtain ⟨W2, hW⟩ : ∃ W2, w.alloc (.cells t.arr 56) = W2 := ⟨_, rfl⟩
  rw [hW] at hB hx
  obtain ⟨z0, z1, -⟩ := box14t hx
  have hxB := Lib.hid hx
  have hBs := Lib.hid hB
  unfold Tot.arr at hW
  have cN := nameE_w t.p
  have c0 := rangeR_w t.gm (-999999999) 999999999
  have H0 := Lib.hid (tot_head t)
  obtain ⟨en, hen⟩ : ∃ x, nmE t.p = x := ⟨_, rfl⟩
  obtain ⟨e0, he0⟩ : ∃ x, inE t.gm (-999999999) 999999999 = x := ⟨_, rfl⟩
  rw [hen] at cN H0
  rw [he0] at c0 H0
  have cF := first2R_w en e0
  clear hen he0
  obtain ⟨R, hR⟩ : ∃ R, totE t = R := ⟨_, rfl⟩
  rw [hR]
  have HR : Hid (totE t = R) := Lib.hid hR
  clear hR
  have hlt := hx.lt
  clear hx
  go_enter func107, ntmps107
  go_wp2_with fail
  try rw [hW]
  clear hW
  have hdr : Below W2.heap.size W2 W2.drew := (Below.refl _ _).drew
  go_cut [3] (fun s3 wx => s3 = .int .i64 (fstE [en, e0]) ∧ Below W2.heap.size W2 wx)
  case first =>
    clear H0 HR
    have hbs : ∀ o, Below W2.heap.size W2 (W2.alloc o) := fun o => (Below.refl _ W2).alloc (Nat.le_refl _) o
    have hbd : ∀ o, Below W2.heap.size W2 (W2.alloc o).drew := fun o => (hbs o).drew
    go_region_held3 (fun W => W.cell? ⟨w.heap.size, 0, none⟩ = some (.string (bA t.p)) ∧ W.cell? ⟨w.heap.size, 1, none⟩ = some (.int .i64 t.gm) ∧ Below W2.heap.size W2 W)
      (go_keep)
      (first
        | (go_at_call 48; refine Calls.mono (cN _) ?_; rintro e W ⟨rfl, rfl⟩)
        | (go_at_call 33; refine Calls.mono (c0 _) ?_; rintro e W ⟨rfl, rfl⟩)
        | (go_at_call 22; refine Calls.mono (cF _ _ (by simp) (by simp)) ?_; rintro e W ⟨rfl, rfl⟩))
    all_goals (go_wp2_with fail; go_meet; exact ⟨rfl, hbd _⟩)
  case rest =>
    obtain ⟨rfl, hk⟩ := hcut
    have hxw := hxB.out.below hk hlt
    have hbw : Below w.heap.size w wc := hBs.out.trans (hk.mono hBs.out.size)
    have hyc := fun j hj => cell14t (i := j) hxw hj
    clear hxw hxB hBs z0 z1 hB hdr cN c0 cF hk
    cases hnm : isNm t.p with
    | false =>
      have h8 : fstE [en, e0] = 8 := by rw [H0.out, hnm]; rfl
      rw [h8]
      have HR2 : Hid (R = 8) := Lib.hid (by rw [← HR.out]; unfold totE; rw [hnm]; rfl)
      clear H0 HR h8 hyc
      go_wp2_with fail
      go_ret
      exact ⟨by rw [HR2.out]; rfl, hbw⟩
    | true =>
      have HR2 : Hid (R = numE t) := Lib.hid (by rw [← HR.out]; unfold totE; rw [hnm]; rfl)
      clear HR
      by_cases hk0 : NumK t 0
      · have h8 : fstE [en, e0] = 0 := by rw [H0.out, hnm, if_pos rfl, if_pos hk0]
        rw [h8]
        have HK := Lib.hid hk0
        clear H0 h8 hk0 hnm
        have HY := Lib.hid hyc
        clear hyc
        go_wp2_with fail
        go_loopw [4, 5] (fun s4 s5 wr => ∃ j : Nat, j ≤ 12 ∧ s4 = .int .i64 j ∧ Hid (NumK t j) ∧ wr = wc) (fun s4 _ _ => 12 - (numOf' s4).toNat)
        case atStart => exact ⟨0, Nat.zero_le _, rfl, HK, rfl⟩
        case round =>
          clear HK
          obtain ⟨j, hj, rfl, hE, rfl⟩ := hrel
          by_cases hj12 : j < 12
          · have cj := HY.out j hj12
            have hjj : (j : Int) < 12 := by omega
            have cW := rangeR_w (t.c j) (-999999999) 999999999
            rw [inE_r] at cW
            by_cases hin : inR (t.c j)
            · rw [if_pos hin] at cW
              have hE2 := Lib.hid (NumK.succ.2 ⟨hE.out, hin⟩)
              clear hE hin
              go_wp2_with (go_at_call 33; refine (cW _).mono ?_; rintro e w' ⟨rfl, rfl⟩)
              go_roundw
              case rel => exact ⟨j + 1, by omega, by go_num, hE2, by first | trivial | rfl⟩
              case measure => simp [numOf'] <;> omega
            · rw [if_neg hin] at cW
              have hE2 : Hid (R = 3) := Lib.hid (by
                rw [HR2.out]; unfold numE
                rw [if_neg (fun q => hin (q.2 j hj12))])
              clear hE hin
              go_wp2_with (go_at_call 33; refine (cW _).mono ?_; rintro e w' ⟨rfl, rfl⟩)
              go_ret
              exact ⟨by rw [hE2.out]; rfl, hbw⟩
          · obtain rfl : j = 12 := by omega
            have hE2 : Hid (R = 0) := Lib.hid (by rw [HR2.out]; unfold numE; rw [if_pos hE.out])
            go_wp2_with fail
            go_ret
            exact ⟨by rw [hE2.out]; rfl, hbw⟩
      · have h8 : fstE [en, e0] = 3 := by rw [H0.out, hnm, if_pos rfl, if_neg hk0]
        rw [h8]
        have HR3 : Hid (R = 3) := Lib.hid (by rw [HR2.out]; unfold numE; rw [if_neg (fun q => hk0 (q.mono (Nat.zero_le _)))])
        clear H0 h8 hk0 hnm hyc HR2
        go_wp2_with fail
        go_ret
        exact ⟨by rw [HR3.out]; rfl, hbw⟩
end Go.Proofs.Tryz
