/- A line of a game checked by the season: by the kit's walk. A total's numbers checked, on both sides: by the kit's walk. Totals compared: by the kit's walk. Counts added, by the reference: by the kit's walk. A row of the call's own written in place. A total added to totals in order, by the reference: by the kit's walk. The lines of games added to totals, by the reference: by the kit's walk. -/
import Derived.Test.YtbfonnoebbjenaaGreatDoorAxG
import Derived.Test.YtbfonnoebbjenaaGreatDoorAxPb
import Derived.Deep.QuietTactic
namespace Go.Proofs.Tryz
open Go Go.Am Go.RowKit Go.Op
set_option maxRecDepth 100000

theorem first2_w (x y : Int) (b : Nat) (W : World) (h0 : W.cell? ⟨b, 0, none⟩ = some (.int .i64 x)) (h1 : W.cell? ⟨b, 1, none⟩ = some (.int .i64 y)) :
    Calls prog 88 #[.slice (some ⟨b, 0, none⟩) 2 2] W fun e w' => e = .returned (.int .i64 (fstE [x, y])) ∧ w' = W :=
  first_w [x, y] b 2 W (by simp) fun j z h => by
    match j, h with
    | 0, h => simp at h; subst h; exact h0
    | 1, h => simp at h; subst h; exact h1
    | j + 2, h => simp at h
theorem index12 (c : Nat → Int) {j : Nat} (h : j < 12) : (#[Value.int .i64 (c 0), .int .i64 (c 1), .int .i64 (c 2), .int .i64 (c 3), .int .i64 (c 4), .int .i64 (c 5), .int .i64 (c 6), .int .i64 (c 7), .int .i64 (c 8), .int .i64 (c 9), .int .i64 (c 10), .int .i64 (c 11)] : Array Value)[j]? = some (.int .i64 (c j)) := by
  rw [← Array.getElem?_toList]
  exact ints_get h
theorem run_idx12 (c : Nat → Int) {j : Nat} (h : j < 12) (w : World) : (Instr.index 54 (.agg #[Value.int .i64 (c 0), .int .i64 (c 1), .int .i64 (c 2), .int .i64 (c 3), .int .i64 (c 4), .int .i64 (c 5), .int .i64 (c 6), .int .i64 (c 7), .int .i64 (c 8), .int .i64 (c 9), .int .i64 (c 10), .int .i64 (c 11)]) (.int .i64 (j : Int))).run prog w = .ok (.int .i64 (c j)) w := by
  have hu : prog.underlying 54 = some (.array 12 3) := by kernel_rfl
  have hi : (0 : Int) ≤ (j : Int) ∧ (j : Int) < 12 := by omega
  have hx := index12 c h
  generalize (#[Value.int .i64 (c 0), .int .i64 (c 1), .int .i64 (c 2), .int .i64 (c 3), .int .i64 (c 4), .int .i64 (c 5), .int .i64 (c 6), .int .i64 (c 7), .int .i64 (c 8), .int .i64 (c 9), .int .i64 (c 10), .int .i64 (c 11)] : Array Value) = xs at hx ⊢
  simp [Instr.index, run_underlying hu, asIntOf, hi, hx, go_sem]
  intro; omega
/-- What the season's line answers. -/
theorem line_split (g : GmD) (x : LnD) : lineE g.t0 g.t1 x = if fstE [nmE x.p, if x.t ≠ g.t0 ∧ x.t ≠ g.t1 then 10 else 0] = 0 then cntE x.c 0 12 else fstE [nmE x.p, if x.t ≠ g.t0 ∧ x.t ≠ g.t1 then 10 else 0] := by
  unfold lineE nmE fstE fstE fstE
  cases isNm x.p with
  | false => simp
  | true =>
    by_cases h : x.t ≠ g.t0 ∧ x.t ≠ g.t1
    · simp [h]
    · simp [h]

set_option maxHeartbeats 6400000 in
theorem line_w (g : GmD) (x : LnD) (lv : Value) (w : World) :
    Calls prog 122 #[g.val lv, x.val] w fun e w' => e = .returned (.int .i64 (lineE g.t0 g.t1 x)) ∧ Below w.heap.size w w' := by
  have hB : Below w.heap.size w (w.alloc (.cells (g.arr lv) 110)) := (Below.refl _ _).alloc (Nat.le_refl _) _
  have hB2 : Below w.heap.size w ((w.alloc (.cells (g.arr lv) 110)).alloc (.cells x.arr 132)) := hB.alloc hB.size _
  have hx := (at_new w (g.arr lv) 110).alloc (.cells x.arr 132)
  have hy : At ((w.alloc (.cells (g.arr lv) 110)).alloc (.cells x.arr 132)) (w.heap.size + 1) x.arr 132 := by
    have := at_new (w.alloc (.cells (g.arr lv) 110)) x.arr 132
    simpa using this
  obtain ⟨W2, hW⟩ : ∃ W2, (w.alloc (.cells (g.arr lv) 110)).alloc (.cells x.arr 132) = W2 := ⟨_, rfl⟩
  rw [hW] at hB2 hx hy
  unfold GmD.arr at hW hx
  unfold LnD.arr at hW
  unfold GmD.val LnD.val
  obtain ⟨R, hR⟩ : ∃ R, lineE g.t0 g.t1 x = R := ⟨_, rfl⟩
  have HS := Lib.hid (line_split g x)
  rw [hR] at HS ⊢
  clear hR hB
  have cN := named_w x.p
  obtain ⟨en, hen⟩ : ∃ en, nmE x.p = en := ⟨_, rfl⟩
  rw [hen] at cN HS
  obtain ⟨⟨-, -, -, x3, x4, -, -, -⟩, -⟩ := box8 hx
  obtain ⟨y0, y1, -⟩ := box14 hy
  have l1 : (bA x.t).toList = x.t := bA_list _
  have l2 : (bA g.t0).toList = g.t0 := bA_list _
  have l3 : (bA g.t1).toList = g.t1 := bA_list _
  go_enter func122, ntmps122
  go_wp2_with fail
  try rw [hW]
  clear hW
  have hdr : Below W2.heap.size W2 W2.drew := (Below.refl _ _).drew
  obtain ⟨e2, he2⟩ : ∃ e2 : Int, (if x.t ≠ g.t0 ∧ x.t ≠ g.t1 then 10 else 0) = e2 := ⟨_, rfl⟩
  rw [he2] at HS
  have HE2 := Lib.hid he2
  clear he2
  go_cut [5] (fun s5 wx => s5 = .int .i64 (fstE [en, e2]) ∧ Below W2.heap.size W2 wx)
  case first =>
    clear HS
    have cF := first2_w en e2
    by_cases h0 : x.t = g.t0
    · have q0 : (x.t == g.t0) = true := by simpa using h0
      obtain rfl : e2 = 0 := by rw [← HE2.out, if_neg (fun h => h.1 h0)]
      clear h0 HE2
      have hpres : ∀ W W' : World, W.cell? ⟨w.heap.size, 3, none⟩ = some (.string (bA g.t0)) ∧ W.cell? ⟨w.heap.size, 4, none⟩ = some (.string (bA g.t1)) ∧ W.cell? ⟨w.heap.size + 1, 0, none⟩ = some (.string (bA x.p)) ∧ W.cell? ⟨w.heap.size + 1, 1, none⟩ = some (.string (bA x.t)) ∧ Below W2.heap.size W2 W → Below W.heap.size W W' → W'.cell? ⟨w.heap.size, 3, none⟩ = some (.string (bA g.t0)) ∧ W'.cell? ⟨w.heap.size, 4, none⟩ = some (.string (bA g.t1)) ∧ W'.cell? ⟨w.heap.size + 1, 0, none⟩ = some (.string (bA x.p)) ∧ W'.cell? ⟨w.heap.size + 1, 1, none⟩ = some (.string (bA x.t)) ∧ Below W2.heap.size W2 W' := fun W W' hW hk => by
        have hbk : Below W2.heap.size W2 W' := hW.2.2.2.2.trans (hk.mono hW.2.2.2.2.size)
        obtain ⟨⟨-, -, -, x3, x4, -, -, -⟩, -⟩ := box8 (hx.below hbk hx.lt)
        obtain ⟨y0, y1, -⟩ := box14 (hy.below hbk hy.lt)
        exact ⟨x3, x4, y0, y1, hbk⟩
      have cWf := when_w false 10
      refine wp_region_quiet_to (C := (fun W => W.cell? ⟨w.heap.size, 3, none⟩ = some (.string (bA g.t0)) ∧ W.cell? ⟨w.heap.size, 4, none⟩ = some (.string (bA g.t1)) ∧ W.cell? ⟨w.heap.size + 1, 0, none⟩ = some (.string (bA x.p)) ∧ W.cell? ⟨w.heap.size + 1, 1, none⟩ = some (.string (bA x.t)) ∧ Below W2.heap.size W2 W)) 18 3 #[true, true, true, true, true, true, true, true, true, true, true, true, true, true, true, true, true, true, false, false, false] (by kernel_rfl) (by kernel_rfl) ?_ ?_
      · (try dsimp only)
        exact ⟨x3, x4, y0, y1, hdr⟩
      simp only [List.take_succ_cons, List.take_zero]
      refine quiet_take (v := ?_) (by rfl) ?_ ?_
      rotate_left
      · (intro w hSw; (try dsimp only at hSw); go_simp); all_goals (with_reducible rfl)
      try simp only [Act.put, List.setIfInBounds_toArray, List.set_cons_zero, List.set_cons_succ]
      refine quiet_take (v := ?_) (by rfl) ?_ ?_
      rotate_left
      · (intro w hSw; (try dsimp only at hSw); go_simp); all_goals (with_reducible rfl)
      try simp only [Act.put, List.setIfInBounds_toArray, List.set_cons_zero, List.set_cons_succ]
      refine quiet_call (f := 117) (args := ?_) (v := .int .i64 en) (by rfl) ?_ ?_ ?_
      rotate_left
      · (intro w hSw; (try dsimp only at hSw); go_simp); all_goals (with_reducible rfl)
      · (intro W hSw); refine (cN W).mono ?_; rintro e W' ⟨rfl, hk⟩; exact ⟨rfl, hpres W W' hSw hk⟩
      try simp only [Act.put, List.setIfInBounds_toArray, List.set_cons_zero, List.set_cons_succ]
      refine quiet_take (v := ?_) (by rfl) ?_ ?_
      rotate_left
      · (intro w hSw; (try dsimp only at hSw); go_simp); all_goals (with_reducible rfl)
      try simp only [Act.put, List.setIfInBounds_toArray, List.set_cons_zero, List.set_cons_succ]
      refine quiet_take (v := ?_) (by rfl) ?_ ?_
      rotate_left
      · (intro w hSw; (try dsimp only at hSw); go_simp); all_goals (with_reducible rfl)
      try simp only [Act.put, List.setIfInBounds_toArray, List.set_cons_zero, List.set_cons_succ]
      refine quiet_take (v := ?_) (by rfl) ?_ ?_
      rotate_left
      · (intro w hSw; (try dsimp only at hSw); go_simp); all_goals (with_reducible rfl)
      try simp only [Act.put, List.setIfInBounds_toArray, List.set_cons_zero, List.set_cons_succ]
      refine quiet_take (v := ?_) (by rfl) ?_ ?_
      rotate_left
      · (intro w hSw; (try dsimp only at hSw); go_simp); all_goals (with_reducible rfl)
      try simp only [Act.put, List.setIfInBounds_toArray, List.set_cons_zero, List.set_cons_succ]
      refine quiet_take (v := ?_) (by rfl) ?_ ?_
      rotate_left
      · (intro w hSw; (try dsimp only at hSw); go_simp); all_goals (with_reducible rfl)
      try simp only [Act.put, List.setIfInBounds_toArray, List.set_cons_zero, List.set_cons_succ]
      refine quiet_take (v := ?_) (by rfl) ?_ ?_
      rotate_left
      · (intro w hSw; (try dsimp only at hSw); go_simp); all_goals (with_reducible rfl)
      try simp only [Act.put, List.setIfInBounds_toArray, List.set_cons_zero, List.set_cons_succ]
      refine quiet_take (v := ?_) (by rfl) ?_ ?_
      rotate_left
      · (intro w hSw; (try dsimp only at hSw); go_simp); all_goals (with_reducible rfl)
      try simp only [Act.put, List.setIfInBounds_toArray, List.set_cons_zero, List.set_cons_succ]
      refine quiet_skip (by rfl) ?_
      try simp only [Act.put, List.setIfInBounds_toArray, List.set_cons_zero, List.set_cons_succ]
      refine quiet_skip (by rfl) ?_
      try simp only [Act.put, List.setIfInBounds_toArray, List.set_cons_zero, List.set_cons_succ]
      refine quiet_skip (by rfl) ?_
      try simp only [Act.put, List.setIfInBounds_toArray, List.set_cons_zero, List.set_cons_succ]
      refine quiet_skip (by rfl) ?_
      try simp only [Act.put, List.setIfInBounds_toArray, List.set_cons_zero, List.set_cons_succ]
      refine quiet_skip (by rfl) ?_
      try simp only [Act.put, List.setIfInBounds_toArray, List.set_cons_zero, List.set_cons_succ]
      refine quiet_skip (by rfl) ?_
      try simp only [Act.put, List.setIfInBounds_toArray, List.set_cons_zero, List.set_cons_succ]
      refine quiet_take (v := ?_) (by rfl) ?_ ?_
      rotate_left
      · (intro w hSw; (try dsimp only at hSw); go_simp); all_goals (with_reducible rfl)
      try simp only [Act.put, List.setIfInBounds_toArray, List.set_cons_zero, List.set_cons_succ]
      refine quiet_call (f := 113) (args := ?_) (v := .int .i64 0) (by rfl) ?_ ?_ ?_
      rotate_left
      · (intro w hSw; (try dsimp only at hSw); go_simp); all_goals (with_reducible rfl)
      · (intro W hSw); refine (cWf W).mono ?_; rintro e W' ⟨rfl, rfl⟩; exact ⟨rfl, hSw⟩
      try simp only [Act.put, List.setIfInBounds_toArray, List.set_cons_zero, List.set_cons_succ]
      refine wpQuiet_nil ?_
      intro W hSw
      refine wpAny_of_held (S := fun _ => True) _ _ _ _ ?_
      refine wpAnyH_ready (rs := [18]) (by kernel_rfl) (by simp) ?_
      refine AllReadyH.cons (o := _) rfl (fun K hK => ?_) ?_
      · -- buildSlice
        go_simp
        refine hK.out _ _ trivial (fun _ => ?_)
        clear hK K
        try simp only [List.setIfInBounds_toArray, List.set_cons_zero, List.set_cons_succ]
        refine wpAnyH_ready (rs := [19]) (by kernel_rfl) (by simp) ?_
        refine AllReadyH.cons (o := _) rfl (fun K hK => ?_) ?_
        · -- 88
          go_simp
          refine Calls.mono (cF _ _ (by simp) (by simp)) ?_; rintro e w' ⟨rfl, rfl⟩
          refine hK.out _ _ trivial (fun _ => ?_)
          clear hK K
          try simp only [List.setIfInBounds_toArray, List.set_cons_zero, List.set_cons_succ]
          refine wpAnyH_ready (rs := [20]) (by kernel_rfl) (by simp) ?_
          refine AllReadyH.cons (o := _) rfl (fun K hK => ?_) ?_
          · -- assign
            go_simp
            refine hK.out _ _ trivial (fun _ => ?_)
            clear hK K
            try simp only [List.setIfInBounds_toArray, List.set_cons_zero, List.set_cons_succ]
            refine wpAnyH_done (by kernel_rfl) ?_ _
            go_wp2_with fail
            go_meet
            exact ⟨rfl, hSw.2.2.2.2.alloc hSw.2.2.2.2.size _⟩
          exact AllReadyH.nil
        exact AllReadyH.nil
      exact AllReadyH.nil
    · have q0 : (x.t == g.t0) = false := by simpa using h0
      by_cases h1 : x.t = g.t1
      · have q1 : (x.t == g.t1) = true := by simpa using h1
        obtain rfl : e2 = 0 := by rw [← HE2.out, if_neg (fun h => h.2 h1)]
        clear h0 h1 HE2
        go_region_held3 (fun W => W.cell? ⟨w.heap.size, 3, none⟩ = some (.string (bA g.t0)) ∧ W.cell? ⟨w.heap.size, 4, none⟩ = some (.string (bA g.t1)) ∧ W.cell? ⟨w.heap.size + 1, 0, none⟩ = some (.string (bA x.p)) ∧ W.cell? ⟨w.heap.size + 1, 1, none⟩ = some (.string (bA x.t)) ∧ Below W2.heap.size W2 W)
          (go_keep)
          (first
            | (go_at_call 117; refine Calls.mono (cN _) ?_; rintro e W ⟨rfl, hkk⟩; have hbk := Below.trans (B := W2.heap.size) (a := W2) (by assumption) (Below.mono hkk (Below.size (B := W2.heap.size) (w := W2) (by assumption))); have hbs : ∀ o, Below W2.heap.size W2 (W.alloc o) := (fun o => hbk.alloc hbk.size o); obtain ⟨⟨-, -, -, x3, x4, -, -, -⟩, -⟩ := box8 (hx.below hbk hx.lt); obtain ⟨y0, y1, -⟩ := box14 (hy.below hbk hy.lt))
            | (go_at_call 113; refine Calls.mono (when_w _ _ _) ?_; rintro e w' ⟨rfl, rfl⟩)
            | (go_at_call 88; refine Calls.mono (cF _ _ (by simp) (by simp)) ?_; rintro e w' ⟨rfl, rfl⟩))
        all_goals (go_wp2_with fail; go_meet; exact ⟨rfl, hbs _⟩)
      · have q1 : (x.t == g.t1) = false := by simpa using h1
        obtain rfl : e2 = 10 := by rw [← HE2.out, if_pos ⟨h0, h1⟩]
        clear h0 h1 HE2
        go_region_held3 (fun W => W.cell? ⟨w.heap.size, 3, none⟩ = some (.string (bA g.t0)) ∧ W.cell? ⟨w.heap.size, 4, none⟩ = some (.string (bA g.t1)) ∧ W.cell? ⟨w.heap.size + 1, 0, none⟩ = some (.string (bA x.p)) ∧ W.cell? ⟨w.heap.size + 1, 1, none⟩ = some (.string (bA x.t)) ∧ Below W2.heap.size W2 W)
          (go_keep)
          (first
            | (go_at_call 117; refine Calls.mono (cN _) ?_; rintro e W ⟨rfl, hkk⟩; have hbk := Below.trans (B := W2.heap.size) (a := W2) (by assumption) (Below.mono hkk (Below.size (B := W2.heap.size) (w := W2) (by assumption))); have hbs : ∀ o, Below W2.heap.size W2 (W.alloc o) := (fun o => hbk.alloc hbk.size o); obtain ⟨⟨-, -, -, x3, x4, -, -, -⟩, -⟩ := box8 (hx.below hbk hx.lt); obtain ⟨y0, y1, -⟩ := box14 (hy.below hbk hy.lt))
            | (go_at_call 113; refine Calls.mono (when_w _ _ _) ?_; rintro e w' ⟨rfl, rfl⟩)
            | (go_at_call 88; refine Calls.mono (cF _ _ (by simp) (by simp)) ?_; rintro e w' ⟨rfl, rfl⟩))
        all_goals (go_wp2_with fail; go_meet; exact ⟨rfl, hbs _⟩)
  case rest =>
    obtain ⟨rfl, hbA⟩ := hcut
    have hy2 := hy.below hbA hy.lt
    have hB3 : Below w.heap.size w wc := hB2.trans (hbA.mono hB2.size)
    clear hbA hy hx x3 x4 y0 y1 hdr hB2 cN l1 l2 l3 HE2
    obtain ⟨v1, hv1⟩ : ∃ v1, fstE [en, e2] = v1 := ⟨_, rfl⟩
    rw [hv1] at HS ⊢
    clear hv1
    by_cases h0 : v1 = 0
    · subst h0
      have HS2 := Lib.hid (HS.out.trans (if_pos rfl))
      clear HS
      obtain ⟨-, -, q0, q1, q2, q3, q4, q5, q6, q7, q8, q9, q10, q11⟩ := box14 hy2
      have HE : Hid (cntE x.c 0 12 = cntE x.c 0 (12 - 0)) := Lib.hid rfl
      go_wp2_with fail
      go_loopw [34] (fun s wr => ∃ j : Nat, j ≤ 12 ∧ s = .int .i64 j ∧ Hid (cntE x.c 0 12 = cntE x.c j (12 - j)) ∧ wr = wc) (fun s _ => 12 - (numOf' s).toNat)
      case atStart => exact ⟨0, Nat.zero_le _, rfl, Lib.hid rfl, rfl⟩
      case round =>
        try clear HE
        obtain ⟨j, hj, rfl, hE, rfl⟩ := hrel
        by_cases hj12 : j < 12
        · have cj := run_idx12 x.c hj12
          have hs := cnt_step x.c hj12
          have hjj : (j : Int) < 12 := by omega
          have cW := within_w (x.c j) 0 999
          rcases inE_cases (x.c j) 0 999 with h | h
          · rw [h] at cW hs
            have hE2 : Hid (cntE x.c 0 12 = cntE x.c (j + 1) (12 - (j + 1))) := Lib.hid (by rw [hE.out, hs, if_pos rfl])
            clear hE hs h
            go_wp2_with fail
            refine (cW _).mono ?_
            rintro e w' ⟨rfl, rfl⟩
            go_wp2_with fail
            go_roundw
            case rel => exact ⟨j + 1, by omega, by go_num, hE2, by first | trivial | rfl⟩
            case measure => simp [numOf'] <;> omega
          · rw [h] at cW hs
            have hE2 : Hid (R = 3) := Lib.hid (by rw [HS2.out, hE.out, hs, if_neg (by decide)])
            clear hE hs h
            go_wp2_with fail
            refine (cW _).mono ?_
            rintro e w' ⟨rfl, rfl⟩
            go_wp2_with fail
            go_ret
            exact ⟨by rw [hE2.out]; try rfl, hB3⟩
        · obtain rfl : j = 12 := by omega
          have hE2 : Hid (R = 0) := Lib.hid (by rw [HS2.out, hE.out, Nat.sub_self, cntE])
          clear hE
          go_wp2_with fail
          go_ret
          exact ⟨by rw [hE2.out]; try rfl, hB3⟩
    · have HS2 := Lib.hid (HS.out.trans (if_neg h0))
      have h0' : (v1 != 0) = true := by simpa using h0
      clear HS
      go_wp2_with fail
      go_ret
      exact ⟨by rw [HS2.out]; try rfl, hB3⟩
end Go.Proofs.Tryz

namespace Go.Proofs.Tryz
open Go Go.Am Go.RowKit Go.Op
set_option maxRecDepth 100000

def inR (n : Int) : Prop := -999999999 ≤ n ∧ n ≤ 999999999
instance (n : Int) : Decidable (inR n) := inferInstanceAs (Decidable (_ ∧ _))
/-- The first j numbers are in range. -/
def NumK (t : Tot) (j : Nat) : Prop := inR t.gm ∧ ∀ i, i < j → inR (t.c i)
instance (t : Tot) (j : Nat) : Decidable (NumK t j) := inferInstanceAs (Decidable (_ ∧ _))
theorem first2R_w (x y : Int) (b : Nat) (W : World) (h0 : W.cell? ⟨b, 0, none⟩ = some (.int .i64 x)) (h1 : W.cell? ⟨b, 1, none⟩ = some (.int .i64 y)) :
    Calls prog 22 #[.slice (some ⟨b, 0, none⟩) 2 2] W fun e w' => e = .returned (.int .i64 (fstE [x, y])) ∧ w' = W :=
  firstR_w [x, y] b 2 W (by simp) fun j z h => by
    match j, h with
    | 0, h => simp at h; subst h; exact h0
    | 1, h => simp at h; subst h; exact h1
    | j + 2, h => simp at h
end Go.Proofs.Tryz

namespace Go.Proofs.Tryz
open Go Go.Am Go.RowKit Go.Op
set_option maxRecDepth 100000

end Go.Proofs.Tryz

namespace Go.Proofs.Tryz
open Go Go.Am Go.RowKit Go.Op
set_option maxRecDepth 100000

/-- A number of int's. -/
def inI (x : Int) : Prop := -9223372036854775808 ≤ x ∧ x ≤ 9223372036854775807
theorem inI_wrap {x : Int} (h : inI x) : IntKind.i64.wrap x = x ∧ wrap64 x = x := by
  obtain ⟨h1, h2⟩ := h
  have e : IntKind.i64.wrap x = x := IntWalk.i64_in _ (by omega)
  exact ⟨e, by simp only [wrap64] at *; omega⟩
theorem box12 {w : World} {b : Nat} {c0 c1 c2 c3 c4 c5 c6 c7 c8 c9 c10 c11 : Value} {e : TypeId} (h : At w b #[c0, c1, c2, c3, c4, c5, c6, c7, c8, c9, c10, c11] e) : (w.cell? ⟨b, 0, none⟩ = some c0 ∧ w.cell? ⟨b, 1, none⟩ = some c1 ∧ w.cell? ⟨b, 2, none⟩ = some c2 ∧ w.cell? ⟨b, 3, none⟩ = some c3 ∧ w.cell? ⟨b, 4, none⟩ = some c4 ∧ w.cell? ⟨b, 5, none⟩ = some c5 ∧ w.cell? ⟨b, 6, none⟩ = some c6 ∧ w.cell? ⟨b, 7, none⟩ = some c7 ∧ w.cell? ⟨b, 8, none⟩ = some c8 ∧ w.cell? ⟨b, 9, none⟩ = some c9 ∧ w.cell? ⟨b, 10, none⟩ = some c10 ∧ w.cell? ⟨b, 11, none⟩ = some c11) ∧ (w.frozen? ⟨b, 0, none⟩ = false ∧ w.frozen? ⟨b, 1, none⟩ = false ∧ w.frozen? ⟨b, 2, none⟩ = false ∧ w.frozen? ⟨b, 3, none⟩ = false ∧ w.frozen? ⟨b, 4, none⟩ = false ∧ w.frozen? ⟨b, 5, none⟩ = false ∧ w.frozen? ⟨b, 6, none⟩ = false ∧ w.frozen? ⟨b, 7, none⟩ = false ∧ w.frozen? ⟨b, 8, none⟩ = false ∧ w.frozen? ⟨b, 9, none⟩ = false ∧ w.frozen? ⟨b, 10, none⟩ = false ∧ w.frozen? ⟨b, 11, none⟩ = false) := by
  unfold At at h
  refine ⟨⟨?_, ?_, ?_, ?_, ?_, ?_, ?_, ?_, ?_, ?_, ?_, ?_⟩, ?_, ?_, ?_, ?_, ?_, ?_, ?_, ?_, ?_, ?_, ?_, ?_⟩ <;> simp only [World.cell?, World.frozen?, h] <;> rfl
theorem results_cell1 {fn : Func} {p : Tmp} {ty : TypeId} (h : fn.results = #[.cell p ty]) (tmps : Array Value) (P : Program) (w : World) :
    (results fn tmps).run P w = ((asAddr (tmps.getD p undef)).run P w).andThen fun a w₁ => (loadVar ty a).run P w₁ := by
  simp only [results, h]
  simp [Sem.run_bind, Result.andThen]
end Go.Proofs.Tryz

namespace Go.Proofs.Tryz
open Go Go.Am Go.RowKit Go.Op
set_option maxRecDepth 100000

theorem flatR_set {m : Nat} : ∀ {l : List (List Value)} {i j : Nat} {x : List Value} {u : Value}, (∀ y ∈ l, y.length = m) → l[i]? = some x → j < m → flatR (l.set i (x.set j u)) = (flatR l).set (i * m + j) u
  | [], _, _, _, _, _, h, _ => by simp at h
  | y :: l, 0, j, x, u, hm, h, hj => by
    simp only [List.getElem?_cons_zero, Option.some.injEq] at h
    subst h
    have hy := hm y (by simp)
    rw [List.set_cons_zero, Nat.zero_mul, Nat.zero_add]
    show (y.set j u ++ l.flatten) = (y ++ l.flatten).set j u
    rw [List.set_append_left _ _ (by omega)]
  | y :: l, i + 1, j, x, u, hm, h, hj => by
    simp only [List.getElem?_cons_succ] at h
    have ih := flatR_set (u := u) (fun z hz => hm z (by simp [hz])) h hj
    have hy := hm y (by simp)
    rw [List.set_cons_succ]
    show y ++ (l.set i (x.set j u)).flatten = (y ++ l.flatten).set ((i + 1) * m + j) u
    have e : (i + 1) * m + j = y.length + (i * m + j) := by rw [hy, Nat.add_mul]; omega
    rw [e, List.set_append_right _ _ (by omega), Nat.add_sub_cancel_left]
    exact congrArg _ ih
theorem OwnRow.own {w : World} {base e m : Nat} {v : Value} {l : List (List Value)} (h : OwnRow w base e m v l) {i : Nat} (hi : i < l.length) : ∃ g cap, v = .slice (some ⟨g, 0, none⟩) l.length cap ∧ base ≤ g ∧ l.length ≤ cap := by
  rcases h.1.2 with ⟨rfl, h0⟩ | ⟨g, cap, cur, rfl, h1, h2, h3, h4⟩
  · omega
  · exact ⟨g, cap, rfl, h1, h3⟩
theorem OwnRow.cell {w : World} {base e m g n cap : Nat} {l : List (List Value)} (h : OwnRow w base e m (.slice (some ⟨g, 0, none⟩) n cap) l) {i j : Nat} {x : List Value} {u : Value} (hx : l[i]? = some x) (hu : x[j]? = some u) : w.cell? ⟨g, i * m + j, none⟩ = some u ∧ w.frozen? ⟨g, i * m + j, none⟩ = false := by
  rcases h.1.2 with ⟨e0, h0⟩ | ⟨g', cap', cur, e0, h1, h2, h3, h4, h5, h6⟩
  · cases e0
  · simp only [Value.slice.injEq, Option.some.injEq, Addr.mk.injEq, and_true] at e0
    obtain ⟨rfl, rfl, rfl⟩ := e0
    have hq := flatR_get h.2 hx hu
    have hlt := (List.getElem?_eq_some_iff.1 hq).1
    have hc := h.1.cellAt (i * m + j) (by rw [← h.1.1]; exact hlt)
    refine ⟨hc.trans hq, ?_⟩
    unfold World.frozen?
    rw [h2]
    simp
theorem OwnRow.write {w : World} {base e m g n cap : Nat} {l : List (List Value)} (h : OwnRow w base e m (.slice (some ⟨g, 0, none⟩) n cap) l) {i j : Nat} {x : List Value} (hx : l[i]? = some x) (hj : j < m) (u : Value) : OwnRow (w.setCell ⟨g, i * m + j, none⟩ u) base e m (.slice (some ⟨g, 0, none⟩) n cap) (l.set i (x.set j u)) := by
  have hm := h.2
  have hxm : x.length = m := hm x (List.mem_of_getElem? hx)
  rcases h.1.2 with ⟨e0, h0⟩ | ⟨g', cap', cur, e0, h1, h2, h3, h4, h5, h6⟩
  · cases e0
  · simp only [Value.slice.injEq, Option.some.injEq, Addr.mk.injEq, and_true] at e0
    obtain ⟨rfl, rfl, rfl⟩ := e0
    refine ⟨⟨?_, .inr ⟨g, cap, cur.setIfInBounds (i * m + j) u, by rw [List.length_set], h1, ?_, by rw [List.length_set]; exact h3, h4, by simpa using h5, ?_⟩⟩, fun y hy => ?_⟩
    · rw [flatR_set hm hx hj, List.length_set, List.length_set]; exact h.1.1
    · simp only [World.setCell, Array.getElem?_modify, h2]
      simp
    · rw [flatR_set hm hx hj, ← h6, Array.toList_setIfInBounds, List.length_set, List.take_set]
    · rcases List.mem_or_eq_of_mem_set hy with hy | rfl
      · exact hm y hy
      · rw [List.length_set]; exact hxm
/-- Cells written one behind the other. -/
def setN (w : World) (b : Nat) : Nat → List Value → World
  | _, [] => w
  | o, v :: r => setN (w.setCell ⟨b, o, none⟩ v) b (o + 1) r
def splice (x : List Value) : Nat → List Value → List Value
  | _, [] => x
  | j, v :: r => splice (x.set j v) (j + 1) r
theorem OwnRow.writes {base e m g n cap i : Nat} : ∀ {vs : List Value} {w : World} {l : List (List Value)} {x : List Value} {j : Nat}, OwnRow w base e m (.slice (some ⟨g, 0, none⟩) n cap) l → l[i]? = some x → j + vs.length ≤ m →
    OwnRow (setN w g (i * m + j) vs) base e m (.slice (some ⟨g, 0, none⟩) n cap) (l.set i (splice x j vs))
  | [], w, l, x, j, h, hx, _ => by
    have hi := (List.getElem?_eq_some_iff.1 hx).1
    have e : l.set i x = l := by
      apply List.ext_getElem?
      intro k
      by_cases hk : k = i
      · subst hk; rw [List.getElem?_set_self hi, hx]
      · rw [List.getElem?_set_ne (fun q => hk q.symm)]
    unfold splice setN
    rw [e]; exact h
  | v :: r, w, l, x, j, h, hx, hj => by
    simp only [List.length_cons] at hj
    have h2 := h.write hx (j := j) (by omega) v
    have hi := (List.getElem?_eq_some_iff.1 hx).1
    have h3 := OwnRow.writes (vs := r) (j := j + 1) h2 (x := x.set j v) (by rw [List.getElem?_set_self hi]) (by omega)
    unfold splice setN
    rw [List.set_set] at h3
    exact h3
theorem Below.setN {B : Nat} {w0 : World} {b : Nat} (hb : B ≤ b) : ∀ {vs : List Value} {w : World} {o : Nat}, Below B w0 w → Below B w0 (Go.Proofs.Tryz.setN w b o vs)
  | [], _, _, h => h
  | _ :: r, _, _, h => Below.setN hb (vs := r) (h.setCell hb _)
end Go.Proofs.Tryz

namespace Go.Proofs.Tryz
open Go Go.Am Go.RowKit Go.Op
set_option maxRecDepth 100000

/-- What lay below base stays. -/
def Keeps (base : Nat) (w w' : World) : Prop := ∀ w0 : World, Below w0.heap.size w0 w → w0.heap.size ≤ base → Below w0.heap.size w0 w'
theorem Keeps.refl (base : Nat) (w : World) : Keeps base w w := fun _ h _ => h
theorem castW {P : World → Prop} {w w' : World} (e : w = w') (h : P w') : P w := e ▸ h
theorem swap_sets {α : Type} (a b a' b' : α) (D : List α) : ∀ A : List α, ((A ++ a :: b :: D).set (A.length + 1) a').set A.length b' = A ++ b' :: a' :: D
  | [] => rfl
  | z :: A => by
    simp only [List.cons_append, List.length_cons, List.set_cons_succ]
    exact congrArg _ (swap_sets a b a' b' D A)
theorem swap_list {α : Type} {L : List α} {q : Nat} {x N : α} (hx : L[q]? = some x) : ((L.take (q + 1) ++ N :: L.drop (q + 1)).set (q + 1) x).set q N = L.take q ++ N :: L.drop q := by
  have hq := (List.getElem?_eq_some_iff.1 hx).1
  have e1 := take_snoc hx
  have e2 : L.drop q = x :: L.drop (q + 1) := by
    rw [List.drop_eq_getElem_cons hq, (List.getElem?_eq_some_iff.1 hx).2]
  have e3 : (L.take q).length = q := by rw [List.length_take]; omega
  have := swap_sets x N x N (L.drop (q + 1)) (L.take q)
  rw [e3] at this
  rw [e1, e2, List.append_assoc]
  exact this
theorem mid_get {α : Type} {L : List α} {q : Nat} {N : α} (hq : q ≤ L.length) : (L.take q ++ N :: L.drop q)[q]? = some N := by
  have e3 : (L.take q).length = q := by rw [List.length_take]; omega
  rw [List.getElem?_append_right (by omega), e3, Nat.sub_self]
  rfl
theorem mid_low {α : Type} {L : List α} {q : Nat} {N x : α} (hx : L[q]? = some x) : (L.take (q + 1) ++ N :: L.drop (q + 1))[q]? = some x := by
  have hq := (List.getElem?_eq_some_iff.1 hx).1
  have e3 : (L.take (q + 1)).length = q + 1 := by rw [List.length_take]; omega
  rw [List.getElem?_append_left (by omega), List.getElem?_take, if_pos (by omega), hx]
end Go.Proofs.Tryz

namespace Go.Proofs.Tryz
open Go Go.Am Go.RowKit Go.Op
set_option maxRecDepth 100000

end Go.Proofs.Tryz
