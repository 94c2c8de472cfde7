/- A line of a game checked by the season: by the kit's walk. -/
import Derived.Test.YtbfonnoebbjenaaGreatDoorAxG
import Derived.Test.YtbfonnoebbjenaaGreatDoorAxQ
namespace Go.Proofs.Tryz
open Go Go.Am Go.RowKit Go.Op
set_option maxRecDepth 100000

theorem first2_w (x y : Int) (b : Nat) (W : World) (h0 : W.cell? ⟨b, 0, none⟩ = some (.int .i64 x)) (h1 : W.cell? ⟨b, 1, none⟩ = some (.int .i64 y)) :
    Calls prog 88 #[.slice (some ⟨b, 0, none⟩) 2 2] W fun e w' => e = .returned (.int .i64 (fstE [x, y])) ∧ w' = W :=
  first_w [x, y] b 2 W (by simp) fun j z h => by
    match j, h with
    | 0, h => simp at h; subst h; exact h0
    | 1, h => simp at h; subst h; exact h1
    | j + 2, h => simp at h
theorem index12 (c : Nat → Int) {j : Nat} (h : j < 12) : (#[Value.int .i64 (c 0), .int .i64 (c 1), .int .i64 (c 2), .int .i64 (c 3), .int .i64 (c 4), .int .i64 (c 5), .int .i64 (c 6), .int .i64 (c 7), .int .i64 (c 8), .int .i64 (c 9), .int .i64 (c 10), .int .i64 (c 11)] : Array Value)[j]? = some (.int .i64 (c j)) := by
  rw [← Array.getElem?_toList]
  exact ints_get h
theorem run_idx12 (c : Nat → Int) {j : Nat} (h : j < 12) (w : World) : (Instr.index 54 (.agg #[Value.int .i64 (c 0), .int .i64 (c 1), .int .i64 (c 2), .int .i64 (c 3), .int .i64 (c 4), .int .i64 (c 5), .int .i64 (c 6), .int .i64 (c 7), .int .i64 (c 8), .int .i64 (c 9), .int .i64 (c 10), .int .i64 (c 11)]) (.int .i64 (j : Int))).run prog w = .ok (.int .i64 (c j)) w := by
  have hu : prog.underlying 54 = some (.array 12 3) := by kernel_rfl
  have hi : (0 : Int) ≤ (j : Int) ∧ (j : Int) < 12 := by omega
  have hx := index12 c h
  generalize (#[Value.int .i64 (c 0), .int .i64 (c 1), .int .i64 (c 2), .int .i64 (c 3), .int .i64 (c 4), .int .i64 (c 5), .int .i64 (c 6), .int .i64 (c 7), .int .i64 (c 8), .int .i64 (c 9), .int .i64 (c 10), .int .i64 (c 11)] : Array Value) = xs at hx ⊢
  simp [Instr.index, run_underlying hu, asIntOf, hi, hx, go_sem]
  intro; omega
/-- What the season's line answers. -/
theorem line_split (g : GmD) (x : LnD) : lineE g.t0 g.t1 x = if fstE [nmE x.p, if x.t ≠ g.t0 ∧ x.t ≠ g.t1 then 10 else 0] = 0 then cntE x.c 0 12 else fstE [nmE x.p, if x.t ≠ g.t0 ∧ x.t ≠ g.t1 then 10 else 0] := by
  unfold lineE nmE fstE fstE fstE
  cases isNm x.p with
  | false => simp
  | true =>
    by_cases h : x.t ≠ g.t0 ∧ x.t ≠ g.t1
    · simp [h]
    · simp [h]

set_option maxHeartbeats 6400000 in
theorem line_w (g : GmD) (x : LnD) (lv : Value) (w : World) :
    Calls prog 122 #[g.val lv, x.val] w fun e w' => e = .returned (.int .i64 (lineE g.t0 g.t1 x)) ∧ Below w.heap.size w w' := by
  have hB : Below w.heap.size w (w.alloc (.cells (g.arr lv) 110)) := (Below.refl _ _).alloc (Nat.le_refl _) _
  have hB2 : Below w.heap.size w ((w.alloc (.cells (g.arr lv) 110)).alloc (.cells x.arr 132)) := hB.alloc hB.size _
  have hx := (at_new w (g.arr lv) 110).alloc (.cells x.arr 132)
  have hy : At ((w.alloc (.cells (g.arr lv) 110)).alloc (.cells x.arr 132)) (w.heap.size + 1) x.arr 132 := by
    have := at_new (w.alloc (.cells (g.arr lv) 110)) x.arr 132
    simpa using this
  obtain ⟨W2, hW⟩ : ∃ W2, (w.alloc (.cells (g.arr lv) 110)).alloc (.cells x.arr 132) = W2 := ⟨_, rfl⟩
  rw [hW] at hB2 hx hy
  unfold GmD.arr at hW hx
  unfold LnD.arr at hW
  unfold GmD.val LnD.val
  obtain ⟨R, hR⟩ : ∃ R, lineE g.t0 g.t1 x = R := ⟨_, rfl⟩
  have HS := Lib.hid (line_split g x)
  rw [hR] at HS ⊢
  clear hR hB
  have cN := named_w x.p
  obtain ⟨en, hen⟩ : ∃ en, nmE x.p = en := ⟨_, rfl⟩
  rw [hen] at cN HS
  obtain ⟨⟨-, -, -, x3, x4, -, -, -⟩, -⟩ := box8 hx
  obtain ⟨y0, y1, -⟩ := box14 hy
  have l1 : (bA x.t).toList = x.t := bA_list _
  have l2 : (bA g.t0).toList = g.t0 := bA_list _
  have l3 : (bA g.t1).toList = g.t1 := bA_list _
  go_enter func122, ntmps122
  go_wp2_with fail
  try rw [hW]
  clear hW
  have hdr : Below W2.heap.size W2 W2.drew := (Below.refl _ _).drew
  obtain ⟨e2, he2⟩ : ∃ e2 : Int, (if x.t ≠ g.t0 ∧ x.t ≠ g.t1 then 10 else 0) = e2 := ⟨_, rfl⟩
  rw [he2] at HS
  have HE2 := Lib.hid he2
  clear he2
  go_cut [5] (fun s5 wx => s5 = .int .i64 (fstE [en, e2]) ∧ Below W2.heap.size W2 wx)
  case first =>
    clear HS
    have cF := first2_w en e2
    by_cases h0 : x.t = g.t0
    · have q0 : (x.t == g.t0) = true := by simpa using h0
      obtain rfl : e2 = 0 := by rw [← HE2.out, if_neg (fun h => h.1 h0)]
      clear h0 HE2
      have hpres : ∀ W W' : World, W.cell? ⟨w.heap.size, 3, none⟩ = some (.string (bA g.t0)) ∧ W.cell? ⟨w.heap.size, 4, none⟩ = some (.string (bA g.t1)) ∧ W.cell? ⟨w.heap.size + 1, 0, none⟩ = some (.string (bA x.p)) ∧ W.cell? ⟨w.heap.size + 1, 1, none⟩ = some (.string (bA x.t)) ∧ Below W2.heap.size W2 W → Below W.heap.size W W' → W'.cell? ⟨w.heap.size, 3, none⟩ = some (.string (bA g.t0)) ∧ W'.cell? ⟨w.heap.size, 4, none⟩ = some (.string (bA g.t1)) ∧ W'.cell? ⟨w.heap.size + 1, 0, none⟩ = some (.string (bA x.p)) ∧ W'.cell? ⟨w.heap.size + 1, 1, none⟩ = some (.string (bA x.t)) ∧ Below W2.heap.size W2 W' := fun W W' hW hk => by
        have hbk : Below W2.heap.size W2 W' := hW.2.2.2.2.trans (hk.mono hW.2.2.2.2.size)
        obtain ⟨⟨-, -, -, x3, x4, -, -, -⟩, -⟩ := box8 (hx.below hbk hx.lt)
        obtain ⟨y0, y1, -⟩ := box14 (hy.below hbk hy.lt)
        exact ⟨x3, x4, y0, y1, hbk⟩
      have cWf := when_w false 10
      refine wp_region_quiet_to (C := (fun W => W.cell? ⟨w.heap.size, 3, none⟩ = some (.string (bA g.t0)) ∧ W.cell? ⟨w.heap.size, 4, none⟩ = some (.string (bA g.t1)) ∧ W.cell? ⟨w.heap.size + 1, 0, none⟩ = some (.string (bA x.p)) ∧ W.cell? ⟨w.heap.size + 1, 1, none⟩ = some (.string (bA x.t)) ∧ Below W2.heap.size W2 W)) 18 3 #[true, true, true, true, true, true, true, true, true, true, true, true, true, true, true, true, true, true, false, false, false] (by kernel_rfl) (by kernel_rfl) ?_ ?_
      · (try dsimp only)
        exact ⟨x3, x4, y0, y1, hdr⟩
      simp only [List.take_succ_cons, List.take_zero]
      refine quiet_take (v := ?_) (by rfl) ?_ ?_
      rotate_left
      · (intro w hSw; (try dsimp only at hSw); go_simp); all_goals (with_reducible rfl)
      try simp only [Act.put, List.setIfInBounds_toArray, List.set_cons_zero, List.set_cons_succ]
      refine quiet_take (v := ?_) (by rfl) ?_ ?_
      rotate_left
      · (intro w hSw; (try dsimp only at hSw); go_simp); all_goals (with_reducible rfl)
      try simp only [Act.put, List.setIfInBounds_toArray, List.set_cons_zero, List.set_cons_succ]
      refine quiet_call (f := 117) (args := ?_) (v := .int .i64 en) (by rfl) ?_ ?_ ?_
      rotate_left
      · (intro w hSw; (try dsimp only at hSw); go_simp); all_goals (with_reducible rfl)
      · (intro W hSw); refine (cN W).mono ?_; rintro e W' ⟨rfl, hk⟩; exact ⟨rfl, hpres W W' hSw hk⟩
      try simp only [Act.put, List.setIfInBounds_toArray, List.set_cons_zero, List.set_cons_succ]
      refine quiet_take (v := ?_) (by rfl) ?_ ?_
      rotate_left
      · (intro w hSw; (try dsimp only at hSw); go_simp); all_goals (with_reducible rfl)
      try simp only [Act.put, List.setIfInBounds_toArray, List.set_cons_zero, List.set_cons_succ]
      refine quiet_take (v := ?_) (by rfl) ?_ ?_
      rotate_left
      · (intro w hSw; (try dsimp only at hSw); go_simp); all_goals (with_reducible rfl)
      try simp only [Act.put, List.setIfInBounds_toArray, List.set_cons_zero, List.set_cons_succ]
      refine quiet_take (v := ?_) (by rfl) ?_ ?_
      rotate_left
      · (intro w hSw; (try dsimp only at hSw); go_simp); all_goals (with_reducible rfl)
      try simp only [Act.put, List.setIfInBounds_toArray, List.set_cons_zero, List.set_cons_succ]
      refine quiet_take (v := ?_) (by rfl) ?_ ?_
      rotate_left
      · (intro w hSw; (try dsimp only at hSw); go_simp); all_goals (with_reducible rfl)
      try simp only [Act.put, List.setIfInBounds_toArray, List.set_cons_zero, List.set_cons_succ]
      refine quiet_take (v := ?_) (by rfl) ?_ ?_
      rotate_left
      · (intro w hSw; (try dsimp only at hSw); go_simp); all_goals (with_reducible rfl)
      try simp only [Act.put, List.setIfInBounds_toArray, List.set_cons_zero, List.set_cons_succ]
      refine quiet_take (v := ?_) (by rfl) ?_ ?_
      rotate_left
      · (intro w hSw; (try dsimp only at hSw); go_simp); all_goals (with_reducible rfl)
      try simp only [Act.put, List.setIfInBounds_toArray, List.set_cons_zero, List.set_cons_succ]
      refine quiet_take (v := ?_) (by rfl) ?_ ?_
      rotate_left
      · (intro w hSw; (try dsimp only at hSw); go_simp); all_goals (with_reducible rfl)
      try simp only [Act.put, List.setIfInBounds_toArray, List.set_cons_zero, List.set_cons_succ]
      refine quiet_skip (by rfl) ?_
      try simp only [Act.put, List.setIfInBounds_toArray, List.set_cons_zero, List.set_cons_succ]
      refine quiet_skip (by rfl) ?_
      try simp only [Act.put, List.setIfInBounds_toArray, List.set_cons_zero, List.set_cons_succ]
      refine quiet_skip (by rfl) ?_
      try simp only [Act.put, List.setIfInBounds_toArray, List.set_cons_zero, List.set_cons_succ]
      refine quiet_skip (by rfl) ?_
      try simp only [Act.put, List.setIfInBounds_toArray, List.set_cons_zero, List.set_cons_succ]
      refine quiet_skip (by rfl) ?_
      try simp only [Act.put, List.setIfInBounds_toArray, List.set_cons_zero, List.set_cons_succ]
      refine quiet_skip (by rfl) ?_
      try simp only [Act.put, List.setIfInBounds_toArray, List.set_cons_zero, List.set_cons_succ]
      refine quiet_take (v := ?_) (by rfl) ?_ ?_
      rotate_left
      · (intro w hSw; (try dsimp only at hSw); go_simp); all_goals (with_reducible rfl)
      try simp only [Act.put, List.setIfInBounds_toArray, List.set_cons_zero, List.set_cons_succ]
      refine quiet_call (f := 113) (args := ?_) (v := .int .i64 0) (by rfl) ?_ ?_ ?_
      rotate_left
      · (intro w hSw; (try dsimp only at hSw); go_simp); all_goals (with_reducible rfl)
      · (intro W hSw); refine (cWf W).mono ?_; rintro e W' ⟨rfl, rfl⟩; exact ⟨rfl, hSw⟩
      try simp only [Act.put, List.setIfInBounds_toArray, List.set_cons_zero, List.set_cons_succ]
      refine wpQuiet_nil ?_
      intro W hSw
      refine wpAny_of_held (S := fun _ => True) _ _ _ _ ?_
      refine wpAnyH_ready (rs := [18]) (by kernel_rfl) (by simp) ?_
      refine AllReadyH.cons (o := _) rfl (fun K hK => ?_) ?_
      · -- buildSlice
        go_simp
        refine hK.out _ _ trivial (fun _ => ?_)
        clear hK K
        try simp only [List.setIfInBounds_toArray, List.set_cons_zero, List.set_cons_succ]
        refine wpAnyH_ready (rs := [19]) (by kernel_rfl) (by simp) ?_
        refine AllReadyH.cons (o := _) rfl (fun K hK => ?_) ?_
        · -- 88
          go_simp
          refine Calls.mono (cF _ _ (by simp) (by simp)) ?_; rintro e w' ⟨rfl, rfl⟩
          refine hK.out _ _ trivial (fun _ => ?_)
          clear hK K
          try simp only [List.setIfInBounds_toArray, List.set_cons_zero, List.set_cons_succ]
          refine wpAnyH_ready (rs := [20]) (by kernel_rfl) (by simp) ?_
          refine AllReadyH.cons (o := _) rfl (fun K hK => ?_) ?_
          · -- assign
            go_simp
            refine hK.out _ _ trivial (fun _ => ?_)
            clear hK K
            try simp only [List.setIfInBounds_toArray, List.set_cons_zero, List.set_cons_succ]
            refine wpAnyH_done (by kernel_rfl) ?_ _
            go_wp2_with fail
            go_meet
            exact ⟨rfl, hSw.2.2.2.2.alloc hSw.2.2.2.2.size _⟩
          exact AllReadyH.nil
        exact AllReadyH.nil
      exact AllReadyH.nil
    · have q0 : (x.t == g.t0) = false := by simpa using h0
      by_cases h1 : x.t = g.t1
      · have q1 : (x.t == g.t1) = true := by simpa using h1
        obtain rfl : e2 = 0 := by rw [← HE2.out, if_neg (fun h => h.2 h1)]
        clear h0 h1 HE2
        go_region_held3 (fun W => W.cell? ⟨w.heap.size, 3, none⟩ = some (.string (bA g.t0)) ∧ W.cell? ⟨w.heap.size, 4, none⟩ = some (.string (bA g.t1)) ∧ W.cell? ⟨w.heap.size + 1, 0, none⟩ = some (.string (bA x.p)) ∧ W.cell? ⟨w.heap.size + 1, 1, none⟩ = some (.string (bA x.t)) ∧ Below W2.heap.size W2 W)
          (go_keep)
          (first
            | (go_at_call 117; refine Calls.mono (cN _) ?_; rintro e W ⟨rfl, hkk⟩; have hbk := Below.trans (B := W2.heap.size) (a := W2) (by assumption) (Below.mono hkk (Below.size (B := W2.heap.size) (w := W2) (by assumption))); have hbs : ∀ o, Below W2.heap.size W2 (W.alloc o) := (fun o => hbk.alloc hbk.size o); obtain ⟨⟨-, -, -, x3, x4, -, -, -⟩, -⟩ := box8 (hx.below hbk hx.lt); obtain ⟨y0, y1, -⟩ := box14 (hy.below hbk hy.lt))
            | (go_at_call 113; refine Calls.mono (when_w _ _ _) ?_; rintro e w' ⟨rfl, rfl⟩)
            | (go_at_call 88; refine Calls.mono (cF _ _ (by simp) (by simp)) ?_; rintro e w' ⟨rfl, rfl⟩))
        all_goals (go_wp2_with fail; go_meet; exact ⟨rfl, hbs _⟩)
      · have q1 : (x.t == g.t1) = false := by simpa using h1
        obtain rfl : e2 = 10 := by rw [← HE2.out, if_pos ⟨h0, h1⟩]
        clear h0 h1 HE2
        go_region_held3 (fun W => W.cell? ⟨w.heap.size, 3, none⟩ = some (.string (bA g.t0)) ∧ W.cell? ⟨w.heap.size, 4, none⟩ = some (.string (bA g.t1)) ∧ W.cell? ⟨w.heap.size + 1, 0, none⟩ = some (.string (bA x.p)) ∧ W.cell? ⟨w.heap.size + 1, 1, none⟩ = some (.string (bA x.t)) ∧ Below W2.heap.size W2 W)
          (go_keep)
          (first
            | (go_at_call 117; refine Calls.mono (cN _) ?_; rintro e W ⟨rfl, hkk⟩; have hbk := Below.trans (B := W2.heap.size) (a := W2) (by assumption) (Below.mono hkk (Below.size (B := W2.heap.size) (w := W2) (by assumption))); have hbs : ∀ o, Below W2.heap.size W2 (W.alloc o) := (fun o => hbk.alloc hbk.size o); obtain ⟨⟨-, -, -, x3, x4, -, -, -⟩, -⟩ := box8 (hx.below hbk hx.lt); obtain ⟨y0, y1, -⟩ := box14 (hy.below hbk hy.lt))
            | (go_at_call 113; refine Calls.mono (when_w _ _ _) ?_; rintro e w' ⟨rfl, rfl⟩)
            | (go_at_call 88; refine Calls.mono (cF _ _ (by simp) (by simp)) ?_; rintro e w' ⟨rfl, rfl⟩))
        all_goals (go_wp2_with fail; go_meet; exact ⟨rfl, hbs _⟩)
  case rest =>
    obtain ⟨rfl, hbA⟩ := hcut
    have hy2 := hy.below hbA hy.lt
    have hB3 : Below w.heap.size w wc := hB2.trans (hbA.mono hB2.size)
    clear hbA hy hx x3 x4 y0 y1 hdr hB2 cN l1 l2 l3 HE2
    obtain ⟨v1, hv1⟩ : ∃ v1, fstE [en, e2] = v1 := ⟨_, rfl⟩
    rw [hv1] at HS ⊢
    clear hv1
    by_cases h0 : v1 = 0
    · subst h0
      have HS2 := Lib.hid (HS.out.trans (if_pos rfl))
      clear HS
      obtain ⟨-, -, q0, q1, q2, q3, q4, q5, q6, q7, q8, q9, q10, q11⟩ := box14 hy2
      have HE : Hid (cntE x.c 0 12 = cntE x.c 0 (12 - 0)) := Lib.hid rfl
      go_wp2_with fail
      go_loopw [34] (fun s wr => ∃ j : Nat, j ≤ 12 ∧ s = .int .i64 j ∧ Hid (cntE x.c 0 12 = cntE x.c j (12 - j)) ∧ wr = wc) (fun s _ => 12 - (numOf' s).toNat)
      case atStart => exact ⟨0, Nat.zero_le _, rfl, Lib.hid rfl, rfl⟩
      case round =>
        try clear HE
        obtain ⟨j, hj, rfl, hE, rfl⟩ := hrel
        by_cases hj12 : j < 12
        · have cj := run_idx12 x.c hj12
          have hs := cnt_step x.c hj12
          have hjj : (j : Int) < 12 := by omega
          have cW := within_w (x.c j) 0 999
          rcases inE_cases (x.c j) 0 999 with h | h
          · rw [h] at cW hs
            have hE2 : Hid (cntE x.c 0 12 = cntE x.c (j + 1) (12 - (j + 1))) := Lib.hid (by rw [hE.out, hs, if_pos rfl])
            clear hE hs h
            go_wp2_with fail
            refine (cW _).mono ?_
            rintro e w' ⟨rfl, rfl⟩
            go_wp2_with fail
            go_roundw
            case rel => exact ⟨j + 1, by omega, by go_num, hE2, by first | trivial | rfl⟩
            case measure => simp [numOf'] <;> omega
          · rw [h] at cW hs
            have hE2 : Hid (R = 3) := Lib.hid (by rw [HS2.out, hE.out, hs, if_neg (by decide)])
            clear hE hs h
            go_wp2_with fail
            refine (cW _).mono ?_
            rintro e w' ⟨rfl, rfl⟩
            go_wp2_with fail
            go_ret
            exact ⟨by rw [hE2.out]; try rfl, hB3⟩
        · obtain rfl : j = 12 := by omega
          have hE2 : Hid (R = 0) := Lib.hid (by rw [HS2.out, hE.out, Nat.sub_self, cntE])
          clear hE
          go_wp2_with fail
          go_ret
          exact ⟨by rw [hE2.out]; try rfl, hB3⟩
    · have HS2 := Lib.hid (HS.out.trans (if_neg h0))
      have h0' : (v1 != 0) = true := by simpa using h0
      clear HS
      go_wp2_with fail
      go_ret
      exact ⟨by rw [HS2.out]; try rfl, hB3⟩
end Go.Proofs.Tryz
