/- A book checked by the season: by the kit's walk. -/
import Derived.Test.YtbfonnoebbjenaaGreatDoorAxJ
import Derived.Maps.Own
import Derived.Maps.Views
import Derived.Maps.RangeWalk
namespace Go.Proofs.Tryz
open Go Go.Am Go.RowKit Go.Op Go.Maps Go.WideMaps
set_option maxRecDepth 100000

/-! ### the map of the names that were seen -/
def seenD (g : Nat → GmD) : Nat → DataW Unit
  | 0 => .map []
  | i + 1 => (seenD g i).put (.string (g i).nm) (.lit (.bool true))
theorem seenD_map (g : Nat → GmD) : ∀ i, IsMap (seenD g i)
  | 0 => isMap_empty
  | i + 1 => (seenD_map g i).put _ _
theorem seenD_at (g : Nat → GmD) (nm : List UInt8) : ∀ i, (seenD g i).atKey (.string nm) (.lit (.bool false)) = .lit (.bool (seenB g nm i))
  | 0 => rfl
  | i + 1 => by
    rw [seenD, seenB]
    by_cases h : (g i).nm = nm
    · subst h
      rw [atKey_put_same (seenD_map g i) (by first | exact trivial | simp [WideAt.IsKeyLit])]
      simp
    · rw [atKey_put_other (by intro e; apply h; injection e with e; exact e.symm), seenD_at g nm i]
      have : ((g i).nm == nm) = false := by simpa using h
      rw [this, Bool.or_false]
theorem seen_look {g : Nat → GmD} {i mb k : Nat} {W : World} (h : W.ownsMap prog 9 (plainElem (H := Unit) prog 4) mb k (seenD g i)) {nm : List UInt8} (hn : nm.length ≤ maxLen) :
    (Instr.lookup 187 (.map (some mb)) (.string (bA nm)) false).run prog W = .ok (.bool (seenB g nm i)) W := by
  have hkey : keyOf prog 9 (.string (bA nm)) = some (.string nm) := by
    rw [keyOf_string_mk (by kernel_rfl) (by rw [bA_size]; exact hn)]; rfl
  obtain ⟨v, ps, hrun, hv⟩ := h.lookup (t := 187) (e := 4) (string_keyed (by kernel_rfl)) (by kernel_rfl) (z := .bool false) (by kernel_rfl) (plainElem_bool (by kernel_rfl) false) hkey
  rw [seenD_at] at hv
  rw [hrun]
  have hb : prog.underlying 4 = some .bool := by kernel_rfl
  unfold plainElem at hv
  rw [hb] at hv
  cases v <;> simp at hv
  rw [hv.1]
theorem first3_w (e0 e1 e2 : Int) (b : Nat) (W : World) (h0 : W.cell? ⟨b, 0, none⟩ = some (.int .i64 e0)) (h1 : W.cell? ⟨b, 1, none⟩ = some (.int .i64 e1)) (h2 : W.cell? ⟨b, 2, none⟩ = some (.int .i64 e2)) :
    Calls prog 88 #[.slice (some ⟨b, 0, none⟩) 3 3] W fun e w' => e = .returned (.int .i64 (fstE [e0, e1, e2])) ∧ w' = W :=
  first_w [e0, e1, e2] b 3 W (by simp) fun j z h => by
    match j, h with
    | 0, h => simp at h; subst h; exact h0
    | 1, h => simp at h; subst h; exact h1
    | 2, h => simp at h; subst h; exact h2
    | j + 3, h => simp at h
theorem bookK_step (g : Nat → GmD) (i k : Nat) : bookK g i (k + 1) = if fstE [gmE (g i), if seenB g (g i).nm i = true then 9 else 0, if (decide (0 < i) && !befB (g (i - 1)) (g i)) = true then 11 else 0] = 0 then bookK g (i + 1) k else fstE [gmE (g i), if seenB g (g i).nm i = true then 9 else 0, if (decide (0 < i) && !befB (g (i - 1)) (g i)) = true then 11 else 0] := by
  rw [bookK]
  unfold fstE fstE fstE fstE
  by_cases h : gmE (g i) = 0
  · cases h2 : seenB g (g i).nm i
    · by_cases h3 : 0 < i
      · cases h4 : befB (g (i - 1)) (g i) <;> simp [h, h3]
      · simp [h, h3]
    · simp [h]
  · simp [h]

set_option maxHeartbeats 6400000 in
theorem book_w {g : Nat → GmD} {n : Nat} {v : Value} {w : World} (h : IsGames w v g n) (hn : n ≤ 1000) (hk : ∀ i, i < n → (g i).k ≤ 1000 ∧ (g i).nm.length ≤ 1000) :
    Calls prog 54 #[.agg #[v]] w fun e w' => e = .returned (.int .i64 (bookE g n)) ∧ Below w.heap.size w w' := by
  have h0 := h
  obtain ⟨lv, hr, -⟩ := h0
  obtain ⟨ad, c, rfl, hnc⟩ := hr.slice
  clear hr
  have hB : Below w.heap.size w (w.alloc (.cells #[.slice ad n c] 31)) := (Below.refl _ _).alloc (Nat.le_refl _) _
  have hB2 : Below w.heap.size w ((w.alloc (.cells #[.slice ad n c] 31)).alloc (.map #[] 0)) := hB.alloc hB.size _
  have hx := (at_new w #[.slice ad n c] 31).alloc (.map #[] 0)
  have hm : ((w.alloc (.cells #[.slice ad n c] 31)).alloc (.map #[] 0)).ownsMap prog 9 (plainElem (H := Unit) prog 4) (w.heap.size + 1) 0 (seenD g 0) := by
    have := World.ownsMap_made (H := Unit) (w.alloc (.cells #[.slice ad n c] 31)) prog 9 (plainElem prog 4)
    simpa [seenD] using this
  have hmm := @run_makeMap prog
  obtain ⟨R, hR⟩ : ∃ R, bookE g n = R := ⟨_, rfl⟩
  rw [hR]
  have HR : Hid (R = if 64 < n then 5 else bookK g 0 n) := Lib.hid (by rw [← hR]; rfl)
  clear hR
  by_cases h64 : 64 < n
  · have hE2 : Hid (R = 5) := Lib.hid (HR.out.trans (if_pos h64))
    have h64' : (64 : Int) < (n : Int) := by omega
    clear HR hB2 hx hm
    go_enter func54, ntmps54
    go_wp2
    go_ret
    exact ⟨by rw [hE2.out]; try rfl, hB⟩
  · have h64' : (n : Int) ≤ 64 := by omega
    have HS : Hid (R = bookK g 0 (n - 0)) := Lib.hid (HR.out.trans (if_neg h64))
    clear HR hB
    go_enter func54, ntmps54
    go_wp2_with fail
    go_loopw [15] (fun s wr => ∃ i : Nat, i ≤ n ∧ s = .int .i64 i ∧ Hid (R = bookK g i (n - i)) ∧ At wr w.heap.size #[.slice ad n c] 31 ∧ wr.ownsMap prog 9 (plainElem (H := Unit) prog 4) (w.heap.size + 1) i (seenD g i) ∧ Below w.heap.size w wr) (fun s _ => n - (numOf' s).toNat)
    case atStart => exact ⟨0, Nat.zero_le _, rfl, HS, hx, hm, hB2⟩
    case round =>
      try clear HS
      clear hx hm hB2
      obtain ⟨i, hi, rfl, hE, hx, hm, hb⟩ := hrel
      have hx0 : wr.cell? ⟨w.heap.size, 0, none⟩ = some (.slice ad n c) := by unfold At at hx; simp only [World.cell?, hx]; rfl
      by_cases hin : i < n
      · obtain ⟨b, off, c1, a1, kc, e, -, hli, p0, p1, p2, p3, p4, p5, p6, p7⟩ := (h.below hb).at hin
        simp only [Value.slice.injEq, true_and] at e
        obtain ⟨rfl, rfl⟩ := e
        have hii : (i : Int) < (n : Int) := by omega
        have hbn : Below wr.heap.size wr (wr.alloc (.cells ((g i).arr (.slice a1 (g i).k kc)) 110)) := (Below.refl _ _).alloc (Nat.le_refl _) _
        have hy := at_new wr ((g i).arr (.slice a1 (g i).k kc)) 110
        have hlt := hx.lt
        have hmlt := hm.lt
        obtain ⟨W5, hW5⟩ : ∃ W5, wr.alloc (.cells ((g i).arr (.slice a1 (g i).k kc)) 110) = W5 := ⟨_, rfl⟩
        have hm5 : W5.ownsMap prog 9 (plainElem (H := Unit) prog 4) (w.heap.size + 1) i (seenD g i) := by rw [← hW5]; exact hm.alloc _
        rw [hW5] at hbn hy
        have hx5 : At W5 w.heap.size #[.slice (some ⟨b, off, none⟩) n c] 31 := hx.below hbn hx.lt
        have hb5 : Below w.heap.size w W5 := hb.trans (hbn.mono hb.size)
        have hl5 := hli.below hbn
        unfold GmD.arr at hW5 hy
        have hs := hE.out
        rw [show n - i = (n - (i + 1)) + 1 by omega, bookK_step] at hs
        have HE2 := Lib.hid hs
        clear hE hs
        go_wp2_with fail
        try rw [hW5]
        clear hW5 p0 p1 p2 p3 p4 p5 p6 p7 hx hm hx0 hli
        have hx0 : W5.cell? ⟨w.heap.size, 0, none⟩ = some (.slice (some ⟨b, off, none⟩) n c) := by unfold At at hx5; simp only [World.cell?, hx5]; rfl
        obtain ⟨⟨y0, y1, y2, y3, y4, y5, y6, y7⟩, -⟩ := box8 hy
        have hdr : Below W5.heap.size W5 W5.drew := (Below.refl _ _).drew
        have cG : ∀ W, Below W5.heap.size W5 W → Calls prog 55 #[.agg #[.string (bA (g i).nm), .int .i64 (g i).ver, .int .i64 (g i).day, .string (bA (g i).t0), .string (bA (g i).t1), .int .i64 (g i).s0, .int .i64 (g i).s1, .slice a1 (g i).k kc]] W fun e w' => e = .returned (.int .i64 (gmE (g i))) ∧ Below W.heap.size W w' :=
          fun W hW => game_w (hl5.below hW) (Nat.le_trans (hk i hin).1 (by decide))
        have hlook : ∀ W, Below W5.heap.size W5 W → (Instr.lookup 187 (.map (some (w.heap.size + 1))) (.string (bA (g i).nm)) false).run prog W = .ok (.bool (seenB g (g i).nm i)) W :=
          fun W hW => seen_look (hm5.kept (row := none) ⟨hW.os, hW.tape, hW.output, hW.size, fun k hk _ => hW.block k hk⟩ (by simp)) (Nat.le_trans (hk i hin).2 (by decide))
        obtain ⟨E, hEq⟩ : ∃ E, gmE (g i) = E := ⟨_, rfl⟩
        obtain ⟨sn, hsn⟩ : ∃ b, seenB g (g i).nm i = b := ⟨_, rfl⟩
        obtain ⟨late, hlate⟩ : ∃ b, (decide (0 < i) && !befB (g (i - 1)) (g i)) = b := ⟨_, rfl⟩
        rw [hEq] at cG HE2
        rw [hsn] at hlook HE2
        rw [hlate] at HE2
        have cSn := when_w sn 9
        have cLt := when_w late 11
        obtain ⟨s9, hs9⟩ : ∃ x : Int, (if sn = true then 9 else 0) = x := ⟨_, rfl⟩
        obtain ⟨s11, hs11⟩ : ∃ x : Int, (if late = true then 11 else 0) = x := ⟨_, rfl⟩
        rw [hs9] at cSn HE2
        rw [hs11] at cLt HE2
        clear hEq hsn hs9 hs11
        have cF := first3_w E s9 s11
        go_cut [6] (fun s6 wx => s6 = .int .i64 (fstE [E, s9, s11]) ∧ Below W5.heap.size W5 wx)
        case first =>
          clear HE2
          rcases Nat.eq_zero_or_pos i with hi0 | hi0
          · obtain rfl : false = late := by rw [← hlate, decide_eq_false (by omega : ¬ 0 < i), Bool.false_and]
            have i1 : ¬ (0 : Int) < (i : Int) := by omega
            clear hi0 hlate
            have hpres : Hid (∀ W W' : World, ((W.cell? ⟨wr.heap.size, 0, none⟩ = some (.string (bA (g i).nm)) ∧ W.cell? ⟨wr.heap.size, 1, none⟩ = some (.int .i64 (g i).ver) ∧ W.cell? ⟨wr.heap.size, 2, none⟩ = some (.int .i64 (g i).day) ∧ W.cell? ⟨wr.heap.size, 3, none⟩ = some (.string (bA (g i).t0)) ∧ W.cell? ⟨wr.heap.size, 4, none⟩ = some (.string (bA (g i).t1)) ∧ W.cell? ⟨wr.heap.size, 5, none⟩ = some (.int .i64 (g i).s0) ∧ W.cell? ⟨wr.heap.size, 6, none⟩ = some (.int .i64 (g i).s1) ∧ W.cell? ⟨wr.heap.size, 7, none⟩ = some (.slice a1 (g i).k kc)) ∧ Below W5.heap.size W5 W) → Below W.heap.size W W' → ((W'.cell? ⟨wr.heap.size, 0, none⟩ = some (.string (bA (g i).nm)) ∧ W'.cell? ⟨wr.heap.size, 1, none⟩ = some (.int .i64 (g i).ver) ∧ W'.cell? ⟨wr.heap.size, 2, none⟩ = some (.int .i64 (g i).day) ∧ W'.cell? ⟨wr.heap.size, 3, none⟩ = some (.string (bA (g i).t0)) ∧ W'.cell? ⟨wr.heap.size, 4, none⟩ = some (.string (bA (g i).t1)) ∧ W'.cell? ⟨wr.heap.size, 5, none⟩ = some (.int .i64 (g i).s0) ∧ W'.cell? ⟨wr.heap.size, 6, none⟩ = some (.int .i64 (g i).s1) ∧ W'.cell? ⟨wr.heap.size, 7, none⟩ = some (.slice a1 (g i).k kc)) ∧ Below W5.heap.size W5 W')) := Lib.hid fun W W' hW hk => by
              have hbk : Below W5.heap.size W5 W' := hW.2.trans (hk.mono hW.2.size)
              obtain ⟨⟨y0, y1, y2, y3, y4, y5, y6, y7⟩, -⟩ := box8 (hy.below hbk hy.lt)
              exact ⟨⟨y0, y1, y2, y3, y4, y5, y6, y7⟩, hbk⟩
            refine wp_region_quiet_to (C := (fun W => ((W.cell? ⟨wr.heap.size, 0, none⟩ = some (.string (bA (g i).nm)) ∧ W.cell? ⟨wr.heap.size, 1, none⟩ = some (.int .i64 (g i).ver) ∧ W.cell? ⟨wr.heap.size, 2, none⟩ = some (.int .i64 (g i).day) ∧ W.cell? ⟨wr.heap.size, 3, none⟩ = some (.string (bA (g i).t0)) ∧ W.cell? ⟨wr.heap.size, 4, none⟩ = some (.string (bA (g i).t1)) ∧ W.cell? ⟨wr.heap.size, 5, none⟩ = some (.int .i64 (g i).s0) ∧ W.cell? ⟨wr.heap.size, 6, none⟩ = some (.int .i64 (g i).s1) ∧ W.cell? ⟨wr.heap.size, 7, none⟩ = some (.slice a1 (g i).k kc)) ∧ Below W5.heap.size W5 W))) 22 3 #[true, true, true, true, true, true, true, true, true, true, true, true, true, true, true, true, true, true, true, true, true, true, false, false, false] (by kernel_rfl) (by kernel_rfl) ?_ ?_
            · (try dsimp only)
              exact ⟨⟨y0, y1, y2, y3, y4, y5, y6, y7⟩, hdr⟩
            simp only [List.take_succ_cons, List.take_zero]
            with_reducible refine quiet_take (v := ?_) ?_ ?_ ?_
            rotate_left
            · rfl
            · (intro w hSw; (try dsimp only at hSw); go_simp); all_goals (with_reducible rfl)
            try simp only [Act.put, List.setIfInBounds_toArray, List.set_cons_zero, List.set_cons_succ]
            with_reducible refine quiet_call (f := 55) (args := ?_) (v := .int .i64 E) ?_ ?_ ?_ ?_
            rotate_left
            · rfl
            · (intro w hSw; (try dsimp only at hSw); go_simp); all_goals (with_reducible rfl)
            · (intro W hSw); refine (cG W hSw.2).mono ?_; rintro e W' ⟨rfl, hk⟩; exact ⟨rfl, hpres.out W W' hSw hk⟩
            try simp only [Act.put, List.setIfInBounds_toArray, List.set_cons_zero, List.set_cons_succ]
            with_reducible refine quiet_take (v := ?_) ?_ ?_ ?_
            rotate_left
            · rfl
            · (intro w hSw; (try dsimp only at hSw); go_simp); all_goals (with_reducible rfl)
            try simp only [Act.put, List.setIfInBounds_toArray, List.set_cons_zero, List.set_cons_succ]
            with_reducible refine quiet_take (v := ?_) ?_ ?_ ?_
            rotate_left
            · rfl
            · (intro w hSw; (try dsimp only at hSw); go_simp); all_goals (with_reducible rfl)
            try simp only [Act.put, List.setIfInBounds_toArray, List.set_cons_zero, List.set_cons_succ]
            with_reducible refine quiet_take (v := ?_) ?_ ?_ ?_
            rotate_left
            · rfl
            · (intro w hSw; (try dsimp only at hSw); go_simp); all_goals (with_reducible rfl)
            try simp only [Act.put, List.setIfInBounds_toArray, List.set_cons_zero, List.set_cons_succ]
            with_reducible refine quiet_take (v := ?_) ?_ ?_ ?_
            rotate_left
            · rfl
            · (intro w hSw; have hlk := hlook w hSw.2; (try dsimp only at hSw); go_simp); all_goals (with_reducible rfl)
            try simp only [Act.put, List.setIfInBounds_toArray, List.set_cons_zero, List.set_cons_succ]
            with_reducible refine quiet_call (f := 113) (args := ?_) (v := .int .i64 s9) ?_ ?_ ?_ ?_
            rotate_left
            · rfl
            · (intro w hSw; (try dsimp only at hSw); go_simp); all_goals (with_reducible rfl)
            · (intro W hSw); refine (cSn W).mono ?_; rintro e W' ⟨rfl, rfl⟩; exact ⟨rfl, hSw⟩
            try simp only [Act.put, List.setIfInBounds_toArray, List.set_cons_zero, List.set_cons_succ]
            with_reducible refine quiet_take (v := ?_) ?_ ?_ ?_
            rotate_left
            · rfl
            · (intro w hSw; (try dsimp only at hSw); go_simp); all_goals (with_reducible rfl)
            try simp only [Act.put, List.setIfInBounds_toArray, List.set_cons_zero, List.set_cons_succ]
            with_reducible refine quiet_take (v := .bool false) ?_ ?_ ?_
            · rfl
            · (intro w hSw; go_simp; first | done | omega | (simp; omega))
            try simp only [Act.put, List.setIfInBounds_toArray, List.set_cons_zero, List.set_cons_succ]
            with_reducible refine quiet_take (v := ?_) ?_ ?_ ?_
            rotate_left
            · rfl
            · (intro w hSw; (try dsimp only at hSw); go_simp); all_goals (with_reducible rfl)
            try simp only [Act.put, List.setIfInBounds_toArray, List.set_cons_zero, List.set_cons_succ]
            with_reducible refine quiet_skip ?_ ?_
            · rfl
            try simp only [Act.put, List.setIfInBounds_toArray, List.set_cons_zero, List.set_cons_succ]
            with_reducible refine quiet_skip ?_ ?_
            · rfl
            try simp only [Act.put, List.setIfInBounds_toArray, List.set_cons_zero, List.set_cons_succ]
            with_reducible refine quiet_skip ?_ ?_
            · rfl
            try simp only [Act.put, List.setIfInBounds_toArray, List.set_cons_zero, List.set_cons_succ]
            with_reducible refine quiet_skip ?_ ?_
            · rfl
            try simp only [Act.put, List.setIfInBounds_toArray, List.set_cons_zero, List.set_cons_succ]
            with_reducible refine quiet_skip ?_ ?_
            · rfl
            try simp only [Act.put, List.setIfInBounds_toArray, List.set_cons_zero, List.set_cons_succ]
            with_reducible refine quiet_skip ?_ ?_
            · rfl
            try simp only [Act.put, List.setIfInBounds_toArray, List.set_cons_zero, List.set_cons_succ]
            with_reducible refine quiet_skip ?_ ?_
            · rfl
            try simp only [Act.put, List.setIfInBounds_toArray, List.set_cons_zero, List.set_cons_succ]
            with_reducible refine quiet_skip ?_ ?_
            · rfl
            try simp only [Act.put, List.setIfInBounds_toArray, List.set_cons_zero, List.set_cons_succ]
            with_reducible refine quiet_skip ?_ ?_
            · rfl
            try simp only [Act.put, List.setIfInBounds_toArray, List.set_cons_zero, List.set_cons_succ]
            with_reducible refine quiet_skip ?_ ?_
            · rfl
            try simp only [Act.put, List.setIfInBounds_toArray, List.set_cons_zero, List.set_cons_succ]
            with_reducible refine quiet_take (v := ?_) ?_ ?_ ?_
            rotate_left
            · rfl
            · (intro w hSw; (try dsimp only at hSw); go_simp); all_goals (with_reducible rfl)
            try simp only [Act.put, List.setIfInBounds_toArray, List.set_cons_zero, List.set_cons_succ]
            with_reducible refine quiet_call (f := 113) (args := ?_) (v := .int .i64 s11) ?_ ?_ ?_ ?_
            rotate_left
            · rfl
            · (intro w hSw; (try dsimp only at hSw); go_simp); all_goals (with_reducible rfl)
            · (intro W hSw); refine (cLt W).mono ?_; rintro e W' ⟨rfl, rfl⟩; exact ⟨rfl, hSw⟩
            try simp only [Act.put, List.setIfInBounds_toArray, List.set_cons_zero, List.set_cons_succ]
            refine wpQuiet_nil ?_
            intro W hSw
            refine wpAny_of_held (S := fun _ => True) _ _ _ _ ?_
            refine wpAnyH_ready (rs := [22]) (by kernel_rfl) (by simp) ?_
            refine AllReadyH.cons (o := _) rfl (fun K hK => ?_) ?_
            · -- buildSlice
              go_simp
              refine hK.out _ _ trivial (fun _ => ?_)
              clear hK K
              try simp only [List.setIfInBounds_toArray, List.set_cons_zero, List.set_cons_succ]
              refine wpAnyH_ready (rs := [23]) (by kernel_rfl) (by simp) ?_
              refine AllReadyH.cons (o := _) rfl (fun K hK => ?_) ?_
              · -- 88
                go_simp
                refine Calls.mono (cF _ _ (by simp) (by simp) (by simp)) ?_; rintro e w' ⟨rfl, rfl⟩
                refine hK.out _ _ trivial (fun _ => ?_)
                clear hK K
                try simp only [List.setIfInBounds_toArray, List.set_cons_zero, List.set_cons_succ]
                refine wpAnyH_ready (rs := [24]) (by kernel_rfl) (by simp) ?_
                refine AllReadyH.cons (o := _) rfl (fun K hK => ?_) ?_
                · -- assign
                  go_simp
                  refine hK.out _ _ trivial (fun _ => ?_)
                  clear hK K
                  try simp only [List.setIfInBounds_toArray, List.set_cons_zero, List.set_cons_succ]
                  refine wpAnyH_done (by kernel_rfl) ?_ _
                  go_wp2_with fail
                  go_meet
                  exact ⟨rfl, hSw.2.alloc hSw.2.size _⟩
                exact AllReadyH.nil
              exact AllReadyH.nil
            exact AllReadyH.nil
          · obtain ⟨j, rfl⟩ : ∃ j, i = j + 1 := ⟨i - 1, by omega⟩
            have i1 : (0:Int) < ((j + 1 : Nat) : Int) := by omega
            have i2 : ((j + 1 : Nat) : Int) - 1 = (j : Int) := by omega
            have i3 : (j : Int) < (n : Int) := by omega
            have i4 : IntKind.i64.wrap (j : Int) = (j : Int) := IntWalk.i64_in _ (by omega)
            have i5 : IntKind.i64.wrap ((j : Int) + 1 - 1) = (j : Int) := by rw [IntWalk.i64_in _ (by omega)]; omega
            have i7 : max (0 : Int) (j : Int) = (j : Int) := by omega
            have i8 : (0 : Int) ≤ (j : Int) := by omega
            have hgr := (h.below hb5)
            obtain ⟨b', off', c', a2, kc2, e', -, hl2, q0, q1, q2, q3, q4, q5, q6, q7⟩ := hgr.at (show j < n by omega)
            simp only [Value.slice.injEq, true_and, Option.some.injEq, Addr.mk.injEq, and_true] at e'
            obtain ⟨⟨rfl, rfl⟩, rfl⟩ := e'
            have cC := compare_w (g j) (g (j + 1)) a2 a1 (g j).k kc2 (g (j + 1)).k kc
            unfold GmD.val at cC
            obtain ⟨cx, hcx⟩ : ∃ cx, cmpG (g j) (g (j + 1)) = cx := ⟨_, rfl⟩
            have hlt2 : decide (0 ≤ cx) = late := by
              rw [← hcx, cmpG_ge, ← hlate, decide_eq_true (by omega : 0 < j + 1), Bool.true_and]; rfl
            rw [hcx] at cC
            have hpres : Hid (∀ W W' : World, (W.cell? ⟨w.heap.size, 0, none⟩ = some (.slice (some ⟨b, off, none⟩) n c) ∧ (W.cell? ⟨wr.heap.size, 0, none⟩ = some (.string (bA (g (j + 1)).nm)) ∧ W.cell? ⟨wr.heap.size, 1, none⟩ = some (.int .i64 (g (j + 1)).ver) ∧ W.cell? ⟨wr.heap.size, 2, none⟩ = some (.int .i64 (g (j + 1)).day) ∧ W.cell? ⟨wr.heap.size, 3, none⟩ = some (.string (bA (g (j + 1)).t0)) ∧ W.cell? ⟨wr.heap.size, 4, none⟩ = some (.string (bA (g (j + 1)).t1)) ∧ W.cell? ⟨wr.heap.size, 5, none⟩ = some (.int .i64 (g (j + 1)).s0) ∧ W.cell? ⟨wr.heap.size, 6, none⟩ = some (.int .i64 (g (j + 1)).s1) ∧ W.cell? ⟨wr.heap.size, 7, none⟩ = some (.slice a1 (g (j + 1)).k kc)) ∧ (W.cell? ⟨b, off + j * 8, none⟩ = some (.string (bA (g j).nm)) ∧ W.cell? ⟨b, off + j * 8 + 1, none⟩ = some (.int .i64 (g j).ver) ∧ W.cell? ⟨b, off + j * 8 + 2, none⟩ = some (.int .i64 (g j).day) ∧ W.cell? ⟨b, off + j * 8 + 3, none⟩ = some (.string (bA (g j).t0)) ∧ W.cell? ⟨b, off + j * 8 + 4, none⟩ = some (.string (bA (g j).t1)) ∧ W.cell? ⟨b, off + j * 8 + 5, none⟩ = some (.int .i64 (g j).s0) ∧ W.cell? ⟨b, off + j * 8 + 6, none⟩ = some (.int .i64 (g j).s1) ∧ W.cell? ⟨b, off + j * 8 + 7, none⟩ = some (.slice a2 (g j).k kc2)) ∧ Below W5.heap.size W5 W) → Below W.heap.size W W' → (W'.cell? ⟨w.heap.size, 0, none⟩ = some (.slice (some ⟨b, off, none⟩) n c) ∧ (W'.cell? ⟨wr.heap.size, 0, none⟩ = some (.string (bA (g (j + 1)).nm)) ∧ W'.cell? ⟨wr.heap.size, 1, none⟩ = some (.int .i64 (g (j + 1)).ver) ∧ W'.cell? ⟨wr.heap.size, 2, none⟩ = some (.int .i64 (g (j + 1)).day) ∧ W'.cell? ⟨wr.heap.size, 3, none⟩ = some (.string (bA (g (j + 1)).t0)) ∧ W'.cell? ⟨wr.heap.size, 4, none⟩ = some (.string (bA (g (j + 1)).t1)) ∧ W'.cell? ⟨wr.heap.size, 5, none⟩ = some (.int .i64 (g (j + 1)).s0) ∧ W'.cell? ⟨wr.heap.size, 6, none⟩ = some (.int .i64 (g (j + 1)).s1) ∧ W'.cell? ⟨wr.heap.size, 7, none⟩ = some (.slice a1 (g (j + 1)).k kc)) ∧ (W'.cell? ⟨b, off + j * 8, none⟩ = some (.string (bA (g j).nm)) ∧ W'.cell? ⟨b, off + j * 8 + 1, none⟩ = some (.int .i64 (g j).ver) ∧ W'.cell? ⟨b, off + j * 8 + 2, none⟩ = some (.int .i64 (g j).day) ∧ W'.cell? ⟨b, off + j * 8 + 3, none⟩ = some (.string (bA (g j).t0)) ∧ W'.cell? ⟨b, off + j * 8 + 4, none⟩ = some (.string (bA (g j).t1)) ∧ W'.cell? ⟨b, off + j * 8 + 5, none⟩ = some (.int .i64 (g j).s0) ∧ W'.cell? ⟨b, off + j * 8 + 6, none⟩ = some (.int .i64 (g j).s1) ∧ W'.cell? ⟨b, off + j * 8 + 7, none⟩ = some (.slice a2 (g j).k kc2)) ∧ Below W5.heap.size W5 W')) := Lib.hid fun W W' hW hk => by
              have hbk : Below W5.heap.size W5 W' := hW.2.2.2.trans (hk.mono hW.2.2.2.size)
              obtain ⟨⟨y0, y1, y2, y3, y4, y5, y6, y7⟩, -⟩ := box8 (hy.below hbk hy.lt)
              have hx6 : W'.cell? ⟨w.heap.size, 0, none⟩ = some (.slice (some ⟨b, off, none⟩) n c) := by
                have := hx5.below hbk hx5.lt
                unfold At at this; simp only [World.cell?, this]; rfl
              exact ⟨hx6, ⟨y0, y1, y2, y3, y4, y5, y6, y7⟩, ⟨(hbk.cell (cell_under q0)).trans q0, (hbk.cell (cell_under q1)).trans q1, (hbk.cell (cell_under q2)).trans q2, (hbk.cell (cell_under q3)).trans q3, (hbk.cell (cell_under q4)).trans q4, (hbk.cell (cell_under q5)).trans q5, (hbk.cell (cell_under q6)).trans q6, (hbk.cell (cell_under q7)).trans q7⟩, hbk⟩
            refine wp_region_quiet_to (C := (fun W => (W.cell? ⟨w.heap.size, 0, none⟩ = some (.slice (some ⟨b, off, none⟩) n c) ∧ (W.cell? ⟨wr.heap.size, 0, none⟩ = some (.string (bA (g (j + 1)).nm)) ∧ W.cell? ⟨wr.heap.size, 1, none⟩ = some (.int .i64 (g (j + 1)).ver) ∧ W.cell? ⟨wr.heap.size, 2, none⟩ = some (.int .i64 (g (j + 1)).day) ∧ W.cell? ⟨wr.heap.size, 3, none⟩ = some (.string (bA (g (j + 1)).t0)) ∧ W.cell? ⟨wr.heap.size, 4, none⟩ = some (.string (bA (g (j + 1)).t1)) ∧ W.cell? ⟨wr.heap.size, 5, none⟩ = some (.int .i64 (g (j + 1)).s0) ∧ W.cell? ⟨wr.heap.size, 6, none⟩ = some (.int .i64 (g (j + 1)).s1) ∧ W.cell? ⟨wr.heap.size, 7, none⟩ = some (.slice a1 (g (j + 1)).k kc)) ∧ (W.cell? ⟨b, off + j * 8, none⟩ = some (.string (bA (g j).nm)) ∧ W.cell? ⟨b, off + j * 8 + 1, none⟩ = some (.int .i64 (g j).ver) ∧ W.cell? ⟨b, off + j * 8 + 2, none⟩ = some (.int .i64 (g j).day) ∧ W.cell? ⟨b, off + j * 8 + 3, none⟩ = some (.string (bA (g j).t0)) ∧ W.cell? ⟨b, off + j * 8 + 4, none⟩ = some (.string (bA (g j).t1)) ∧ W.cell? ⟨b, off + j * 8 + 5, none⟩ = some (.int .i64 (g j).s0) ∧ W.cell? ⟨b, off + j * 8 + 6, none⟩ = some (.int .i64 (g j).s1) ∧ W.cell? ⟨b, off + j * 8 + 7, none⟩ = some (.slice a2 (g j).k kc2)) ∧ Below W5.heap.size W5 W))) 22 3 #[true, true, true, true, true, true, true, true, true, true, true, true, true, true, true, true, true, true, true, true, true, true, false, false, false] (by kernel_rfl) (by kernel_rfl) ?_ ?_
            · (try dsimp only)
              exact ⟨hx0, ⟨y0, y1, y2, y3, y4, y5, y6, y7⟩, ⟨q0, q1, q2, q3, q4, q5, q6, q7⟩, hdr⟩
            simp only [List.take_succ_cons, List.take_zero]
            with_reducible refine quiet_take (v := ?_) ?_ ?_ ?_
            rotate_left
            · rfl
            · (intro w hSw; (try dsimp only at hSw); go_simp); all_goals (with_reducible rfl)
            try simp only [Act.put, List.setIfInBounds_toArray, List.set_cons_zero, List.set_cons_succ]
            with_reducible refine quiet_call (f := 55) (args := ?_) (v := .int .i64 E) ?_ ?_ ?_ ?_
            rotate_left
            · rfl
            · (intro w hSw; (try dsimp only at hSw); go_simp); all_goals (with_reducible rfl)
            · (intro W hSw); refine (cG W hSw.2.2.2).mono ?_; rintro e W' ⟨rfl, hk⟩; exact ⟨rfl, hpres.out W W' hSw hk⟩
            try simp only [Act.put, List.setIfInBounds_toArray, List.set_cons_zero, List.set_cons_succ]
            with_reducible refine quiet_take (v := ?_) ?_ ?_ ?_
            rotate_left
            · rfl
            · (intro w hSw; (try dsimp only at hSw); go_simp); all_goals (with_reducible rfl)
            try simp only [Act.put, List.setIfInBounds_toArray, List.set_cons_zero, List.set_cons_succ]
            with_reducible refine quiet_take (v := ?_) ?_ ?_ ?_
            rotate_left
            · rfl
            · (intro w hSw; (try dsimp only at hSw); go_simp); all_goals (with_reducible rfl)
            try simp only [Act.put, List.setIfInBounds_toArray, List.set_cons_zero, List.set_cons_succ]
            with_reducible refine quiet_take (v := ?_) ?_ ?_ ?_
            rotate_left
            · rfl
            · (intro w hSw; (try dsimp only at hSw); go_simp); all_goals (with_reducible rfl)
            try simp only [Act.put, List.setIfInBounds_toArray, List.set_cons_zero, List.set_cons_succ]
            with_reducible refine quiet_take (v := ?_) ?_ ?_ ?_
            rotate_left
            · rfl
            · (intro w hSw; have hlk := hlook w hSw.2.2.2; (try dsimp only at hSw); go_simp); all_goals (with_reducible rfl)
            try simp only [Act.put, List.setIfInBounds_toArray, List.set_cons_zero, List.set_cons_succ]
            with_reducible refine quiet_call (f := 113) (args := ?_) (v := .int .i64 s9) ?_ ?_ ?_ ?_
            rotate_left
            · rfl
            · (intro w hSw; (try dsimp only at hSw); go_simp); all_goals (with_reducible rfl)
            · (intro W hSw); refine (cSn W).mono ?_; rintro e W' ⟨rfl, rfl⟩; exact ⟨rfl, hSw⟩
            try simp only [Act.put, List.setIfInBounds_toArray, List.set_cons_zero, List.set_cons_succ]
            with_reducible refine quiet_take (v := ?_) ?_ ?_ ?_
            rotate_left
            · rfl
            · (intro w hSw; (try dsimp only at hSw); go_simp); all_goals (with_reducible rfl)
            try simp only [Act.put, List.setIfInBounds_toArray, List.set_cons_zero, List.set_cons_succ]
            with_reducible refine quiet_take (v := .bool true) ?_ ?_ ?_
            · rfl
            · (intro w hSw; go_simp; first | done | omega | (simp; omega))
            try simp only [Act.put, List.setIfInBounds_toArray, List.set_cons_zero, List.set_cons_succ]
            with_reducible refine quiet_take (v := ?_) ?_ ?_ ?_
            rotate_left
            · rfl
            · (intro w hSw; (try dsimp only at hSw); go_simp); all_goals (with_reducible rfl)
            try simp only [Act.put, List.setIfInBounds_toArray, List.set_cons_zero, List.set_cons_succ]
            with_reducible refine quiet_take (v := ?_) ?_ ?_ ?_
            rotate_left
            · rfl
            · (intro w hSw; (try dsimp only at hSw); go_simp); all_goals (with_reducible rfl)
            try simp only [Act.put, List.setIfInBounds_toArray, List.set_cons_zero, List.set_cons_succ]
            with_reducible refine quiet_take (v := ?_) ?_ ?_ ?_
            rotate_left
            · rfl
            · (intro w hSw; (try dsimp only at hSw); go_simp); all_goals (with_reducible rfl)
            try simp only [Act.put, List.setIfInBounds_toArray, List.set_cons_zero, List.set_cons_succ]
            with_reducible refine quiet_take (v := ?_) ?_ ?_ ?_
            rotate_left
            · rfl
            · (intro w hSw; (try dsimp only at hSw); go_simp); all_goals (with_reducible rfl)
            try simp only [Act.put, List.setIfInBounds_toArray, List.set_cons_zero, List.set_cons_succ]
            with_reducible refine quiet_take (v := ?_) ?_ ?_ ?_
            rotate_left
            · rfl
            · (intro w hSw; (try dsimp only at hSw); go_simp); all_goals (with_reducible rfl)
            try simp only [Act.put, List.setIfInBounds_toArray, List.set_cons_zero, List.set_cons_succ]
            with_reducible refine quiet_take (v := ?_) ?_ ?_ ?_
            rotate_left
            · rfl
            · (intro w hSw; (try dsimp only at hSw); go_simp); all_goals (with_reducible rfl)
            try simp only [Act.put, List.setIfInBounds_toArray, List.set_cons_zero, List.set_cons_succ]
            with_reducible refine quiet_take (v := ?_) ?_ ?_ ?_
            rotate_left
            · rfl
            · (intro w hSw; (try dsimp only at hSw); go_simp); all_goals (with_reducible rfl)
            try simp only [Act.put, List.setIfInBounds_toArray, List.set_cons_zero, List.set_cons_succ]
            with_reducible refine quiet_take (v := ?_) ?_ ?_ ?_
            rotate_left
            · rfl
            · (intro w hSw; (try dsimp only at hSw); go_simp); all_goals (with_reducible rfl)
            try simp only [Act.put, List.setIfInBounds_toArray, List.set_cons_zero, List.set_cons_succ]
            with_reducible refine quiet_take (v := ?_) ?_ ?_ ?_
            rotate_left
            · rfl
            · (intro w hSw; (try dsimp only at hSw); go_simp); all_goals (with_reducible rfl)
            try simp only [Act.put, List.setIfInBounds_toArray, List.set_cons_zero, List.set_cons_succ]
            with_reducible refine quiet_call (f := 121) (args := ?_) (v := .int .i64 cx) ?_ ?_ ?_ ?_
            rotate_left
            · rfl
            · (intro w hSw; (try dsimp only at hSw); go_simp); all_goals (with_reducible rfl)
            · (intro W hSw); refine (cC W).mono ?_; rintro e W' ⟨rfl, hk⟩; exact ⟨rfl, hpres.out W W' hSw hk⟩
            try simp only [Act.put, List.setIfInBounds_toArray, List.set_cons_zero, List.set_cons_succ]
            with_reducible refine quiet_take (v := ?_) ?_ ?_ ?_
            rotate_left
            · rfl
            · (intro w hSw; (try dsimp only at hSw); go_simp); all_goals (with_reducible rfl)
            try simp only [Act.put, List.setIfInBounds_toArray, List.set_cons_zero, List.set_cons_succ]
            with_reducible refine quiet_take (v := ?_) ?_ ?_ ?_
            rotate_left
            · rfl
            · (intro w hSw; (try dsimp only at hSw); go_simp); all_goals (with_reducible rfl)
            try simp only [Act.put, List.setIfInBounds_toArray, List.set_cons_zero, List.set_cons_succ]
            with_reducible refine quiet_call (f := 113) (args := ?_) (v := .int .i64 s11) ?_ ?_ ?_ ?_
            rotate_left
            · rfl
            · (intro w hSw; (try dsimp only at hSw); go_simp); all_goals (with_reducible rfl)
            · (intro W hSw); refine (cLt W).mono ?_; rintro e W' ⟨rfl, rfl⟩; exact ⟨rfl, hSw⟩
            try simp only [Act.put, List.setIfInBounds_toArray, List.set_cons_zero, List.set_cons_succ]
            refine wpQuiet_nil ?_
            intro W hSw
            refine wpAny_of_held (S := fun _ => True) _ _ _ _ ?_
            refine wpAnyH_ready (rs := [22]) (by kernel_rfl) (by simp) ?_
            refine AllReadyH.cons (o := _) rfl (fun K hK => ?_) ?_
            · -- buildSlice
              go_simp
              refine hK.out _ _ trivial (fun _ => ?_)
              clear hK K
              try simp only [List.setIfInBounds_toArray, List.set_cons_zero, List.set_cons_succ]
              refine wpAnyH_ready (rs := [23]) (by kernel_rfl) (by simp) ?_
              refine AllReadyH.cons (o := _) rfl (fun K hK => ?_) ?_
              · -- 88
                go_simp
                refine Calls.mono (cF _ _ (by simp) (by simp) (by simp)) ?_; rintro e w' ⟨rfl, rfl⟩
                refine hK.out _ _ trivial (fun _ => ?_)
                clear hK K
                try simp only [List.setIfInBounds_toArray, List.set_cons_zero, List.set_cons_succ]
                refine wpAnyH_ready (rs := [24]) (by kernel_rfl) (by simp) ?_
                refine AllReadyH.cons (o := _) rfl (fun K hK => ?_) ?_
                · -- assign
                  go_simp
                  refine hK.out _ _ trivial (fun _ => ?_)
                  clear hK K
                  try simp only [List.setIfInBounds_toArray, List.set_cons_zero, List.set_cons_succ]
                  refine wpAnyH_done (by kernel_rfl) ?_ _
                  go_wp2_with fail
                  go_meet
                  exact ⟨rfl, hSw.2.2.2.alloc hSw.2.2.2.size _⟩
                exact AllReadyH.nil
              exact AllReadyH.nil
            exact AllReadyH.nil
        case rest =>
          obtain ⟨rfl, hbA⟩ := hcut
          have hyc := hy.below hbA hy.lt
          have hmc : wc.ownsMap prog 9 (plainElem (H := Unit) prog 4) (w.heap.size + 1) i (seenD g i) := hm5.kept (row := none) ⟨hbA.os, hbA.tape, hbA.output, hbA.size, fun k hk _ => hbA.block k hk⟩ (by simp)
          have hxc := hx5.below hbA hx5.lt
          have hbc := hb5.trans (hbA.mono hb5.size)
          have hkl : keyOf prog 9 (.string (bA (g i).nm)) = some (.string (g i).nm) := by
            rw [keyOf_string_mk (by kernel_rfl) (by rw [bA_size]; exact Nat.le_trans (hk i hin).2 (by decide))]; rfl
          have hkn : n ≤ 64 := by omega
          obtain ⟨v1, hv1⟩ : ∃ v1, fstE [E, s9, s11] = v1 := ⟨_, rfl⟩
          rw [hv1] at HE2 ⊢
          clear hv1 cF cSn cLt hlook cG hdr hy hm5 hx5 hb5 hl5 hbA hx0 y0 y1 y2 y3 y4 y5 y6 y7 hlate hlt hmlt hbn hb
          by_cases h0 : v1 = 0
          · subst h0
            have HS2 := Lib.hid (HE2.out.trans (if_pos rfl))
            obtain ⟨⟨y0, y1, y2, y3, y4, y5, y6, y7⟩, -⟩ := box8 hyc
            have Hm := Lib.hid hmc
            have Hkl := Lib.hid hkl
            clear HE2 hmc hkl
            go_wp2_with (first
              | (at_mapUpdate; refine wpList_mapUpdate_own _ rfl _ _ _ 187 rfl 9 4 (string_keyed (by kernel_rfl)) (by kernel_rfl) _ (w.heap.size + 1) i _ rfl Hm.out (by unfold maxLen; omega) _ _ _ rfl rfl Hkl.out (.lit (.bool true)) [] (plainElem_bool (by kernel_rfl) true) ?_; intro w1 hown1 hgrow1; go_frame)
              | fail)
            go_roundw
            case rel =>
              refine ⟨i + 1, by omega, by go_num, HS2, ?_, hown1, hbc.grown hgrow1 hbc.size (fun k hk => by cases hk; omega)⟩
              unfold At at hxc ⊢
              rw [hgrow1.block _ (lt_of_block hxc) (by simp)]; exact hxc
            case measure => simp [numOf'] <;> omega
          · have h0' : (v1 != 0) = true := by simpa using h0
            have hE2 : Hid (R = v1) := Lib.hid (HE2.out.trans (if_neg h0))
            clear HE2 hyc hmc hxc
            go_wp2_with fail
            go_ret
            exact ⟨by rw [hE2.out]; try rfl, hbc⟩
      · obtain rfl : i = n := by omega
        have hE2 : Hid (R = 0) := Lib.hid (by rw [hE.out, Nat.sub_self, bookK])
        clear hE
        go_wp2_with fail
        go_ret
        exact ⟨by rw [hE2.out]; try rfl, hb⟩
end Go.Proofs.Tryz
