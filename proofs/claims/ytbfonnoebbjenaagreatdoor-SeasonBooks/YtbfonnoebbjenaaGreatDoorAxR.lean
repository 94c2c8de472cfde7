/- A book checked by the reference: by the kit's walk. -/
import Derived.Test.YtbfonnoebbjenaaGreatDoorAxJ
import Derived.Test.YtbfonnoebbjenaaGreatDoorAxL
namespace Go.Proofs.Tryz
open Go Go.Am Go.RowKit Go.Op
set_option maxRecDepth 100000

theorem IsGames.take {w : World} {ad : Option Addr} {n c i : Nat} {g : Nat → GmD} (h : IsGames w (.slice ad n c) g n) (hi : i ≤ n) : IsGames w (.slice ad i c) g i := by
  obtain ⟨lv, ⟨a, c', e, h1, h2⟩, h3⟩ := h
  simp only [Value.slice.injEq, true_and] at e
  obtain ⟨rfl, rfl⟩ := e
  exact ⟨lv, ⟨ad, c, rfl, by omega, fun h0 => let ⟨b, off, e, h4⟩ := h2 (by omega); ⟨b, off, e, fun j hj => h4 j (by omega)⟩⟩, fun j hj => h3 j (by omega)⟩

set_option maxHeartbeats 6400000 in
theorem bookR_w {g : Nat → GmD} {n : Nat} {v : Value} {w : World} (h : IsGames w v g n) (hk : ∀ i, i < n → (g i).k ≤ 1000) :
    Calls prog 21 #[v] w fun e w' => e = .returned (.int .i64 (bookE g n)) ∧ Below w.heap.size w w' := by
  have h0 := h
  obtain ⟨lv, hr, -⟩ := h0
  obtain ⟨ad, c, rfl, hnc⟩ := hr.slice
  clear hr
  obtain ⟨R, hR⟩ : ∃ R, bookE g n = R := ⟨_, rfl⟩
  rw [hR]
  have HR : Hid (R = if 64 < n then 5 else bookK g 0 n) := Lib.hid (by rw [← hR]; rfl)
  clear hR
  by_cases h64 : 64 < n
  · have hE2 : Hid (R = 5) := Lib.hid (HR.out.trans (if_pos h64))
    have h64' : (64 : Int) < (n : Int) := by omega
    clear HR
    go_enter func21, ntmps21
    go_wp2
    go_ret
    exact ⟨by rw [hE2.out]; try rfl, Below.refl _ _⟩
  · have h64' : (n : Int) ≤ 64 := by omega
    have hn64 : n ≤ 64 := by omega
    have HS : Hid (R = bookK g 0 (n - 0)) := Lib.hid (HR.out.trans (if_neg h64))
    clear HR h64
    go_enter func21, ntmps21
    go_wp2_with fail
    go_loopw [3] (fun s wr => ∃ i : Nat, i ≤ n ∧ s = .int .i64 i ∧ Hid (R = bookK g i (n - i)) ∧ Below w.heap.size w wr) (fun s _ => n - (numOf' s).toNat)
    case atStart => exact ⟨0, Nat.zero_le _, rfl, HS, Below.refl _ _⟩
    case round =>
      try clear HS
      obtain ⟨i, hi, rfl, hE, hb⟩ := hrel
      by_cases hin : i < n
      · obtain ⟨b, off, c1, a1, kc, e, -, hli, p0, p1, p2, p3, p4, p5, p6, p7⟩ := (h.below hb).at hin
        simp only [Value.slice.injEq, true_and] at e
        obtain ⟨rfl, rfl⟩ := e
        have hii : (i : Int) < (n : Int) := by omega
        have hic : (i : Int) ≤ (c : Int) := by omega
        have cG := gameR_w hli (Nat.le_trans (hk i hin) (by decide))
        have hs := hE.out
        rw [show n - i = (n - (i + 1)) + 1 by omega, bookK] at hs
        obtain ⟨E, hEq⟩ : ∃ E, gmE (g i) = E := ⟨_, rfl⟩
        obtain ⟨sn, hsn⟩ : ∃ b, seenB g (g i).nm i = b := ⟨_, rfl⟩
        rw [hEq, hsn] at hs
        rw [hEq] at cG
        have HE2 := Lib.hid hs
        unfold GmD.val at cG
        clear hE hs hEq
        go_wp2_with fail
        go_at_call 57
        refine cG.mono ?_
        rintro e W6 ⟨rfl, hk6⟩
        have hb6 := hb.trans (hk6.mono hb.size)
        clear cG p0 p1 p2 p3 p4 p5 p6 p7 hli hk6 hb
        by_cases hE0 : E = 0
        · subst hE0
          have HE3 := Lib.hid (HE2.out.trans (if_pos rfl))
          clear HE2
          obtain ⟨b', off', c1, a1', kc', e, -, -, p0, p1, p2, p3, p4, p5, p6, p7⟩ := (h.below hb6).at hin
          simp only [Value.slice.injEq, true_and, Option.some.injEq, Addr.mk.injEq, and_true] at e
          obtain ⟨⟨rfl, rfl⟩, rfl⟩ := e
          obtain ⟨fx, hfx⟩ : ∃ x, findN g (g i).nm 0 i = x := ⟨_, rfl⟩
          have hfs : decide (0 ≤ fx) = sn := by rw [← hfx, find_seen, hsn]
          have hdr : Below W6.heap.size W6 W6.drew := (Below.refl _ _).drew
          have cF : ∀ W, Below W6.heap.size W6 W → Calls prog 64 #[.slice (some ⟨b, off, none⟩) i c, .string (bA (g i).nm)] W fun e w' => e = .returned (.int .i64 fx) ∧ w' = W := fun W hW => by
            rw [← hfx]; exact find_w (((h.below hb6).below hW).take (Nat.le_of_lt hin)) (by omega) _
          clear p1 p2 p3 p4 p5 p6 p7 hsn hfx
          cases sn with
          | true =>
            have hfx : (0 : Int) ≤ fx := by simpa using hfs
            have HE4 := Lib.hid (HE3.out.trans (if_pos rfl))
            clear HE3 hfs
            go_wp2_with fail
            refine wp_region_quiet_to (C := (fun W => W.cell? ⟨b, off + i * 8, none⟩ = some (.string (bA (g i).nm)) ∧ Below W6.heap.size W6 W)) 9 1 #[true, true, true, true, true, true, true, true, true, false] (by kernel_rfl) (by kernel_rfl) ?_ ?_
            · (try dsimp only)
              exact ⟨p0, hdr⟩
            simp only [List.take_succ_cons, List.take_zero]
            with_reducible refine quiet_take (v := ?_) ?_ ?_ ?_
            rotate_left
            · rfl
            · (intro w hSw; (try dsimp only at hSw); go_simp); all_goals (with_reducible rfl)
            try simp only [Act.put, List.setIfInBounds_toArray, List.set_cons_zero, List.set_cons_succ]
            with_reducible refine quiet_take (v := ?_) ?_ ?_ ?_
            rotate_left
            · rfl
            · (intro w hSw; (try dsimp only at hSw); go_simp); all_goals (with_reducible rfl)
            try simp only [Act.put, List.setIfInBounds_toArray, List.set_cons_zero, List.set_cons_succ]
            with_reducible refine quiet_take (v := ?_) ?_ ?_ ?_
            rotate_left
            · rfl
            · (intro w hSw; (try dsimp only at hSw); go_simp); all_goals (with_reducible rfl)
            try simp only [Act.put, List.setIfInBounds_toArray, List.set_cons_zero, List.set_cons_succ]
            with_reducible refine quiet_take (v := ?_) ?_ ?_ ?_
            rotate_left
            · rfl
            · (intro w hSw; (try dsimp only at hSw); go_simp); all_goals (with_reducible rfl)
            try simp only [Act.put, List.setIfInBounds_toArray, List.set_cons_zero, List.set_cons_succ]
            with_reducible refine quiet_take (v := ?_) ?_ ?_ ?_
            rotate_left
            · rfl
            · (intro w hSw; (try dsimp only at hSw); go_simp); all_goals (with_reducible rfl)
            try simp only [Act.put, List.setIfInBounds_toArray, List.set_cons_zero, List.set_cons_succ]
            with_reducible refine quiet_take (v := ?_) ?_ ?_ ?_
            rotate_left
            · rfl
            · (intro w hSw; (try dsimp only at hSw); go_simp); all_goals (with_reducible rfl)
            try simp only [Act.put, List.setIfInBounds_toArray, List.set_cons_zero, List.set_cons_succ]
            with_reducible refine quiet_take (v := ?_) ?_ ?_ ?_
            rotate_left
            · rfl
            · (intro w hSw; (try dsimp only at hSw); go_simp); all_goals (with_reducible rfl)
            try simp only [Act.put, List.setIfInBounds_toArray, List.set_cons_zero, List.set_cons_succ]
            with_reducible refine quiet_take (v := ?_) ?_ ?_ ?_
            rotate_left
            · rfl
            · (intro w hSw; (try dsimp only at hSw); go_simp); all_goals (with_reducible rfl)
            try simp only [Act.put, List.setIfInBounds_toArray, List.set_cons_zero, List.set_cons_succ]
            with_reducible refine quiet_call (f := 64) (args := ?_) (v := .int .i64 fx) ?_ ?_ ?_ ?_
            rotate_left
            · rfl
            · (intro w hSw; (try dsimp only at hSw); go_simp); all_goals (with_reducible rfl)
            · (intro W hSw); refine (cF W hSw.2).mono ?_; rintro e W' ⟨rfl, rfl⟩; exact ⟨rfl, hSw⟩
            try simp only [Act.put, List.setIfInBounds_toArray, List.set_cons_zero, List.set_cons_succ]
            refine wpQuiet_nil ?_
            intro W hSw
            refine wpAny_of_held (S := fun _ => True) _ _ _ _ ?_
            refine wpAnyH_ready (rs := [9]) (by kernel_rfl) (by simp) ?_
            refine AllReadyH.cons (o := _) rfl (fun K hK => ?_) ?_
            · -- binOp
              go_simp
              refine hK.out _ _ trivial (fun _ => ?_)
              clear hK K
              try simp only [List.setIfInBounds_toArray, List.set_cons_zero, List.set_cons_succ]
              refine wpAnyH_done (by kernel_rfl) ?_ _
              have hb9 := hb6.trans (hSw.2.mono hb6.size)
              go_wp2_with fail
              go_ret
              exact ⟨by rw [HE4.out]; try rfl, hb9⟩
            exact AllReadyH.nil
          | false =>
            have hfx : ¬ (0 : Int) ≤ fx := by simpa using hfs
            have HE4 := Lib.hid (HE3.out.trans (if_neg (by decide)))
            clear HE3 hfs
            go_wp2_with fail
            refine wp_region_quiet_to (C := (fun W => W.cell? ⟨b, off + i * 8, none⟩ = some (.string (bA (g i).nm)) ∧ Below W6.heap.size W6 W)) 9 1 #[true, true, true, true, true, true, true, true, true, false] (by kernel_rfl) (by kernel_rfl) ?_ ?_
            · (try dsimp only)
              exact ⟨p0, hdr⟩
            simp only [List.take_succ_cons, List.take_zero]
            with_reducible refine quiet_take (v := ?_) ?_ ?_ ?_
            rotate_left
            · rfl
            · (intro w hSw; (try dsimp only at hSw); go_simp); all_goals (with_reducible rfl)
            try simp only [Act.put, List.setIfInBounds_toArray, List.set_cons_zero, List.set_cons_succ]
            with_reducible refine quiet_take (v := ?_) ?_ ?_ ?_
            rotate_left
            · rfl
            · (intro w hSw; (try dsimp only at hSw); go_simp); all_goals (with_reducible rfl)
            try simp only [Act.put, List.setIfInBounds_toArray, List.set_cons_zero, List.set_cons_succ]
            with_reducible refine quiet_take (v := ?_) ?_ ?_ ?_
            rotate_left
            · rfl
            · (intro w hSw; (try dsimp only at hSw); go_simp); all_goals (with_reducible rfl)
            try simp only [Act.put, List.setIfInBounds_toArray, List.set_cons_zero, List.set_cons_succ]
            with_reducible refine quiet_take (v := ?_) ?_ ?_ ?_
            rotate_left
            · rfl
            · (intro w hSw; (try dsimp only at hSw); go_simp); all_goals (with_reducible rfl)
            try simp only [Act.put, List.setIfInBounds_toArray, List.set_cons_zero, List.set_cons_succ]
            with_reducible refine quiet_take (v := ?_) ?_ ?_ ?_
            rotate_left
            · rfl
            · (intro w hSw; (try dsimp only at hSw); go_simp); all_goals (with_reducible rfl)
            try simp only [Act.put, List.setIfInBounds_toArray, List.set_cons_zero, List.set_cons_succ]
            with_reducible refine quiet_take (v := ?_) ?_ ?_ ?_
            rotate_left
            · rfl
            · (intro w hSw; (try dsimp only at hSw); go_simp); all_goals (with_reducible rfl)
            try simp only [Act.put, List.setIfInBounds_toArray, List.set_cons_zero, List.set_cons_succ]
            with_reducible refine quiet_take (v := ?_) ?_ ?_ ?_
            rotate_left
            · rfl
            · (intro w hSw; (try dsimp only at hSw); go_simp); all_goals (with_reducible rfl)
            try simp only [Act.put, List.setIfInBounds_toArray, List.set_cons_zero, List.set_cons_succ]
            with_reducible refine quiet_take (v := ?_) ?_ ?_ ?_
            rotate_left
            · rfl
            · (intro w hSw; (try dsimp only at hSw); go_simp); all_goals (with_reducible rfl)
            try simp only [Act.put, List.setIfInBounds_toArray, List.set_cons_zero, List.set_cons_succ]
            with_reducible refine quiet_call (f := 64) (args := ?_) (v := .int .i64 fx) ?_ ?_ ?_ ?_
            rotate_left
            · rfl
            · (intro w hSw; (try dsimp only at hSw); go_simp); all_goals (with_reducible rfl)
            · (intro W hSw); refine (cF W hSw.2).mono ?_; rintro e W' ⟨rfl, rfl⟩; exact ⟨rfl, hSw⟩
            try simp only [Act.put, List.setIfInBounds_toArray, List.set_cons_zero, List.set_cons_succ]
            refine wpQuiet_nil ?_
            intro W hSw
            refine wpAny_of_held (S := fun _ => True) _ _ _ _ ?_
            refine wpAnyH_ready (rs := [9]) (by kernel_rfl) (by simp) ?_
            refine AllReadyH.cons (o := _) rfl (fun K hK => ?_) ?_
            · -- binOp
              go_simp
              refine hK.out _ _ trivial (fun _ => ?_)
              clear hK K
              try simp only [List.setIfInBounds_toArray, List.set_cons_zero, List.set_cons_succ]
              refine wpAnyH_done (by kernel_rfl) ?_ _
              have hb9 := hb6.trans (hSw.2.mono hb6.size)
              clear cF hdr p0 hSw
              generalize W = W9 at hb9 ⊢
              have hdr : Below W9.heap.size W9 W9.drew := (Below.refl _ _).drew
              go_wp2_with fail
              rcases Nat.eq_zero_or_pos i with hi0 | hi0
              · have i1 : ¬ (0 : Int) < (i : Int) := by omega
                have HR2 : Hid (R = bookK g (i + 1) (n - (i + 1))) := Lib.hid (HE4.out.trans (if_neg (fun h => absurd h.1 (by omega))))
                clear HE4 hi0
                refine wp_region_quiet_to (C := (fun W => Below W9.heap.size W9 W)) 14 1 #[true, true, true, true, true, true, true, true, true, true, true, true, true, true, false] (by kernel_rfl) (by kernel_rfl) ?_ ?_
                · (try dsimp only)
                  exact hdr
                simp only [List.take_succ_cons, List.take_zero]
                with_reducible refine quiet_take (v := ?_) ?_ ?_ ?_
                rotate_left
                · rfl
                · (intro w hSw; (try dsimp only at hSw); go_simp); all_goals (with_reducible rfl)
                try simp only [Act.put, List.setIfInBounds_toArray, List.set_cons_zero, List.set_cons_succ]
                with_reducible refine quiet_take (v := .bool false) ?_ ?_ ?_
                · rfl
                · (intro w hSw; go_simp; first | done | omega | (simp; omega))
                try simp only [Act.put, List.setIfInBounds_toArray, List.set_cons_zero, List.set_cons_succ]
                with_reducible refine quiet_take (v := ?_) ?_ ?_ ?_
                rotate_left
                · rfl
                · (intro w hSw; (try dsimp only at hSw); go_simp); all_goals (with_reducible rfl)
                try simp only [Act.put, List.setIfInBounds_toArray, List.set_cons_zero, List.set_cons_succ]
                with_reducible refine quiet_skip ?_ ?_
                · rfl
                try simp only [Act.put, List.setIfInBounds_toArray, List.set_cons_zero, List.set_cons_succ]
                with_reducible refine quiet_skip ?_ ?_
                · rfl
                try simp only [Act.put, List.setIfInBounds_toArray, List.set_cons_zero, List.set_cons_succ]
                with_reducible refine quiet_skip ?_ ?_
                · rfl
                try simp only [Act.put, List.setIfInBounds_toArray, List.set_cons_zero, List.set_cons_succ]
                with_reducible refine quiet_skip ?_ ?_
                · rfl
                try simp only [Act.put, List.setIfInBounds_toArray, List.set_cons_zero, List.set_cons_succ]
                with_reducible refine quiet_skip ?_ ?_
                · rfl
                try simp only [Act.put, List.setIfInBounds_toArray, List.set_cons_zero, List.set_cons_succ]
                with_reducible refine quiet_skip ?_ ?_
                · rfl
                try simp only [Act.put, List.setIfInBounds_toArray, List.set_cons_zero, List.set_cons_succ]
                with_reducible refine quiet_skip ?_ ?_
                · rfl
                try simp only [Act.put, List.setIfInBounds_toArray, List.set_cons_zero, List.set_cons_succ]
                with_reducible refine quiet_skip ?_ ?_
                · rfl
                try simp only [Act.put, List.setIfInBounds_toArray, List.set_cons_zero, List.set_cons_succ]
                with_reducible refine quiet_skip ?_ ?_
                · rfl
                try simp only [Act.put, List.setIfInBounds_toArray, List.set_cons_zero, List.set_cons_succ]
                with_reducible refine quiet_skip ?_ ?_
                · rfl
                try simp only [Act.put, List.setIfInBounds_toArray, List.set_cons_zero, List.set_cons_succ]
                with_reducible refine quiet_skip ?_ ?_
                · rfl
                try simp only [Act.put, List.setIfInBounds_toArray, List.set_cons_zero, List.set_cons_succ]
                refine wpQuiet_nil ?_
                intro W hSw
                refine wpAny_of_held (S := fun _ => True) _ _ _ _ ?_
                refine wpAnyH_ready (rs := [14]) (by kernel_rfl) (by simp) ?_
                refine AllReadyH.cons (o := _) rfl (fun K hK => ?_) ?_
                · -- pick
                  go_simp
                  refine hK.out _ _ trivial (fun _ => ?_)
                  clear hK K
                  try simp only [List.setIfInBounds_toArray, List.set_cons_zero, List.set_cons_succ]
                  refine wpAnyH_done (by kernel_rfl) ?_ _
                  have hb10 := hb9.trans (Below.mono hSw hb9.size)
                  go_wp2_with fail
                  go_roundw
                  case rel => exact ⟨i + 1, by omega, by go_num, HR2, hb10⟩
                  case measure => simp [numOf'] <;> omega
                exact AllReadyH.nil
              · obtain ⟨j, rfl⟩ : ∃ j, i = j + 1 := ⟨i - 1, by omega⟩
                have i1 : (0:Int) < ((j + 1 : Nat) : Int) := by omega
                have i2 : ((j + 1 : Nat) : Int) - 1 = (j : Int) := by omega
                have i3 : (j : Int) < (n : Int) := by omega
                have i6 : (0 : Int) ≤ (j : Int) + 1 := by omega
                have i7 : (j : Int) + 1 < (n : Int) := by omega
                have i4 : IntKind.i64.wrap (j : Int) = (j : Int) := IntWalk.i64_in _ (by omega)
                have i5 : IntKind.i64.wrap ((j : Int) + 1 - 1) = (j : Int) := by rw [IntWalk.i64_in _ (by omega)]; omega
                obtain ⟨b', off', c1, a1, kc, e, -, -, p0, p1, p2, p3, p4, p5, p6, p7⟩ := (h.below hb9).at hin
                simp only [Value.slice.injEq, true_and, Option.some.injEq, Addr.mk.injEq, and_true] at e
                obtain ⟨⟨rfl, rfl⟩, rfl⟩ := e
                obtain ⟨b', off', c1, a2, kc2, e, -, -, q0, q1, q2, q3, q4, q5, q6, q7⟩ := (h.below hb9).at (show j < n by omega)
                simp only [Value.slice.injEq, true_and, Option.some.injEq, Addr.mk.injEq, and_true] at e
                obtain ⟨⟨rfl, rfl⟩, rfl⟩ := e
                have cB := before_w (g j) (g (j + 1)) a2 a1 (g j).k kc2 (g (j + 1)).k kc
                unfold GmD.val at cB
                obtain ⟨bf, hbf⟩ : ∃ b, befB (g j) (g (j + 1)) = b := ⟨_, rfl⟩
                rw [hbf] at cB
                have HE5 : Hid (R = if bf = false then 11 else bookK g (j + 1 + 1) (n - (j + 1 + 1))) := Lib.hid (by
                  rw [HE4.out, ← hbf, show j + 1 - 1 = j from rfl]
                  by_cases q : befB (g j) (g (j + 1)) = false
                  · rw [if_pos ⟨by omega, q⟩, if_pos q]
                  · rw [if_neg (fun h => q h.2), if_neg q])
                have hpres : Hid (∀ W W' : World, ((W.cell? ⟨b, off + (j + 1) * 8, none⟩ = some (.string (bA (g (j + 1)).nm)) ∧ W.cell? ⟨b, off + (j + 1) * 8 + 1, none⟩ = some (.int .i64 (g (j + 1)).ver) ∧ W.cell? ⟨b, off + (j + 1) * 8 + 2, none⟩ = some (.int .i64 (g (j + 1)).day) ∧ W.cell? ⟨b, off + (j + 1) * 8 + 3, none⟩ = some (.string (bA (g (j + 1)).t0)) ∧ W.cell? ⟨b, off + (j + 1) * 8 + 4, none⟩ = some (.string (bA (g (j + 1)).t1)) ∧ W.cell? ⟨b, off + (j + 1) * 8 + 5, none⟩ = some (.int .i64 (g (j + 1)).s0) ∧ W.cell? ⟨b, off + (j + 1) * 8 + 6, none⟩ = some (.int .i64 (g (j + 1)).s1) ∧ W.cell? ⟨b, off + (j + 1) * 8 + 7, none⟩ = some (.slice a1 (g (j + 1)).k kc)) ∧ (W.cell? ⟨b, off + j * 8, none⟩ = some (.string (bA (g j).nm)) ∧ W.cell? ⟨b, off + j * 8 + 1, none⟩ = some (.int .i64 (g j).ver) ∧ W.cell? ⟨b, off + j * 8 + 2, none⟩ = some (.int .i64 (g j).day) ∧ W.cell? ⟨b, off + j * 8 + 3, none⟩ = some (.string (bA (g j).t0)) ∧ W.cell? ⟨b, off + j * 8 + 4, none⟩ = some (.string (bA (g j).t1)) ∧ W.cell? ⟨b, off + j * 8 + 5, none⟩ = some (.int .i64 (g j).s0) ∧ W.cell? ⟨b, off + j * 8 + 6, none⟩ = some (.int .i64 (g j).s1) ∧ W.cell? ⟨b, off + j * 8 + 7, none⟩ = some (.slice a2 (g j).k kc2)) ∧ Below W9.heap.size W9 W) → Below W.heap.size W W' → ((W'.cell? ⟨b, off + (j + 1) * 8, none⟩ = some (.string (bA (g (j + 1)).nm)) ∧ W'.cell? ⟨b, off + (j + 1) * 8 + 1, none⟩ = some (.int .i64 (g (j + 1)).ver) ∧ W'.cell? ⟨b, off + (j + 1) * 8 + 2, none⟩ = some (.int .i64 (g (j + 1)).day) ∧ W'.cell? ⟨b, off + (j + 1) * 8 + 3, none⟩ = some (.string (bA (g (j + 1)).t0)) ∧ W'.cell? ⟨b, off + (j + 1) * 8 + 4, none⟩ = some (.string (bA (g (j + 1)).t1)) ∧ W'.cell? ⟨b, off + (j + 1) * 8 + 5, none⟩ = some (.int .i64 (g (j + 1)).s0) ∧ W'.cell? ⟨b, off + (j + 1) * 8 + 6, none⟩ = some (.int .i64 (g (j + 1)).s1) ∧ W'.cell? ⟨b, off + (j + 1) * 8 + 7, none⟩ = some (.slice a1 (g (j + 1)).k kc)) ∧ (W'.cell? ⟨b, off + j * 8, none⟩ = some (.string (bA (g j).nm)) ∧ W'.cell? ⟨b, off + j * 8 + 1, none⟩ = some (.int .i64 (g j).ver) ∧ W'.cell? ⟨b, off + j * 8 + 2, none⟩ = some (.int .i64 (g j).day) ∧ W'.cell? ⟨b, off + j * 8 + 3, none⟩ = some (.string (bA (g j).t0)) ∧ W'.cell? ⟨b, off + j * 8 + 4, none⟩ = some (.string (bA (g j).t1)) ∧ W'.cell? ⟨b, off + j * 8 + 5, none⟩ = some (.int .i64 (g j).s0) ∧ W'.cell? ⟨b, off + j * 8 + 6, none⟩ = some (.int .i64 (g j).s1) ∧ W'.cell? ⟨b, off + j * 8 + 7, none⟩ = some (.slice a2 (g j).k kc2)) ∧ Below W9.heap.size W9 W')) := Lib.hid fun W W' hW hk => by
                  have hbk : Below W9.heap.size W9 W' := hW.2.2.trans (hk.mono hW.2.2.size)
                  exact ⟨⟨(hbk.cell (cell_under p0)).trans p0, (hbk.cell (cell_under p1)).trans p1, (hbk.cell (cell_under p2)).trans p2, (hbk.cell (cell_under p3)).trans p3, (hbk.cell (cell_under p4)).trans p4, (hbk.cell (cell_under p5)).trans p5, (hbk.cell (cell_under p6)).trans p6, (hbk.cell (cell_under p7)).trans p7⟩, ⟨(hbk.cell (cell_under q0)).trans q0, (hbk.cell (cell_under q1)).trans q1, (hbk.cell (cell_under q2)).trans q2, (hbk.cell (cell_under q3)).trans q3, (hbk.cell (cell_under q4)).trans q4, (hbk.cell (cell_under q5)).trans q5, (hbk.cell (cell_under q6)).trans q6, (hbk.cell (cell_under q7)).trans q7⟩, hbk⟩
                clear HE4 hbf hi0
                cases bf with
                | true =>
                  have HR2 := Lib.hid (HE5.out.trans (if_neg (by decide)))
                  clear HE5
                  refine wp_region_quiet_to (C := (fun W => ((W.cell? ⟨b, off + (j + 1) * 8, none⟩ = some (.string (bA (g (j + 1)).nm)) ∧ W.cell? ⟨b, off + (j + 1) * 8 + 1, none⟩ = some (.int .i64 (g (j + 1)).ver) ∧ W.cell? ⟨b, off + (j + 1) * 8 + 2, none⟩ = some (.int .i64 (g (j + 1)).day) ∧ W.cell? ⟨b, off + (j + 1) * 8 + 3, none⟩ = some (.string (bA (g (j + 1)).t0)) ∧ W.cell? ⟨b, off + (j + 1) * 8 + 4, none⟩ = some (.string (bA (g (j + 1)).t1)) ∧ W.cell? ⟨b, off + (j + 1) * 8 + 5, none⟩ = some (.int .i64 (g (j + 1)).s0) ∧ W.cell? ⟨b, off + (j + 1) * 8 + 6, none⟩ = some (.int .i64 (g (j + 1)).s1) ∧ W.cell? ⟨b, off + (j + 1) * 8 + 7, none⟩ = some (.slice a1 (g (j + 1)).k kc)) ∧ (W.cell? ⟨b, off + j * 8, none⟩ = some (.string (bA (g j).nm)) ∧ W.cell? ⟨b, off + j * 8 + 1, none⟩ = some (.int .i64 (g j).ver) ∧ W.cell? ⟨b, off + j * 8 + 2, none⟩ = some (.int .i64 (g j).day) ∧ W.cell? ⟨b, off + j * 8 + 3, none⟩ = some (.string (bA (g j).t0)) ∧ W.cell? ⟨b, off + j * 8 + 4, none⟩ = some (.string (bA (g j).t1)) ∧ W.cell? ⟨b, off + j * 8 + 5, none⟩ = some (.int .i64 (g j).s0) ∧ W.cell? ⟨b, off + j * 8 + 6, none⟩ = some (.int .i64 (g j).s1) ∧ W.cell? ⟨b, off + j * 8 + 7, none⟩ = some (.slice a2 (g j).k kc2)) ∧ Below W9.heap.size W9 W))) 14 1 #[true, true, true, true, true, true, true, true, true, true, true, true, true, true, false] (by kernel_rfl) (by kernel_rfl) ?_ ?_
                  · (try dsimp only)
                    exact ⟨⟨p0, p1, p2, p3, p4, p5, p6, p7⟩, ⟨q0, q1, q2, q3, q4, q5, q6, q7⟩, hdr⟩
                  simp only [List.take_succ_cons, List.take_zero]
                  with_reducible refine quiet_take (v := ?_) ?_ ?_ ?_
                  rotate_left
                  · rfl
                  · (intro w hSw; (try dsimp only at hSw); go_simp); all_goals (with_reducible rfl)
                  try simp only [Act.put, List.setIfInBounds_toArray, List.set_cons_zero, List.set_cons_succ]
                  with_reducible refine quiet_take (v := .bool true) ?_ ?_ ?_
                  · rfl
                  · (intro w hSw; go_simp; first | done | omega | (simp; omega))
                  try simp only [Act.put, List.setIfInBounds_toArray, List.set_cons_zero, List.set_cons_succ]
                  with_reducible refine quiet_take (v := ?_) ?_ ?_ ?_
                  rotate_left
                  · rfl
                  · (intro w hSw; (try dsimp only at hSw); go_simp); all_goals (with_reducible rfl)
                  try simp only [Act.put, List.setIfInBounds_toArray, List.set_cons_zero, List.set_cons_succ]
                  with_reducible refine quiet_take (v := ?_) ?_ ?_ ?_
                  rotate_left
                  · rfl
                  · (intro w hSw; (try dsimp only at hSw); go_simp); all_goals (with_reducible rfl)
                  try simp only [Act.put, List.setIfInBounds_toArray, List.set_cons_zero, List.set_cons_succ]
                  with_reducible refine quiet_take (v := ?_) ?_ ?_ ?_
                  rotate_left
                  · rfl
                  · (intro w hSw; (try dsimp only at hSw); go_simp); all_goals (with_reducible rfl)
                  try simp only [Act.put, List.setIfInBounds_toArray, List.set_cons_zero, List.set_cons_succ]
                  with_reducible refine quiet_take (v := ?_) ?_ ?_ ?_
                  rotate_left
                  · rfl
                  · (intro w hSw; (try dsimp only at hSw); go_simp); all_goals (with_reducible rfl)
                  try simp only [Act.put, List.setIfInBounds_toArray, List.set_cons_zero, List.set_cons_succ]
                  with_reducible refine quiet_take (v := ?_) ?_ ?_ ?_
                  rotate_left
                  · rfl
                  · (intro w hSw; (try dsimp only at hSw); go_simp); all_goals (with_reducible rfl)
                  try simp only [Act.put, List.setIfInBounds_toArray, List.set_cons_zero, List.set_cons_succ]
                  with_reducible refine quiet_take (v := ?_) ?_ ?_ ?_
                  rotate_left
                  · rfl
                  · (intro w hSw; (try dsimp only at hSw); go_simp); all_goals (with_reducible rfl)
                  try simp only [Act.put, List.setIfInBounds_toArray, List.set_cons_zero, List.set_cons_succ]
                  with_reducible refine quiet_take (v := ?_) ?_ ?_ ?_
                  rotate_left
                  · rfl
                  · (intro w hSw; (try dsimp only at hSw); go_simp); all_goals (with_reducible rfl)
                  try simp only [Act.put, List.setIfInBounds_toArray, List.set_cons_zero, List.set_cons_succ]
                  with_reducible refine quiet_take (v := ?_) ?_ ?_ ?_
                  rotate_left
                  · rfl
                  · (intro w hSw; (try dsimp only at hSw); go_simp); all_goals (with_reducible rfl)
                  try simp only [Act.put, List.setIfInBounds_toArray, List.set_cons_zero, List.set_cons_succ]
                  with_reducible refine quiet_take (v := ?_) ?_ ?_ ?_
                  rotate_left
                  · rfl
                  · (intro w hSw; (try dsimp only at hSw); go_simp); all_goals (with_reducible rfl)
                  try simp only [Act.put, List.setIfInBounds_toArray, List.set_cons_zero, List.set_cons_succ]
                  with_reducible refine quiet_take (v := ?_) ?_ ?_ ?_
                  rotate_left
                  · rfl
                  · (intro w hSw; (try dsimp only at hSw); go_simp); all_goals (with_reducible rfl)
                  try simp only [Act.put, List.setIfInBounds_toArray, List.set_cons_zero, List.set_cons_succ]
                  with_reducible refine quiet_call (f := 90) (args := ?_) (v := .bool true) ?_ ?_ ?_ ?_
                  rotate_left
                  · rfl
                  · (intro w hSw; (try dsimp only at hSw); go_simp); all_goals (with_reducible rfl)
                  · (intro W hSw); refine (cB W).mono ?_; rintro e W' ⟨rfl, hk⟩; exact ⟨rfl, hpres.out W W' hSw hk⟩
                  try simp only [Act.put, List.setIfInBounds_toArray, List.set_cons_zero, List.set_cons_succ]
                  with_reducible refine quiet_take (v := ?_) ?_ ?_ ?_
                  rotate_left
                  · rfl
                  · (intro w hSw; (try dsimp only at hSw); go_simp); all_goals (with_reducible rfl)
                  try simp only [Act.put, List.setIfInBounds_toArray, List.set_cons_zero, List.set_cons_succ]
                  refine wpQuiet_nil ?_
                  intro W hSw
                  refine wpAny_of_held (S := fun _ => True) _ _ _ _ ?_
                  refine wpAnyH_ready (rs := [14]) (by kernel_rfl) (by simp) ?_
                  refine AllReadyH.cons (o := _) rfl (fun K hK => ?_) ?_
                  · -- pick
                    go_simp
                    refine hK.out _ _ trivial (fun _ => ?_)
                    clear hK K
                    try simp only [List.setIfInBounds_toArray, List.set_cons_zero, List.set_cons_succ]
                    refine wpAnyH_done (by kernel_rfl) ?_ _
                    have hb10 := hb9.trans (hSw.2.2.mono hb9.size)
                    go_wp2_with fail
                    go_roundw
                    case rel => exact ⟨j + 1 + 1, by omega, by go_num, HR2, hb10⟩
                    case measure => simp [numOf'] <;> omega
                  exact AllReadyH.nil
                | false =>
                  have HR2 := Lib.hid (HE5.out.trans (if_pos rfl))
                  clear HE5
                  refine wp_region_quiet_to (C := (fun W => ((W.cell? ⟨b, off + (j + 1) * 8, none⟩ = some (.string (bA (g (j + 1)).nm)) ∧ W.cell? ⟨b, off + (j + 1) * 8 + 1, none⟩ = some (.int .i64 (g (j + 1)).ver) ∧ W.cell? ⟨b, off + (j + 1) * 8 + 2, none⟩ = some (.int .i64 (g (j + 1)).day) ∧ W.cell? ⟨b, off + (j + 1) * 8 + 3, none⟩ = some (.string (bA (g (j + 1)).t0)) ∧ W.cell? ⟨b, off + (j + 1) * 8 + 4, none⟩ = some (.string (bA (g (j + 1)).t1)) ∧ W.cell? ⟨b, off + (j + 1) * 8 + 5, none⟩ = some (.int .i64 (g (j + 1)).s0) ∧ W.cell? ⟨b, off + (j + 1) * 8 + 6, none⟩ = some (.int .i64 (g (j + 1)).s1) ∧ W.cell? ⟨b, off + (j + 1) * 8 + 7, none⟩ = some (.slice a1 (g (j + 1)).k kc)) ∧ (W.cell? ⟨b, off + j * 8, none⟩ = some (.string (bA (g j).nm)) ∧ W.cell? ⟨b, off + j * 8 + 1, none⟩ = some (.int .i64 (g j).ver) ∧ W.cell? ⟨b, off + j * 8 + 2, none⟩ = some (.int .i64 (g j).day) ∧ W.cell? ⟨b, off + j * 8 + 3, none⟩ = some (.string (bA (g j).t0)) ∧ W.cell? ⟨b, off + j * 8 + 4, none⟩ = some (.string (bA (g j).t1)) ∧ W.cell? ⟨b, off + j * 8 + 5, none⟩ = some (.int .i64 (g j).s0) ∧ W.cell? ⟨b, off + j * 8 + 6, none⟩ = some (.int .i64 (g j).s1) ∧ W.cell? ⟨b, off + j * 8 + 7, none⟩ = some (.slice a2 (g j).k kc2)) ∧ Below W9.heap.size W9 W))) 14 1 #[true, true, true, true, true, true, true, true, true, true, true, true, true, true, false] (by kernel_rfl) (by kernel_rfl) ?_ ?_
                  · (try dsimp only)
                    exact ⟨⟨p0, p1, p2, p3, p4, p5, p6, p7⟩, ⟨q0, q1, q2, q3, q4, q5, q6, q7⟩, hdr⟩
                  simp only [List.take_succ_cons, List.take_zero]
                  with_reducible refine quiet_take (v := ?_) ?_ ?_ ?_
                  rotate_left
                  · rfl
                  · (intro w hSw; (try dsimp only at hSw); go_simp); all_goals (with_reducible rfl)
                  try simp only [Act.put, List.setIfInBounds_toArray, List.set_cons_zero, List.set_cons_succ]
                  with_reducible refine quiet_take (v := .bool true) ?_ ?_ ?_
                  · rfl
                  · (intro w hSw; go_simp; first | done | omega | (simp; omega))
                  try simp only [Act.put, List.setIfInBounds_toArray, List.set_cons_zero, List.set_cons_succ]
                  with_reducible refine quiet_take (v := ?_) ?_ ?_ ?_
                  rotate_left
                  · rfl
                  · (intro w hSw; (try dsimp only at hSw); go_simp); all_goals (with_reducible rfl)
                  try simp only [Act.put, List.setIfInBounds_toArray, List.set_cons_zero, List.set_cons_succ]
                  with_reducible refine quiet_take (v := ?_) ?_ ?_ ?_
                  rotate_left
                  · rfl
                  · (intro w hSw; (try dsimp only at hSw); go_simp); all_goals (with_reducible rfl)
                  try simp only [Act.put, List.setIfInBounds_toArray, List.set_cons_zero, List.set_cons_succ]
                  with_reducible refine quiet_take (v := ?_) ?_ ?_ ?_
                  rotate_left
                  · rfl
                  · (intro w hSw; (try dsimp only at hSw); go_simp); all_goals (with_reducible rfl)
                  try simp only [Act.put, List.setIfInBounds_toArray, List.set_cons_zero, List.set_cons_succ]
                  with_reducible refine quiet_take (v := ?_) ?_ ?_ ?_
                  rotate_left
                  · rfl
                  · (intro w hSw; (try dsimp only at hSw); go_simp); all_goals (with_reducible rfl)
                  try simp only [Act.put, List.setIfInBounds_toArray, List.set_cons_zero, List.set_cons_succ]
                  with_reducible refine quiet_take (v := ?_) ?_ ?_ ?_
                  rotate_left
                  · rfl
                  · (intro w hSw; (try dsimp only at hSw); go_simp); all_goals (with_reducible rfl)
                  try simp only [Act.put, List.setIfInBounds_toArray, List.set_cons_zero, List.set_cons_succ]
                  with_reducible refine quiet_take (v := ?_) ?_ ?_ ?_
                  rotate_left
                  · rfl
                  · (intro w hSw; (try dsimp only at hSw); go_simp); all_goals (with_reducible rfl)
                  try simp only [Act.put, List.setIfInBounds_toArray, List.set_cons_zero, List.set_cons_succ]
                  with_reducible refine quiet_take (v := ?_) ?_ ?_ ?_
                  rotate_left
                  · rfl
                  · (intro w hSw; (try dsimp only at hSw); go_simp); all_goals (with_reducible rfl)
                  try simp only [Act.put, List.setIfInBounds_toArray, List.set_cons_zero, List.set_cons_succ]
                  with_reducible refine quiet_take (v := ?_) ?_ ?_ ?_
                  rotate_left
                  · rfl
                  · (intro w hSw; (try dsimp only at hSw); go_simp); all_goals (with_reducible rfl)
                  try simp only [Act.put, List.setIfInBounds_toArray, List.set_cons_zero, List.set_cons_succ]
                  with_reducible refine quiet_take (v := ?_) ?_ ?_ ?_
                  rotate_left
                  · rfl
                  · (intro w hSw; (try dsimp only at hSw); go_simp); all_goals (with_reducible rfl)
                  try simp only [Act.put, List.setIfInBounds_toArray, List.set_cons_zero, List.set_cons_succ]
                  with_reducible refine quiet_take (v := ?_) ?_ ?_ ?_
                  rotate_left
                  · rfl
                  · (intro w hSw; (try dsimp only at hSw); go_simp); all_goals (with_reducible rfl)
                  try simp only [Act.put, List.setIfInBounds_toArray, List.set_cons_zero, List.set_cons_succ]
                  with_reducible refine quiet_call (f := 90) (args := ?_) (v := .bool false) ?_ ?_ ?_ ?_
                  rotate_left
                  · rfl
                  · (intro w hSw; (try dsimp only at hSw); go_simp); all_goals (with_reducible rfl)
                  · (intro W hSw); refine (cB W).mono ?_; rintro e W' ⟨rfl, hk⟩; exact ⟨rfl, hpres.out W W' hSw hk⟩
                  try simp only [Act.put, List.setIfInBounds_toArray, List.set_cons_zero, List.set_cons_succ]
                  with_reducible refine quiet_take (v := ?_) ?_ ?_ ?_
                  rotate_left
                  · rfl
                  · (intro w hSw; (try dsimp only at hSw); go_simp); all_goals (with_reducible rfl)
                  try simp only [Act.put, List.setIfInBounds_toArray, List.set_cons_zero, List.set_cons_succ]
                  refine wpQuiet_nil ?_
                  intro W hSw
                  refine wpAny_of_held (S := fun _ => True) _ _ _ _ ?_
                  refine wpAnyH_ready (rs := [14]) (by kernel_rfl) (by simp) ?_
                  refine AllReadyH.cons (o := _) rfl (fun K hK => ?_) ?_
                  · -- pick
                    go_simp
                    refine hK.out _ _ trivial (fun _ => ?_)
                    clear hK K
                    try simp only [List.setIfInBounds_toArray, List.set_cons_zero, List.set_cons_succ]
                    refine wpAnyH_done (by kernel_rfl) ?_ _
                    have hb10 := hb9.trans (hSw.2.2.mono hb9.size)
                    go_wp2_with fail
                    go_ret
                    exact ⟨by rw [HR2.out]; try rfl, hb10⟩
                  exact AllReadyH.nil
            exact AllReadyH.nil
        · have hE0' : (E != 0) = true := by simpa using hE0
          have HR2 := Lib.hid (HE2.out.trans (if_neg hE0))
          clear HE2
          go_wp2_with fail
          go_ret
          exact ⟨by rw [HR2.out]; try rfl, hb6⟩
      · obtain rfl : i = n := by omega
        have hE2 : Hid (R = 0) := Lib.hid (by rw [hE.out, Nat.sub_self, bookK])
        clear hE
        go_wp2_with fail
        go_ret
        exact ⟨by rw [hE2.out]; try rfl, hb⟩
end Go.Proofs.Tryz
