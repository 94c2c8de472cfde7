/- The season's leaders: by the kit's walk. -/
import Derived.Test.YtbfonnoebbjenaaGreatDoorAxLk
namespace Go.Proofs.Tryz
open Go Go.Am Go.RowKit Go.Op
set_option maxRecDepth 100000

theorem store_at {w : World} {b o : Nat} {u v : Value} (h1 : v.oneCell' = true) (hc : w.cell? ⟨b, o, none⟩ = some u) (hf : w.frozen? ⟨b, o, none⟩ = false) : (store ⟨b, o, none⟩ v).run prog w = .ok () (w.setCell ⟨b, o, none⟩ v) := by
  rw [run_store prog w _ v _ h1]
  simp [hc, hf]
theorem newAt {B : Nat} {w0 W : World} (_h : Below B w0 W) (cs : Array Value) (e : TypeId) : At (W.alloc (.cells cs e)) W.heap.size cs e := at_new _ _ _
set_option maxHeartbeats 12800000 in
theorem leaders_w {w : World} (hlaid : Laid w) {v : Value} {t : List Tot} (h : IsTots w v t) (hn : t.length ≤ 10000) (num den : List UInt8) (least n : Int) :
    Calls prog 29 #[v, .string (bA num), .string (bA den), .int .i64 least, .int .i64 n] w fun e w' => (∃ u x, e = .returned (.tuple #[u, .int .i64 x]) ∧ LdAns w' w.heap.size 63 u x t num den least n) ∧ Below w.heap.size w w' := by
  have HV := Lib.hid h
  have HL := Lib.hid hlaid
  obtain ⟨va, vc, rfl, hkc⟩ := h.slice
  have hx8 := at_new w #[.int .i64 least] 3
  have hb1 : Below w.heap.size w (w.alloc (.cells #[.int .i64 least] 3)) := (Below.refl _ _).alloc (Nat.le_refl _) _
  obtain ⟨W1, hW1⟩ : ∃ W1, w.alloc (.cells #[.int .i64 least] 3) = W1 := ⟨_, rfl⟩
  rw [hW1] at hx8 hb1
  have c1 := kindOf_w (hlaid.below hb1) num
  have c2 : ∀ W, Below w.heap.size w W → Calls prog 93 _ W _ := fun W hb => kindOf_w (hlaid.below hb) den
  have hEE : Hid (∃ E1 E2 E3, totsE t = E1 ∧ inE least 0 999999999 = E2 ∧ inE n 1 256 = E3) := Lib.hid ⟨_, _, _, rfl, rfl, rfl⟩
  have HK1 := Lib.hid (@kdI_of num)
  have HK2 := Lib.hid (@kdI_of den)
  have HE : Hid (ldK t num den least n = fstE [totsE t, kindE num, kindE den, inE least 0 999999999, inE n 1 256]) := Lib.hid rfl
  obtain ⟨kn, hkn⟩ : ∃ x, kindN num = x := ⟨_, rfl⟩
  obtain ⟨kd, hkd⟩ : ∃ x, kindN den = x := ⟨_, rfl⟩
  obtain ⟨en, hen⟩ : ∃ x, kindE num = x := ⟨_, rfl⟩
  obtain ⟨ed, hed⟩ : ∃ x, kindE den = x := ⟨_, rfl⟩
  rw [hkn, hen] at c1 HK1
  rw [hkd, hed] at HK2
  simp only [hkd, hed] at c2
  rw [hen, hed] at HE
  clear hkn hkd hen hed h hlaid
  go_enter func29, ntmps29
  go_wp2_with fail
  try rw [hW1]
  clear hW1
  go_at_call 93
  refine c1.mono ?_
  rintro e W2 ⟨rfl, hb2⟩
  clear c1
  have hx8b := hx8.below hb2 hx8.lt
  have hB2 := hb1.trans (hb2.mono hb1.size)
  have hx12 := at_new W2 #[.int .i64 kn] 3
  have hal : Below W2.heap.size W2 (W2.alloc (.cells #[.int .i64 kn] 3)) := (Below.refl _ _).alloc (Nat.le_refl _) _
  have hx8c := hx8b.below hal hx8b.lt
  have hB3 := hB2.trans (hal.mono hB2.size)
  have hw2 : w.heap.size < W2.heap.size := hx8b.lt
  have hs2 : W2.heap.size < (W2.alloc (.cells #[.int .i64 kn] 3)).heap.size := hx12.lt
  obtain ⟨W3, hW3⟩ : ∃ W3, W2.alloc (.cells #[.int .i64 kn] 3) = W3 := ⟨_, rfl⟩
  rw [hW3] at hx12 hx8c hB3 hs2
  clear hal hb1 hb2 hx8 hx8b hB2
  go_wp2_with fail
  try rw [hW3]
  clear hW3
  go_at_call 93
  refine (c2 W3 hB3).mono ?_
  rintro e W4 ⟨rfl, hb4⟩
  clear c2
  have hx8d := hx8c.below hb4 hx8c.lt
  have hx12d := hx12.below hb4 hx12.lt
  have hB4 := hB3.trans (hb4.mono hB3.size)
  have hx14 := at_new W4 #[.int .i64 kd] 3
  have hal : Below W4.heap.size W4 (W4.alloc (.cells #[.int .i64 kd] 3)) := (Below.refl _ _).alloc (Nat.le_refl _) _
  have hx8e := hx8d.below hal hx8d.lt
  have hx12e := hx12d.below hal hx12d.lt
  have hB5 := hB4.trans (hal.mono hB4.size)
  have hs4 : W4.heap.size < (W4.alloc (.cells #[.int .i64 kd] 3)).heap.size := hx14.lt
  have hs24 : W2.heap.size < W4.heap.size := hx12d.lt
  obtain ⟨W5, hW5⟩ : ∃ W5, W4.alloc (.cells #[.int .i64 kd] 3) = W5 := ⟨_, rfl⟩
  rw [hW5] at hx14 hx8e hx12e hB5 hs4
  obtain ⟨a, ha⟩ : ∃ a, W2.heap.size = a := ⟨_, rfl⟩
  obtain ⟨b, hbb⟩ : ∃ a, W4.heap.size = a := ⟨_, rfl⟩
  rw [ha] at hx12e hw2 hs24
  rw [hbb] at hx14 hs4 hs24
  clear hal hb4 hx8c hx12 hx8d hx12d hB4 hs2 hB3
  obtain ⟨E1, E2, E3, hE1, hE2, hE3⟩ := hEE.out
  have c72 : ∀ W, Below W5.heap.size W5 W → Calls prog 72 #[.slice va t.length vc] W fun e w' => e = .returned (.int .i64 E1) ∧ Below W.heap.size W w' := fun W hb => by rw [← hE1]; exact checkTots_w (HV.out.below (hB5.trans (hb.mono hB5.size))) hn
  have cw1 : ∀ W, Calls prog 94 #[.int .i64 least, .int .i64 0, .int .i64 999999999] W fun e w' => e = .returned (.int .i64 E2) ∧ w' = W := fun W => by rw [← hE2]; exact within_w least 0 999999999 W
  have cw2 : ∀ W, Calls prog 94 #[.int .i64 n, .int .i64 1, .int .i64 256] W fun e w' => e = .returned (.int .i64 E3) ∧ w' = W := fun W => by rw [← hE3]; exact within_w n 1 256 W
  have HZ : Hid (totsE t = E1 ∧ inE least 0 999999999 = E2 ∧ inE n 1 256 = E3) := Lib.hid ⟨hE1, hE2, hE3⟩
  have HEK := Lib.hid (show ldK t num den least n = fstE [E1, en, ed, E2, E3] by rw [HE.out, hE1, hE2, hE3])
  have cF := first5_w E1 en ed E2 E3
  obtain ⟨E, hE⟩ : ∃ E, fstE [E1, en, ed, E2, E3] = E := ⟨_, rfl⟩
  rw [hE] at cF HEK
  have HFE := Lib.hid hE
  have hdr : Below W5.heap.size W5 W5.drew := (Below.refl _ _).drew
  clear hE1 hE2 hE3 hE hEE HE
  go_wp2_with fail
  try rw [hW5]
  clear hW5
  refine wp_region_quiet_to (C := (fun W => Below W5.heap.size W5 W)) 8 3 #[true, true, true, true, true, true, true, true, false, false, false] (by kernel_rfl) (by kernel_rfl) ?_ ?_
  · (try dsimp only)
    exact hdr
  simp only [List.take_succ_cons, List.take_zero]
  with_reducible refine quiet_take (v := ?_) ?_ ?_ ?_
  rotate_left
  · rfl
  · (intro w hSw; (try dsimp only at hSw); go_simp); all_goals (with_reducible rfl)
  try simp only [Act.put, List.setIfInBounds_toArray, List.set_cons_zero, List.set_cons_succ]
  with_reducible refine quiet_call (f := 72) (args := ?_) (v := .int .i64 E1) ?_ ?_ ?_ ?_
  rotate_left
  · rfl
  · (intro w hSw; (try dsimp only at hSw); go_simp); all_goals (with_reducible rfl)
  · (intro W hSw); exact (c72 W hSw).mono fun e w' ⟨h1, h2⟩ => ⟨h1, hSw.trans (h2.mono hSw.size)⟩
  try simp only [Act.put, List.setIfInBounds_toArray, List.set_cons_zero, List.set_cons_succ]
  with_reducible refine quiet_take (v := ?_) ?_ ?_ ?_
  rotate_left
  · rfl
  · (intro w hSw; (try dsimp only at hSw); go_simp); all_goals (with_reducible rfl)
  try simp only [Act.put, List.setIfInBounds_toArray, List.set_cons_zero, List.set_cons_succ]
  with_reducible refine quiet_take (v := ?_) ?_ ?_ ?_
  rotate_left
  · rfl
  · (intro w hSw; (try dsimp only at hSw); go_simp); all_goals (with_reducible rfl)
  try simp only [Act.put, List.setIfInBounds_toArray, List.set_cons_zero, List.set_cons_succ]
  with_reducible refine quiet_take (v := ?_) ?_ ?_ ?_
  rotate_left
  · rfl
  · (intro w hSw; have p8 := (box1 (hx8e.below hSw hx8e.lt)).1; (try dsimp only at hSw); go_simp); all_goals (with_reducible rfl)
  try simp only [Act.put, List.setIfInBounds_toArray, List.set_cons_zero, List.set_cons_succ]
  with_reducible refine quiet_call (f := 94) (args := ?_) (v := .int .i64 E2) ?_ ?_ ?_ ?_
  rotate_left
  · rfl
  · (intro w hSw; (try dsimp only at hSw); go_simp); all_goals (with_reducible rfl)
  · (intro W hSw); exact (cw1 W).mono fun e w' ⟨h1, h2⟩ => ⟨h1, by rw [h2]; exact hSw⟩
  try simp only [Act.put, List.setIfInBounds_toArray, List.set_cons_zero, List.set_cons_succ]
  with_reducible refine quiet_take (v := ?_) ?_ ?_ ?_
  rotate_left
  · rfl
  · (intro w hSw; (try dsimp only at hSw); go_simp); all_goals (with_reducible rfl)
  try simp only [Act.put, List.setIfInBounds_toArray, List.set_cons_zero, List.set_cons_succ]
  with_reducible refine quiet_call (f := 94) (args := ?_) (v := .int .i64 E3) ?_ ?_ ?_ ?_
  rotate_left
  · rfl
  · (intro w hSw; (try dsimp only at hSw); go_simp); all_goals (with_reducible rfl)
  · (intro W hSw); exact (cw2 W).mono fun e w' ⟨h1, h2⟩ => ⟨h1, by rw [h2]; exact hSw⟩
  try simp only [Act.put, List.setIfInBounds_toArray, List.set_cons_zero, List.set_cons_succ]
  refine wpQuiet_nil ?_
  intro W hSw
  refine wpAny_of_held (S := fun _ => True) _ _ _ _ ?_
  refine wpAnyH_ready (rs := [8]) (by kernel_rfl) (by simp) ?_
  refine AllReadyH.cons (o := _) rfl (fun K hK => ?_) ?_
  · -- buildSlice
    go_simp
    refine hK.out _ _ trivial (fun _ => ?_)
    clear hK K
    try simp only [List.setIfInBounds_toArray, List.set_cons_zero, List.set_cons_succ]
    refine wpAnyH_ready (rs := [9]) (by kernel_rfl) (by simp) ?_
    refine AllReadyH.cons (o := _) rfl (fun K hK => ?_) ?_
    · -- 88
      go_simp
      refine (cF _ _ (by simp) (by simp) (by simp) (by simp) (by simp)).mono ?_; rintro e w' ⟨rfl, rfl⟩
      refine hK.out _ _ trivial (fun _ => ?_)
      clear hK K
      try simp only [List.setIfInBounds_toArray, List.set_cons_zero, List.set_cons_succ]
      refine wpAnyH_ready (rs := [10]) (by kernel_rfl) (by simp) ?_
      refine AllReadyH.cons (o := _) rfl (fun K hK => ?_) ?_
      · -- assign
        go_simp
        refine hK.out _ _ trivial (fun _ => ?_)
        clear hK K
        try simp only [List.setIfInBounds_toArray, List.set_cons_zero, List.set_cons_succ]
        refine wpAnyH_done (by kernel_rfl) ?_ _
        have hb6 := hSw.alloc hSw.size (.cells #[.int .i64 E1, .int .i64 en, .int .i64 ed, .int .i64 E2, .int .i64 E3] 26)
        generalize W.alloc (.cells #[.int .i64 E1, .int .i64 en, .int .i64 ed, .int .i64 E2, .int .i64 E3] 26) = W6 at hb6 ⊢
        have hB6 := hB5.trans (hb6.mono hB5.size)
        have hx8 := hx8e.below hb6 hx8e.lt
        have hx12 := hx12e.below hb6 hx12e.lt
        have hx14 := hx14.below hb6 hx14.lt
        clear hSw hdr hx8e hx12e c72 cw1 cw2 hB5
        by_cases hE0 : E = 0
        · obtain ⟨z1, z2, z3, z4, z5⟩ := fst5_zero (show fstE [E1, en, ed, E2, E3] = 0 by rw [HFE.out, hE0])
          obtain ⟨rfl, hi⟩ := HK1.out z2
          obtain ⟨rfl, hk⟩ := HK2.out z3
          obtain ⟨i, hii⟩ : ∃ i, kdI num = i := ⟨_, rfl⟩
          obtain ⟨k, hkk⟩ : ∃ i, kdI den = i := ⟨_, rfl⟩
          rw [hii] at hi hx12
          rw [hkk] at hk hx14
          have HI := Lib.hid (And.intro hii hkk)
          have ht0 : totsE t = 0 := by rw [HZ.out.1, z1]
          have hn1 : inE n 1 256 = 0 := by rw [HZ.out.2.2, z5]
          have HT0 := Lib.hid ht0
          have hnn : 1 ≤ n ∧ n ≤ 256 := by
            unfold inE at hn1
            split at hn1
            · cases hn1
            · omega
          have hEq0 : Hid (ldE t num den least n = if t.any (negT i k) = true then 3 else 0) := Lib.hid (by unfold ldE; rw [HEK.out, hE0, if_pos rfl, hii, hkk])
          subst hE0
          clear z1 z2 z3 z4 z5 hii hkk ht0 hn1 HK1 HK2 HEK HFE HZ
          have x12 := (box1 hx12).1
          have x14 := (box1 hx14).1
          have c95 := containsF_w (HV.out.below hB6) hn 96 #[.pointer (some ⟨a, 0, none⟩), .pointer (some ⟨b, 0, none⟩)] (negT i k) (enters_of func96 (by kernel_rfl) rfl) (fun x W hb => clo96 x i k hi hk W ((hb.cell (cell_under x12)).trans x12) ((hb.cell (cell_under x14)).trans x14))
          obtain ⟨q, hq⟩ : ∃ q, t.any (negT i k) = q := ⟨_, rfl⟩
          rw [hq] at c95 hEq0
          have HQ := Lib.hid hq
          clear x12 x14 hq
          go_wp2_with fail
          go_at_call 95
          refine c95.mono ?_
          rintro e W7 ⟨rfl, hb7⟩
          clear c95
          have hB7 := hB6.trans (hb7.mono hB6.size)
          have hx8 := hx8.below hb7 hx8.lt
          have hx12 := hx12.below hb7 hx12.lt
          have hx14 := hx14.below hb7 hx14.lt
          clear hb7 hB6 hb6
          cases q with
          | true =>
            have HA : Hid (LdAns W7 w.heap.size 63 (.slice none 0 0) 3 t num den least n) := Lib.hid ⟨by rw [hEq0.out, if_pos rfl], fun h => absurd h (by decide), fun _ => rfl⟩
            clear hx8 hx12 hx14
            go_wp2_with fail
            go_ret2
            exact ⟨⟨_, _, rfl, HA.out⟩, hB7⟩
          | false =>
            have hab : a < W7.heap.size ∧ b < W7.heap.size := ⟨hx12.lt, hx14.lt⟩
            have hpos := Lib.hid (ldF_pos (least := least) hk hi HT0.out HQ.out)
            have HE0 : Hid (ldE t num den least n = 0) := Lib.hid (by rw [hEq0.out, if_neg (by decide)])
            have c98 := cloneT_w (HV.out.below hB7) hn
            clear hEq0 HQ
            go_wp2_with fail
            go_at_call 98
            refine c98.mono ?_
            rintro e W8 ⟨⟨u8, rfl, hu8⟩, hb8⟩
            clear c98
            have x8 := (box1 hx8).1
            have x14 := (box1 hx14).1
            have c97 := deleteF_w hu8 hb8 (Nat.le_refl _) hb8.size hn 99 #[.pointer (some ⟨b, 0, none⟩), .pointer (some ⟨w.heap.size, 0, none⟩)] (fun x => decide (x.c k < max least 1)) (enters_of func99 (by kernel_rfl) rfl) (fun x W hb => clo99 x k least hk W ((hb.cell (cell_under x14)).trans x14) ((hb.cell (cell_under x8)).trans x8))
            clear x8 x14 hu8 hb8
            go_wp2_with fail
            go_at_call 97
            refine c97.mono ?_
            rintro e W9 ⟨⟨u9, rfl, hu9⟩, hb9⟩
            clear c97
            have hB9 := hB7.trans (hb9.mono hB7.size)
            have hx8 := hx8.below hb9 hx8.lt
            have hx12 := hx12.below hb9 hx12.lt
            have hx14 := hx14.below hb9 hx14.lt
            have hFl : (ldF k least t).length ≤ 10000 := Nat.le_trans (List.length_filter_le _ _) hn
            have hu9 : OwnTots W9 W7.heap.size 66 u9 (ldF k least t) := hu9
            have hx18 : At ((W9.alloc (.cells #[.nilFunc] 166)).setCell ⟨W9.heap.size, 0, none⟩ (.func (.func 100) #[] #[.pointer (some ⟨a, 0, none⟩), .pointer (some ⟨b, 0, none⟩)])) W9.heap.size #[.func (.func 100) #[] #[.pointer (some ⟨a, 0, none⟩), .pointer (some ⟨b, 0, none⟩)]] 166 := (at_new W9 #[.nilFunc] 166).set 0 (.func (.func 100) #[] #[.pointer (some ⟨a, 0, none⟩), .pointer (some ⟨b, 0, none⟩)])
            have hst := store_at (v := .func (.func 100) #[] #[.pointer (some ⟨a, 0, none⟩), .pointer (some ⟨b, 0, none⟩)]) rfl (box1 (at_new W9 #[.nilFunc] 166)).1 (box1 (at_new W9 #[.nilFunc] 166)).2
            have hal : Below W9.heap.size W9 ((W9.alloc (.cells #[.nilFunc] 166)).setCell ⟨W9.heap.size, 0, none⟩ (.func (.func 100) #[] #[.pointer (some ⟨a, 0, none⟩), .pointer (some ⟨b, 0, none⟩)])) := ((Below.refl _ _).alloc (Nat.le_refl _) _).setCell (p := ⟨W9.heap.size, 0, none⟩) (Nat.le_refl _) _
            have hu10 := hu9.below hal
            have hB10 := hB9.trans (hal.mono hB9.size)
            have hx12 := hx12.below hal hx12.lt
            have hx14 := hx14.below hal hx14.lt
            have hlt9 : ∀ q, u9.ownBlock = some q → W7.heap.size ≤ q ∧ q < W9.heap.size := fun q hq => OwnRow.lt hu9 q hq
            have hw79 : W7.heap.size ≤ W9.heap.size := hb9.size
            have h77 := hB7.size
            obtain ⟨W10, hW10⟩ : ∃ W10, (W9.alloc (.cells #[.nilFunc] 166)).setCell ⟨W9.heap.size, 0, none⟩ (.func (.func 100) #[] #[.pointer (some ⟨a, 0, none⟩), .pointer (some ⟨b, 0, none⟩)]) = W10 := ⟨_, rfl⟩
            rw [hW10] at hx18 hu10 hB10 hx12 hx14 hst
            obtain ⟨c, hcc⟩ : ∃ c, W9.heap.size = c := ⟨_, rfl⟩
            rw [hcc] at hx18 hlt9 hw79 hst
            have hne : ∀ q, u9.ownBlock = some q → a ≠ q ∧ b ≠ q ∧ c ≠ q := fun q hq => by have := hlt9 q hq; omega
            have c102 := sortLd_w hi hk hu10 hFl hpos.out (List.Pairwise.filter _ (totsE_zero HT0.out).2.1.names) (box1 hx12).1 (box1 hx14).1 (box1 hx18).1 hne
            clear hal hb9 hu9 hu10 hx8 hB9 hFl
            go_wp2_with fail
            clear hW10 hst
            go_at_call 102
            refine c102.mono ?_
            rintro e W11 ⟨rfl, S, hSp, hSs, hu11, hk11, hat⟩
            clear c102
            have hx12 := hat _ _ _ (fun e => (hne a e).1 rfl) hx12
            have hx14 := hat _ _ _ (fun e => (hne b e).2.1 rfl) hx14
            have hx18 := hat _ _ _ (fun e => (hne c e).2.2 rfl) hx18
            have hB11 := hk11 w hB10 h77
            have hSR := hu11.is
            obtain ⟨sa, sc, rfl, hsk⟩ := hSR.slice
            have hSl : S.length ≤ 10000 := by rw [hSp.length_eq]; exact Nat.le_trans (List.length_filter_le _ _) hn
            have HSP := Lib.hid (show ∀ x ∈ S, PosB i k x from fun x hx => hpos.out x (hSp.subset hx))
            obtain ⟨N, hN⟩ : ∃ N, S.length = N := ⟨_, rfl⟩
            have HN := Lib.hid hN
            have HS := Lib.hid (And.intro hSp hSs)
            rw [hN] at hSR hsk hSl ⊢
            have HSR := Lib.hid hSR
            have hrow0 : OwnRow W11 W11.heap.size 63 4 (.slice none 0 0) ((outL i k n.toNat S 0).map (ldC i k)) := OwnRow.start _ _ _ _
            have hP0 : Hid (∀ j, j < 0 → plP i k S j ≤ n.toNat) := Lib.hid fun j hj => absurd hj (Nat.not_lt_zero _)
            have hsz11 : w.heap.size ≤ W11.heap.size := hB11.size
            clear hk11 hat hu11 hlt9 hw79 h77 hne hSp hSs hN hB10 hSR hpos hB7 hab
            go_wp2_with fail
            have hfin : Hid (∀ (W : World) (u : Value) (m : Nat), outL i k n.toNat S m = outL i k n.toNat S N → OwnRow W W11.heap.size 63 4 u ((outL i k n.toNat S m).map (ldC i k)) → LdAns W w.heap.size 63 u 0 t num den least n) := Lib.hid fun W u m he hr => ⟨HE0.out.symm, fun _ => by rw [HI.out.1, HI.out.2]; exact ⟨S, HS.out.1, HS.out.2, by rw [HN.out, ← he]; exact OwnRow.mono hr hsz11⟩, fun h => absurd rfl h⟩
            obtain ⟨iT, TT⟩ := elLd
            have HTL := Lib.hid TT
            clear TT
            go_loopw [19, 60] (fun s19 s60 wr => ∃ j : Nat, j ≤ N ∧ s60 = .int .i64 j ∧ Hid (∀ r, r < j → plP i k S r ≤ n.toNat) ∧ OwnRow wr W11.heap.size 63 4 s19 ((outL i k n.toNat S j).map (ldC i k)) ∧ Below W11.heap.size W11 wr) (fun _ s60 _ => N - (numOf' s60).toNat)
            case atStart => exact ⟨0, Nat.zero_le _, rfl, hP0, hrow0, Below.refl _ _⟩
            case round =>
              clear hP0 hrow0
              obtain ⟨j, hj, rfl, hP, hrow, hb⟩ := hrel
              have hBr := hB11.trans (hb.mono hB11.size)
              by_cases hjN : j < N
              · obtain ⟨x, hx⟩ : ∃ x, atL S j = x := ⟨_, rfl⟩
                have hSj : S[j]? = some x := by rw [← hx]; exact atL_get (by rw [HN.out]; exact hjN)
                have hjj : (j : Int) < (N : Int) := by omega
                have i1 : IntKind.wrap .i64 ((j : Int) + 1) = (j : Int) + 1 := by rw [IntWalk.i64_in _ (by omega)]
                obtain ⟨sb, so, sc2, es, -, -, -, -⟩ := HSR.out.at hSj
                simp only [HN.out, Value.slice.injEq, true_and] at es
                obtain ⟨rfl, rfl⟩ := es
                have HSW := Lib.hid (IsTots.below (show IsTots W11 (.slice (some ⟨sb, so, none⟩) S.length sc) S by rw [HN.out]; exact HSR.out) hb)
                have hx12 := hx12.below hb hx12.lt
                have hx14 := hx14.below hb hx14.lt
                have hx18 := hx18.below hb hx18.lt
                have hdr : Below wr.heap.size wr wr.drew := (Below.refl _ _).drew
                have hrf : Below wr.heap.size wr wr := Below.refl _ _
                have hfull := outL_full (S := S) (i := i) (k := k) (n := n.toNat) (m := j) hP.out
                have hlen : (outL i k n.toNat S j).length = j := by rw [hfull, List.length_map, List.length_range]
                have HO := Lib.hid (And.intro hfull hlen)
                clear hfull hlen
                go_wp2_with fail
                go_cut [80] (fun s wx => ∃ bq : Bool, s = .bool bq ∧ Hid ((bq = true → 0 < j ∧ plP i k S j = plP i k S (j - 1)) ∧ (bq = false → plP i k S j = j + 1)) ∧ Below wr.heap.size wr wx)
                case first =>
                  by_cases h0 : 0 < j
                  · obtain ⟨q, rfl⟩ : ∃ q, j = q + 1 := ⟨j - 1, by omega⟩
                    obtain ⟨y, hy⟩ : ∃ y, atL S q = y := ⟨_, rfl⟩
                    have hSq : S[q]? = some y := by rw [← hy]; exact atL_get (by rw [HN.out]; omega)
                    have hstep := plP_step (i := i) (k := k) (S := S) q
                    rw [hx, hy] at hstep
                    have hpx := HSP.out x (List.mem_of_getElem? hSj)
                    have hpy := HSP.out y (List.mem_of_getElem? hSq)
                    have c100 : ∀ W, Below wr.heap.size wr W → _ := fun W hb => clo100 y x i k hi hk W ((hb.cell (cell_under (box1 hx12).1)).trans (box1 hx12).1) ((hb.cell (cell_under (box1 hx14).1)).trans (box1 hx14).1) (mul_inI hpx.1 hpy.2) (mul_inI hpy.1 hpx.2)
                    obtain ⟨R, hR⟩ : ∃ R, cmpI (x.c i * y.c k) (y.c i * x.c k) = R := ⟨_, rfl⟩
                    rw [hR] at c100 hstep
                    have HST := Lib.hid hstep
                    have i5 : IntKind.i64.wrap (((q + 1 : Nat) : Int) - 1) = (q : Int) := by rw [IntWalk.i64_in _ (by omega)]; omega
                    have i6 : IntKind.i64.wrap ((q : Int) + 1 - 1) = (q : Int) := by rw [IntWalk.i64_in _ (by omega)]; omega
                    have i7 : IntKind.i64.wrap (q : Int) = (q : Int) := by rw [IntWalk.i64_in _ (by omega)]
                    have h0' : (0 : Int) < ((q + 1 : Nat) : Int) := by omega
                    have hq1 : (q : Int) < (N : Int) := by omega
                    have hq2 : (q : Int) + 1 < (N : Int) := by omega
                    have hq3 : 0 ≤ (q : Int) + 1 := by omega
                    have hq4 : (0 : Int) < (q : Int) + 1 := by omega
                    have hx18c := Lib.hid (box1 hx18).1
                    clear hstep hR hrow hpx hpy h0
                    go_wp2_with fail
                    refine wp_region_quiet_to (C := (fun W => Below wr.heap.size wr W)) 15 1 #[true, true, true, true, true, true, true, true, true, true, true, true, true, true, true, false] (by kernel_rfl) (by kernel_rfl) ?_ ?_
                    · (try dsimp only)
                      exact hdr
                    simp only [List.take_succ_cons, List.take_zero]
                    with_reducible refine quiet_take (v := ?_) ?_ ?_ ?_
                    rotate_left
                    · rfl
                    · (intro w hSw; (try dsimp only at hSw); go_simp); all_goals (with_reducible rfl)
                    try simp only [Act.put, List.setIfInBounds_toArray, List.set_cons_zero, List.set_cons_succ]
                    with_reducible refine quiet_take (v := ?_) ?_ ?_ ?_
                    rotate_left
                    · rfl
                    · (intro w hSw; (try dsimp only at hSw); go_simp); all_goals (with_reducible rfl)
                    try simp only [Act.put, List.setIfInBounds_toArray, List.set_cons_zero, List.set_cons_succ]
                    with_reducible refine quiet_take (v := ?_) ?_ ?_ ?_
                    rotate_left
                    · rfl
                    · (intro w hSw; (try dsimp only at hSw); go_simp); all_goals (with_reducible rfl)
                    try simp only [Act.put, List.setIfInBounds_toArray, List.set_cons_zero, List.set_cons_succ]
                    with_reducible refine quiet_take (v := ?_) ?_ ?_ ?_
                    rotate_left
                    · rfl
                    · (intro w hSw; have p18 := (hSw.cell (cell_under hx18c.out)).trans hx18c.out; (try dsimp only at hSw); go_simp); all_goals (with_reducible rfl)
                    try simp only [Act.put, List.setIfInBounds_toArray, List.set_cons_zero, List.set_cons_succ]
                    with_reducible refine quiet_take (v := ?_) ?_ ?_ ?_
                    rotate_left
                    · rfl
                    · (intro w hSw; (try dsimp only at hSw); go_simp); all_goals (with_reducible rfl)
                    try simp only [Act.put, List.setIfInBounds_toArray, List.set_cons_zero, List.set_cons_succ]
                    with_reducible refine quiet_take (v := ?_) ?_ ?_ ?_
                    rotate_left
                    · rfl
                    · (intro w hSw; (try dsimp only at hSw); go_simp); all_goals (with_reducible rfl)
                    try simp only [Act.put, List.setIfInBounds_toArray, List.set_cons_zero, List.set_cons_succ]
                    with_reducible refine quiet_take (v := ?_) ?_ ?_ ?_
                    rotate_left
                    · rfl
                    · (intro w hSw; (try dsimp only at hSw); go_simp); all_goals (with_reducible rfl)
                    try simp only [Act.put, List.setIfInBounds_toArray, List.set_cons_zero, List.set_cons_succ]
                    with_reducible refine quiet_take (v := ?_) ?_ ?_ ?_
                    rotate_left
                    · rfl
                    · (intro w hSw; (try dsimp only at hSw); go_simp); all_goals (with_reducible rfl)
                    try simp only [Act.put, List.setIfInBounds_toArray, List.set_cons_zero, List.set_cons_succ]
                    with_reducible refine quiet_take (v := ?_) ?_ ?_ ?_
                    rotate_left
                    · rfl
                    · (intro w hSw; obtain ⟨y0, y1, y2, y3, y4, y5, y6, y7, y8, y9, y10, y11, y12, y13⟩ := IsTots.all (HSW.out.below hSw) hSq; (try dsimp only at hSw); go_simp); all_goals (with_reducible rfl)
                    try simp only [Act.put, List.setIfInBounds_toArray, List.set_cons_zero, List.set_cons_succ]
                    with_reducible refine quiet_take (v := ?_) ?_ ?_ ?_
                    rotate_left
                    · rfl
                    · (intro w hSw; (try dsimp only at hSw); go_simp); all_goals (with_reducible rfl)
                    try simp only [Act.put, List.setIfInBounds_toArray, List.set_cons_zero, List.set_cons_succ]
                    with_reducible refine quiet_take (v := ?_) ?_ ?_ ?_
                    rotate_left
                    · rfl
                    · (intro w hSw; (try dsimp only at hSw); go_simp); all_goals (with_reducible rfl)
                    try simp only [Act.put, List.setIfInBounds_toArray, List.set_cons_zero, List.set_cons_succ]
                    with_reducible refine quiet_take (v := ?_) ?_ ?_ ?_
                    rotate_left
                    · rfl
                    · (intro w hSw; (try dsimp only at hSw); go_simp); all_goals (with_reducible rfl)
                    try simp only [Act.put, List.setIfInBounds_toArray, List.set_cons_zero, List.set_cons_succ]
                    with_reducible refine quiet_take (v := ?_) ?_ ?_ ?_
                    rotate_left
                    · rfl
                    · (intro w hSw; obtain ⟨z0, z1, z2, z3, z4, z5, z6, z7, z8, z9, z10, z11, z12, z13⟩ := IsTots.all (HSW.out.below hSw) hSj; (try dsimp only at hSw); go_simp); all_goals (with_reducible rfl)
                    try simp only [Act.put, List.setIfInBounds_toArray, List.set_cons_zero, List.set_cons_succ]
                    with_reducible refine quiet_call (f := 100) (args := ?_) (v := .int .i64 R) ?_ ?_ ?_ ?_
                    rotate_left
                    · rfl
                    · (intro w hSw; (try dsimp only at hSw); go_simp); all_goals (with_reducible rfl)
                    · (intro W hSw); exact (c100 W hSw).mono fun e w' ⟨h1, h2⟩ => ⟨h1, hSw.trans (h2.below.mono hSw.size)⟩
                    try simp only [Act.put, List.setIfInBounds_toArray, List.set_cons_zero, List.set_cons_succ]
                    with_reducible refine quiet_take (v := ?_) ?_ ?_ ?_
                    rotate_left
                    · rfl
                    · (intro w hSw; (try dsimp only at hSw); go_simp); all_goals (with_reducible rfl)
                    try simp only [Act.put, List.setIfInBounds_toArray, List.set_cons_zero, List.set_cons_succ]
                    refine wpQuiet_nil ?_
                    intro W hSw
                    refine wpAny_of_held (S := fun _ => True) _ _ _ _ ?_
                    refine wpAnyH_ready (rs := [15]) (by kernel_rfl) (by simp) ?_
                    refine AllReadyH.cons (o := _) rfl (fun K hK => ?_) ?_
                    · -- pick
                      go_simp
                      refine hK.out _ _ trivial (fun _ => ?_)
                      clear hK K
                      try simp only [List.setIfInBounds_toArray, List.set_cons_zero, List.set_cons_succ]
                      refine wpAnyH_done (by kernel_rfl) ?_ _
                      have hv : Hid (((R == 0) = true → 0 < q + 1 ∧ plP i k S (q + 1) = plP i k S (q + 1 - 1)) ∧ ((R == 0) = false → plP i k S (q + 1) = q + 1 + 1)) := Lib.hid ⟨fun h => ⟨by omega, by rw [HST.out, if_pos (by simpa using h)]; rfl⟩, fun h => by rw [HST.out, if_neg (by simpa using h)]⟩
                      clear HST
                      go_wp2_with fail
                      go_meet
                      exact ⟨_, rfl, hv, hSw⟩
                    exact AllReadyH.nil
                  · have hj0 : (j : Int) ≤ 0 := by omega
                    have hv : Hid (plP i k S j = j + 1) := Lib.hid (by
                      obtain rfl : j = 0 := by omega
                      rfl)
                    clear hrow h0
                    go_wp2_with fail
                    refine wp_region_quiet_to (C := (fun W => Below wr.heap.size wr W)) 15 1 #[true, true, true, true, true, true, true, true, true, true, true, true, true, true, true, false] (by kernel_rfl) (by kernel_rfl) ?_ ?_
                    · (try dsimp only)
                      exact hdr
                    simp only [List.take_succ_cons, List.take_zero]
                    with_reducible refine quiet_take (v := ?_) ?_ ?_ ?_
                    rotate_left
                    · rfl
                    · (intro w hSw; (try dsimp only at hSw); go_simp); all_goals (with_reducible rfl)
                    try simp only [Act.put, List.setIfInBounds_toArray, List.set_cons_zero, List.set_cons_succ]
                    with_reducible refine quiet_take (v := .bool false) ?_ ?_ ?_
                    · rfl
                    · (intro w hSw; (try dsimp only at hSw); go_simp; omega)
                    try simp only [Act.put, List.setIfInBounds_toArray, List.set_cons_zero, List.set_cons_succ]
                    with_reducible refine quiet_take (v := ?_) ?_ ?_ ?_
                    rotate_left
                    · rfl
                    · (intro w hSw; (try dsimp only at hSw); go_simp); all_goals (with_reducible rfl)
                    try simp only [Act.put, List.setIfInBounds_toArray, List.set_cons_zero, List.set_cons_succ]
                    with_reducible refine quiet_skip ?_ ?_
                    · rfl
                    try simp only [Act.put, List.setIfInBounds_toArray, List.set_cons_zero, List.set_cons_succ]
                    with_reducible refine quiet_skip ?_ ?_
                    · rfl
                    try simp only [Act.put, List.setIfInBounds_toArray, List.set_cons_zero, List.set_cons_succ]
                    with_reducible refine quiet_skip ?_ ?_
                    · rfl
                    try simp only [Act.put, List.setIfInBounds_toArray, List.set_cons_zero, List.set_cons_succ]
                    with_reducible refine quiet_skip ?_ ?_
                    · rfl
                    try simp only [Act.put, List.setIfInBounds_toArray, List.set_cons_zero, List.set_cons_succ]
                    with_reducible refine quiet_skip ?_ ?_
                    · rfl
                    try simp only [Act.put, List.setIfInBounds_toArray, List.set_cons_zero, List.set_cons_succ]
                    with_reducible refine quiet_skip ?_ ?_
                    · rfl
                    try simp only [Act.put, List.setIfInBounds_toArray, List.set_cons_zero, List.set_cons_succ]
                    with_reducible refine quiet_skip ?_ ?_
                    · rfl
                    try simp only [Act.put, List.setIfInBounds_toArray, List.set_cons_zero, List.set_cons_succ]
                    with_reducible refine quiet_skip ?_ ?_
                    · rfl
                    try simp only [Act.put, List.setIfInBounds_toArray, List.set_cons_zero, List.set_cons_succ]
                    with_reducible refine quiet_skip ?_ ?_
                    · rfl
                    try simp only [Act.put, List.setIfInBounds_toArray, List.set_cons_zero, List.set_cons_succ]
                    with_reducible refine quiet_skip ?_ ?_
                    · rfl
                    try simp only [Act.put, List.setIfInBounds_toArray, List.set_cons_zero, List.set_cons_succ]
                    with_reducible refine quiet_skip ?_ ?_
                    · rfl
                    try simp only [Act.put, List.setIfInBounds_toArray, List.set_cons_zero, List.set_cons_succ]
                    with_reducible refine quiet_skip ?_ ?_
                    · rfl
                    try simp only [Act.put, List.setIfInBounds_toArray, List.set_cons_zero, List.set_cons_succ]
                    refine wpQuiet_nil ?_
                    intro W hSw
                    refine wpAny_of_held (S := fun _ => True) _ _ _ _ ?_
                    refine wpAnyH_ready (rs := [15]) (by kernel_rfl) (by simp) ?_
                    refine AllReadyH.cons (o := _) rfl (fun K hK => ?_) ?_
                    · -- pick
                      go_simp
                      refine hK.out _ _ trivial (fun _ => ?_)
                      clear hK K
                      try simp only [List.setIfInBounds_toArray, List.set_cons_zero, List.set_cons_succ]
                      refine wpAnyH_done (by kernel_rfl) ?_ _
                      go_wp2_with fail
                      go_meet
                      exact ⟨false, rfl, Lib.hid ⟨fun h => (by cases h), fun _ => hv.out⟩, hSw⟩
                    exact AllReadyH.nil
                case rest =>
                  obtain ⟨bq, rfl, hbq, hbA⟩ := hcut
                  have hBr := hBr.trans (hbA.mono hBr.size)
                  have hb := hb.trans (hbA.mono hb.size)
                  have HSW := Lib.hid (HSW.out.below hbA)
                  have hx12 := hx12.below hbA hx12.lt
                  have hx14 := hx14.below hbA hx14.lt
                  have hrow := OwnRow.below hrow hbA
                  generalize wc = W12 at hBr hb HSW hx12 hx14 hrow ⊢
                  clear hbA hx18 hdr hrf
                  have hrf : Below W12.heap.size W12 W12 := Below.refl _ _
                  go_upto_if 80 with fail
                  go_cut [21] (fun s wx => s = .int .i64 ((plP i k S j : Nat) : Int) ∧ Below W12.heap.size W12 wx)
                  case first =>
                    cases bq with
                    | true =>
                      obtain ⟨h0, hv⟩ := hbq.out.1 rfl
                      obtain ⟨q, rfl⟩ : ∃ q, j = q + 1 := ⟨j - 1, by omega⟩
                      have hv : plP i k S (q + 1) = plP i k S q := hv
                      have hxq : ((outL i k n.toNat S (q + 1)).map (ldC i k))[q]? = some (ldC i k (atL S q, plP i k S q)) := by
                        rw [HO.out.1, List.map_map, List.getElem?_map, List.getElem?_range (by omega)]
                        rfl
                      obtain ⟨og, oc, eo, -, hoc⟩ := OwnRow.own hrow (i := q) (by rw [List.length_map, HO.out.2]; omega)
                      rw [List.length_map, HO.out.2] at eo hoc
                      subst eo
                      have p3 := (OwnRow.cell hrow hxq (j := 3) (u := .int .i64 ((plP i k S q : Nat) : Int)) rfl).1
                      have HVV := Lib.hid hv
                      have i5 : IntKind.i64.wrap (((q + 1 : Nat) : Int) - 1) = (q : Int) := by rw [IntWalk.i64_in _ (by omega)]; omega
                      have i6 : IntKind.i64.wrap ((q : Int) + 1 - 1) = (q : Int) := by rw [IntWalk.i64_in _ (by omega)]; omega
                      have i7 : IntKind.i64.wrap (q : Int) = (q : Int) := by rw [IntWalk.i64_in _ (by omega)]
                      have hq1 : (q : Int) < (q : Int) + 1 := by omega
                      have hq2 : (q : Int) < ((q + 1 : Nat) : Int) := by omega
                      clear hv hxq hrow hbq
                      go_wp2_with fail
                      go_meet
                      exact ⟨by rw [HVV.out], hrf⟩
                    | false =>
                      have hv := Lib.hid (hbq.out.2 rfl)
                      clear hbq hrow
                      go_wp2_with fail
                      go_meet
                      exact ⟨by rw [hv.out]; go_num, hrf⟩
                  case rest =>
                  obtain ⟨rfl, hbA⟩ := hcut
                  have hB12 := hBr.trans (hbA.mono hBr.size)
                  have hb12 := hb.trans (hbA.mono hb.size)
                  have HSW := Lib.hid (HSW.out.below hbA)
                  have hx12 := hx12.below hbA hx12.lt
                  have hx14 := hx14.below hbA hx14.lt
                  have hrow := OwnRow.below hrow hbA
                  clear hBr hb hrf
                  generalize wc = W12 at hB12 hb12 HSW hx12 hx14 hrow ⊢
                  clear hbA hbq
                  obtain ⟨pl, hpl⟩ : ∃ p, plP i k S j = p := ⟨_, rfl⟩
                  have HPL := Lib.hid hpl
                  by_cases hle : pl ≤ n.toNat
                  · have hle' : ¬ n < (pl : Int) := by omega
                    have HNX : Hid (outL i k n.toNat S (j + 1) = outL i k n.toNat S j ++ [(x, pl)]) := Lib.hid (by rw [outL, hpl, if_pos hle, hx])
                    have hP2 : Hid (∀ r, r < j + 1 → plP i k S r ≤ n.toNat) := Lib.hid fun r hr => by
                      rcases Nat.lt_succ_iff_lt_or_eq.1 hr with q | rfl
                      · exact hP.out r q
                      · rw [hpl]; exact hle
                    have hpx := HSP.out x (List.mem_of_getElem? hSj)
                    have c106 := rate_w (x.c i) (x.c k)
                    rw [hpx.rate, if_pos rfl, if_pos rfl] at c106
                    obtain ⟨xn, hxn⟩ : ∃ m, x.c i = m := ⟨_, rfl⟩
                    obtain ⟨xd, hxd⟩ : ∃ m, x.c k = m := ⟨_, rfl⟩
                    have HXC : Hid (ldC i k (x, pl) = [.string (bA x.p), .int .i64 (rtN xn xd), .int .i64 (rtD xn xd), .int .i64 (pl : Int)]) := Lib.hid (by rw [← hxn, ← hxd]; rfl)
                    have HNN : Hid (x.c i = xn ∧ x.c k = xd) := Lib.hid ⟨hxn, hxd⟩
                    rw [hxn, hxd] at c106
                    generalize rtN xn xd = P at c106 HXC
                    generalize rtD xn xd = Q at c106 HXC
                    have hdr : Below W12.heap.size W12 W12.drew := (Below.refl _ _).drew
                    have hbk := hdr
                    have ik1 : (i : Int) < 12 := by omega
                    have ik2 : (k : Int) < 12 := by omega
                    have hx12c := Lib.hid (box1 hx12).1
                    have hx14c := Lib.hid (box1 hx14).1
                    have hq12 : ∀ q, u19.ownBlock = some q → q < W12.heap.size := fun q hq => (OwnRow.lt hrow q hq).2
                    clear hpl hle hP hx12 hx14 hxn hxd hpx
                    rw [HPL.out]
                    go_wp2_with fail
                    go_cut [22] (fun s wx => ∃ b22, s = .pointer (some ⟨b22, 0, none⟩) ∧ W12.heap.size ≤ b22 ∧ At wx b22 #[.int .i64 P, .int .i64 Q] 60 ∧ Below W12.heap.size W12 wx)
                    case first =>
                      clear hrow hq12 hB12 hb12
                      refine wp_region_held_drew (S := (fun W => Below W12.heap.size W12 W)) (by kernel_rfl) ?_ (fun hHeld => ?_)
                      · (try dsimp only)
                        exact hbk
                      refine wpAnyH_take (i := 0) (oi := { dst := some 91, op := Op.move (Operand.tmp 17), type := 25, pos := "total.go:172", after := #[], guard := none }) (v := ?_) rfl (by kernel_rfl) (by kernel_rfl) (by kernel_rfl) (fun _ _ _ h => h) (Or.inl ⟨by rfl, ?_⟩) (by assumption) ?_
                      rotate_left
                      · (intro w hSw; (try dsimp only at hSw); go_simp); all_goals (with_reducible rfl)
                      try simp only [Act.put, List.setIfInBounds_toArray, List.set_cons_zero, List.set_cons_succ]
                      refine wpAnyH_take (i := 1) (oi := { dst := some 92, op := Op.move (Operand.tmp 20), type := 3, pos := "total.go:172", after := #[], guard := none }) (v := ?_) rfl (by kernel_rfl) (by kernel_rfl) (by kernel_rfl) (fun _ _ _ h => h) (Or.inl ⟨by rfl, ?_⟩) (by assumption) ?_
                      rotate_left
                      · (intro w hSw; (try dsimp only at hSw); go_simp); all_goals (with_reducible rfl)
                      try simp only [Act.put, List.setIfInBounds_toArray, List.set_cons_zero, List.set_cons_succ]
                      refine wpAnyH_take (i := 2) (oi := { dst := some 93, op := Op.load 3 (Operand.tmp 12), type := 3, pos := "total.go:172", after := #[], guard := none }) (v := ?_) rfl (by kernel_rfl) (by kernel_rfl) (by kernel_rfl) (fun _ _ _ h => h) (Or.inl ⟨by rfl, ?_⟩) (by assumption) ?_
                      rotate_left
                      · (intro w hSw; have p12 := (hSw.cell (cell_under hx12c.out)).trans hx12c.out; (try dsimp only at hSw); go_simp); all_goals (with_reducible rfl)
                      try simp only [Act.put, List.setIfInBounds_toArray, List.set_cons_zero, List.set_cons_succ]
                      refine wpAnyH_take (i := 3) (oi := { dst := some 94, op := Op.indexAddr 25 (Operand.tmp 91) (Operand.tmp 92), type := 0, pos := "total.go:172", after := #[{ on := 0, ground := Ground.data }, { on := 1, ground := Ground.data }], guard := none }) (v := ?_) rfl (by kernel_rfl) (by kernel_rfl) (by kernel_rfl) (fun _ _ _ h => h) (Or.inl ⟨by rfl, ?_⟩) (by assumption) ?_
                      rotate_left
                      · (intro w hSw; (try dsimp only at hSw); go_simp); all_goals (with_reducible rfl)
                      try simp only [Act.put, List.setIfInBounds_toArray, List.set_cons_zero, List.set_cons_succ]
                      refine wpAnyH_take (i := 4) (oi := { dst := some 95, op := Op.fieldAddr 66 (Operand.tmp 94) 2, type := 0, pos := "total.go:172", after := #[{ on := 3, ground := Ground.data }], guard := none }) (v := ?_) rfl (by kernel_rfl) (by kernel_rfl) (by kernel_rfl) (fun _ _ _ h => h) (Or.inl ⟨by rfl, ?_⟩) (by assumption) ?_
                      rotate_left
                      · (intro w hSw; (try dsimp only at hSw); go_simp); all_goals (with_reducible rfl)
                      try simp only [Act.put, List.setIfInBounds_toArray, List.set_cons_zero, List.set_cons_succ]
                      refine wpAnyH_take (i := 5) (oi := { dst := some 96, op := Op.indexAddr 54 (Operand.tmp 95) (Operand.tmp 93), type := 0, pos := "total.go:172", after := #[{ on := 4, ground := Ground.data }, { on := 2, ground := Ground.data }], guard := none }) (v := ?_) rfl (by kernel_rfl) (by kernel_rfl) (by kernel_rfl) (fun _ _ _ h => h) (Or.inl ⟨by rfl, ?_⟩) (by assumption) ?_
                      rotate_left
                      · (intro w hSw; (try dsimp only at hSw); go_simp); all_goals (with_reducible rfl)
                      try simp only [Act.put, List.setIfInBounds_toArray, List.set_cons_zero, List.set_cons_succ]
                      refine wpAnyH_take (i := 6) (oi := { dst := some 97, op := Op.load 3 (Operand.tmp 96), type := 3, pos := "total.go:172", after := #[{ on := 5, ground := Ground.data }], guard := none }) (v := ?_) rfl (by kernel_rfl) (by kernel_rfl) (by kernel_rfl) (fun _ _ _ h => h) (Or.inl ⟨by rfl, ?_⟩) (by assumption) ?_
                      rotate_left
                      · (intro w hSw; have pa := IsTots.num (HSW.out.below hSw) hSj hi; rw [HNN.out.1] at pa; have pb := pa; rw [← Nat.add_assoc] at pb; (try dsimp only at hSw); go_simp); all_goals (with_reducible rfl)
                      try simp only [Act.put, List.setIfInBounds_toArray, List.set_cons_zero, List.set_cons_succ]
                      refine wpAnyH_take (i := 7) (oi := { dst := some 98, op := Op.move (Operand.tmp 17), type := 25, pos := "total.go:172", after := #[], guard := none }) (v := ?_) rfl (by kernel_rfl) (by kernel_rfl) (by kernel_rfl) (fun _ _ _ h => h) (Or.inl ⟨by rfl, ?_⟩) (by assumption) ?_
                      rotate_left
                      · (intro w hSw; (try dsimp only at hSw); go_simp); all_goals (with_reducible rfl)
                      try simp only [Act.put, List.setIfInBounds_toArray, List.set_cons_zero, List.set_cons_succ]
                      refine wpAnyH_take (i := 8) (oi := { dst := some 99, op := Op.move (Operand.tmp 20), type := 3, pos := "total.go:172", after := #[], guard := none }) (v := ?_) rfl (by kernel_rfl) (by kernel_rfl) (by kernel_rfl) (fun _ _ _ h => h) (Or.inl ⟨by rfl, ?_⟩) (by assumption) ?_
                      rotate_left
                      · (intro w hSw; (try dsimp only at hSw); go_simp); all_goals (with_reducible rfl)
                      try simp only [Act.put, List.setIfInBounds_toArray, List.set_cons_zero, List.set_cons_succ]
                      refine wpAnyH_take (i := 9) (oi := { dst := some 100, op := Op.load 3 (Operand.tmp 14), type := 3, pos := "total.go:172", after := #[], guard := none }) (v := ?_) rfl (by kernel_rfl) (by kernel_rfl) (by kernel_rfl) (fun _ _ _ h => h) (Or.inl ⟨by rfl, ?_⟩) (by assumption) ?_
                      rotate_left
                      · (intro w hSw; have p14 := (hSw.cell (cell_under hx14c.out)).trans hx14c.out; (try dsimp only at hSw); go_simp); all_goals (with_reducible rfl)
                      try simp only [Act.put, List.setIfInBounds_toArray, List.set_cons_zero, List.set_cons_succ]
                      refine wpAnyH_take (i := 10) (oi := { dst := some 101, op := Op.indexAddr 25 (Operand.tmp 98) (Operand.tmp 99), type := 0, pos := "total.go:172", after := #[{ on := 7, ground := Ground.data }, { on := 8, ground := Ground.data }], guard := none }) (v := ?_) rfl (by kernel_rfl) (by kernel_rfl) (by kernel_rfl) (fun _ _ _ h => h) (Or.inl ⟨by rfl, ?_⟩) (by assumption) ?_
                      rotate_left
                      · (intro w hSw; (try dsimp only at hSw); go_simp); all_goals (with_reducible rfl)
                      try simp only [Act.put, List.setIfInBounds_toArray, List.set_cons_zero, List.set_cons_succ]
                      refine wpAnyH_take (i := 11) (oi := { dst := some 102, op := Op.fieldAddr 66 (Operand.tmp 101) 2, type := 0, pos := "total.go:172", after := #[{ on := 10, ground := Ground.data }], guard := none }) (v := ?_) rfl (by kernel_rfl) (by kernel_rfl) (by kernel_rfl) (fun _ _ _ h => h) (Or.inl ⟨by rfl, ?_⟩) (by assumption) ?_
                      rotate_left
                      · (intro w hSw; (try dsimp only at hSw); go_simp); all_goals (with_reducible rfl)
                      try simp only [Act.put, List.setIfInBounds_toArray, List.set_cons_zero, List.set_cons_succ]
                      refine wpAnyH_take (i := 12) (oi := { dst := some 103, op := Op.indexAddr 54 (Operand.tmp 102) (Operand.tmp 100), type := 0, pos := "total.go:172", after := #[{ on := 11, ground := Ground.data }, { on := 9, ground := Ground.data }], guard := none }) (v := ?_) rfl (by kernel_rfl) (by kernel_rfl) (by kernel_rfl) (fun _ _ _ h => h) (Or.inl ⟨by rfl, ?_⟩) (by assumption) ?_
                      rotate_left
                      · (intro w hSw; (try dsimp only at hSw); go_simp); all_goals (with_reducible rfl)
                      try simp only [Act.put, List.setIfInBounds_toArray, List.set_cons_zero, List.set_cons_succ]
                      refine wpAnyH_take (i := 13) (oi := { dst := some 104, op := Op.load 3 (Operand.tmp 103), type := 3, pos := "total.go:172", after := #[{ on := 12, ground := Ground.data }], guard := none }) (v := ?_) rfl (by kernel_rfl) (by kernel_rfl) (by kernel_rfl) (fun _ _ _ h => h) (Or.inl ⟨by rfl, ?_⟩) (by assumption) ?_
                      rotate_left
                      · (intro w hSw; have pa := IsTots.num (HSW.out.below hSw) hSj hk; rw [HNN.out.2] at pa; have pb := pa; rw [← Nat.add_assoc] at pb; (try dsimp only at hSw); go_simp); all_goals (with_reducible rfl)
                      try simp only [Act.put, List.setIfInBounds_toArray, List.set_cons_zero, List.set_cons_succ]
                      refine wpAnyH_ready (rs := [14, 18]) (by kernel_rfl) (by simp) ?_
                      refine AllReadyH.cons (o := _) rfl (fun K hK => ?_) ?_
                      · -- 106
                        (go_simp; refine Calls.mono (c106 _) ?_; rintro e W ⟨rfl, hk⟩; replace hbk := hbk.trans (hk.mono hbk.size); (try replace hx22 := hx22.below hk hx22.lt); have hcalled := True.intro; clear hk)
                        refine hK.out _ _ ?_ (fun hHeld => ?_)
                        · (try dsimp only)
                          exact hbk
                        clear hK K
                        try simp only [Act.put, List.setIfInBounds_toArray, List.set_cons_zero, List.set_cons_succ]
                        refine wpAnyH_take (i := 15) (oi := { dst := some 90, op := Op.move (Operand.tmp 105), type := 64, pos := "total.go:172", after := #[{ on := 14, ground := Ground.data }], guard := none }) (v := ?_) rfl (by kernel_rfl) (by kernel_rfl) (by kernel_rfl) (fun _ _ _ h => h) (Or.inl ⟨by rfl, ?_⟩) (by assumption) ?_
                        rotate_left
                        · (intro w hSw; (try dsimp only at hSw); go_simp); all_goals (with_reducible rfl)
                        try simp only [Act.put, List.setIfInBounds_toArray, List.set_cons_zero, List.set_cons_succ]
                        refine wpAnyH_take (i := 16) (oi := { dst := some 106, op := Op.extract (Operand.tmp 90) 0, type := 60, pos := "total.go:172", after := #[{ on := 15, ground := Ground.data }], guard := none }) (v := ?_) rfl (by kernel_rfl) (by kernel_rfl) (by kernel_rfl) (fun _ _ _ h => h) (Or.inl ⟨by rfl, ?_⟩) (by assumption) ?_
                        rotate_left
                        · (intro w hSw; (try dsimp only at hSw); go_simp); all_goals (with_reducible rfl)
                        try simp only [Act.put, List.setIfInBounds_toArray, List.set_cons_zero, List.set_cons_succ]
                        refine wpAnyH_take (i := 17) (oi := { dst := some 107, op := Op.extract (Operand.tmp 90) 1, type := 26, pos := "total.go:172", after := #[{ on := 15, ground := Ground.data }, { on := 19, ground := Ground.gcOnly Departure.lateStores }], guard := none }) (v := ?_) rfl (by kernel_rfl) (by kernel_rfl) (by kernel_rfl) (fun _ _ _ h => h) (Or.inl ⟨by rfl, ?_⟩) (by assumption) ?_
                        rotate_left
                        · (intro w hSw; (try dsimp only at hSw); go_simp); all_goals (with_reducible rfl)
                        try simp only [Act.put, List.setIfInBounds_toArray, List.set_cons_zero, List.set_cons_succ]
                        refine wpAnyH_ready (rs := [18]) (by kernel_rfl) (by simp) ?_
                        refine AllReadyH.cons (o := { dst := some 22, op := Op.alloc 60, type := 0, pos := "total.go:172", after := #[], guard := none }) rfl (fun K hK => ?_) ?_
                        · -- alloc
                          (go_simp; first | (have hh := hcalled; have hx22 := newAt hbk #[.int .i64 P, .int .i64 Q] 60; have hl22 := hbk.size; have hbk2 := hbk.alloc hbk.size (.cells #[.int .i64 P, .int .i64 Q] 60); have hx0 := newAt hbk #[.int .i64 0, .int .i64 0] 60; replace hbk := hbk.alloc hbk.size (.cells #[.int .i64 0, .int .i64 0] 60)) | (have hx22 : At (W12.drew.alloc (.cells #[.int .i64 0, .int .i64 0] 60)) W12.heap.size #[.int .i64 0, .int .i64 0] 60 := at_new _ _ _; have hl22 : W12.heap.size ≤ W12.heap.size := Nat.le_refl _; replace hbk := hbk.alloc hbk.size (.cells #[.int .i64 0, .int .i64 0] 60)))
                          refine hK.out _ _ ?_ (fun hHeld => ?_)
                          · (try dsimp only)
                            exact hbk
                          clear hK K
                          try simp only [Act.put, List.setIfInBounds_toArray, List.set_cons_zero, List.set_cons_succ]
                          refine wpAnyH_ready (rs := [19]) (by kernel_rfl) (by simp) ?_
                          refine AllReadyH.cons (o := { dst := none, op := Op.store 60 (Operand.tmp 22) (Operand.tmp 106), type := 0, pos := "total.go:172", after := #[{ on := 18, ground := Ground.data }, { on := 16, ground := Ground.data }, { on := 14, ground := Ground.chain }, { on := 0, ground := Ground.phase }, { on := 1, ground := Ground.phase }, { on := 2, ground := Ground.phase }, { on := 3, ground := Ground.phase }, { on := 4, ground := Ground.phase }, { on := 5, ground := Ground.phase }, { on := 6, ground := Ground.phase }, { on := 7, ground := Ground.phase }, { on := 8, ground := Ground.phase }, { on := 9, ground := Ground.phase }, { on := 10, ground := Ground.phase }, { on := 11, ground := Ground.phase }, { on := 12, ground := Ground.phase }, { on := 13, ground := Ground.phase }, { on := 14, ground := Ground.phase }, { on := 15, ground := Ground.phase }, { on := 16, ground := Ground.phase }, { on := 17, ground := Ground.textOnly Departure.lateStores }, { on := 18, ground := Ground.phase }], guard := none }) rfl (fun K hK => ?_) ?_
                          · -- store
                            (first | (obtain ⟨⟨x0, x1⟩, f0, f1⟩ := box2f hx0; go_simp; replace hbk := hbk2; clear x0 x1 f0 f1) | (obtain ⟨⟨x0, x1⟩, f0, f1⟩ := box2f hx22; go_simp; replace hx22 := (hx22.set 0 (.int .i64 P)).set 1 (.int .i64 Q); replace hbk := (hbk.setCell (p := ⟨_, 0, none⟩) hl22 (.int .i64 P)).setCell (p := ⟨_, 1, none⟩) hl22 (.int .i64 Q); clear x0 x1 f0 f1))
                            refine hK.out _ _ ?_ (fun hHeld => ?_)
                            · (try dsimp only)
                              exact hbk
                            clear hK K
                            try simp only [Act.put, List.setIfInBounds_toArray, List.set_cons_zero, List.set_cons_succ]
                            refine wpAnyH_take (i := 20) (oi := { dst := some 23, op := Op.assign (Operand.tmp 107), type := 26, pos := "total.go:172", after := #[{ on := 17, ground := Ground.data }, { on := 19, ground := Ground.chain }, { on := 0, ground := Ground.phase }, { on := 1, ground := Ground.phase }, { on := 2, ground := Ground.phase }, { on := 3, ground := Ground.phase }, { on := 4, ground := Ground.phase }, { on := 5, ground := Ground.phase }, { on := 6, ground := Ground.phase }, { on := 7, ground := Ground.phase }, { on := 8, ground := Ground.phase }, { on := 9, ground := Ground.phase }, { on := 10, ground := Ground.phase }, { on := 11, ground := Ground.phase }, { on := 12, ground := Ground.phase }, { on := 13, ground := Ground.phase }, { on := 14, ground := Ground.phase }, { on := 15, ground := Ground.phase }, { on := 16, ground := Ground.phase }, { on := 17, ground := Ground.phase }, { on := 18, ground := Ground.phase }, { on := 19, ground := Ground.phase }], guard := none }) (v := ?_) rfl (by kernel_rfl) (by kernel_rfl) (by kernel_rfl) (fun _ _ _ h => h) (Or.inl ⟨by rfl, ?_⟩) (by assumption) ?_
                            rotate_left
                            · (intro w hSw; (try dsimp only at hSw); go_simp); all_goals (with_reducible rfl)
                            try simp only [Act.put, List.setIfInBounds_toArray, List.set_cons_zero, List.set_cons_succ]
                            refine wpAnyH_done (by kernel_rfl) ?_ _
                            go_wp2_with fail
                            go_meet
                            exact ⟨_, rfl, hl22, hx22, hbk⟩
                          exact AllReadyH.nil
                        exact AllReadyH.nil
                      refine AllReadyH.cons (o := { dst := some 22, op := Op.alloc 60, type := 0, pos := "total.go:172", after := #[], guard := none }) rfl (fun K hK => ?_) ?_
                      · -- alloc
                        (go_simp; first | (have hh := hcalled; have hx22 := newAt hbk #[.int .i64 P, .int .i64 Q] 60; have hl22 := hbk.size; have hbk2 := hbk.alloc hbk.size (.cells #[.int .i64 P, .int .i64 Q] 60); have hx0 := newAt hbk #[.int .i64 0, .int .i64 0] 60; replace hbk := hbk.alloc hbk.size (.cells #[.int .i64 0, .int .i64 0] 60)) | (have hx22 : At (W12.drew.alloc (.cells #[.int .i64 0, .int .i64 0] 60)) W12.heap.size #[.int .i64 0, .int .i64 0] 60 := at_new _ _ _; have hl22 : W12.heap.size ≤ W12.heap.size := Nat.le_refl _; replace hbk := hbk.alloc hbk.size (.cells #[.int .i64 0, .int .i64 0] 60)))
                        refine hK.out _ _ ?_ (fun hHeld => ?_)
                        · (try dsimp only)
                          exact hbk
                        clear hK K
                        try simp only [Act.put, List.setIfInBounds_toArray, List.set_cons_zero, List.set_cons_succ]
                        refine wpAnyH_ready (rs := [14]) (by kernel_rfl) (by simp) ?_
                        refine AllReadyH.cons (o := _) rfl (fun K hK => ?_) ?_
                        · -- 106
                          (go_simp; refine Calls.mono (c106 _) ?_; rintro e W ⟨rfl, hk⟩; replace hbk := hbk.trans (hk.mono hbk.size); (try replace hx22 := hx22.below hk hx22.lt); have hcalled := True.intro; clear hk)
                          refine hK.out _ _ ?_ (fun hHeld => ?_)
                          · (try dsimp only)
                            exact hbk
                          clear hK K
                          try simp only [Act.put, List.setIfInBounds_toArray, List.set_cons_zero, List.set_cons_succ]
                          refine wpAnyH_take (i := 15) (oi := { dst := some 90, op := Op.move (Operand.tmp 105), type := 64, pos := "total.go:172", after := #[{ on := 14, ground := Ground.data }], guard := none }) (v := ?_) rfl (by kernel_rfl) (by kernel_rfl) (by kernel_rfl) (fun _ _ _ h => h) (Or.inl ⟨by rfl, ?_⟩) (by assumption) ?_
                          rotate_left
                          · (intro w hSw; (try dsimp only at hSw); go_simp); all_goals (with_reducible rfl)
                          try simp only [Act.put, List.setIfInBounds_toArray, List.set_cons_zero, List.set_cons_succ]
                          refine wpAnyH_take (i := 16) (oi := { dst := some 106, op := Op.extract (Operand.tmp 90) 0, type := 60, pos := "total.go:172", after := #[{ on := 15, ground := Ground.data }], guard := none }) (v := ?_) rfl (by kernel_rfl) (by kernel_rfl) (by kernel_rfl) (fun _ _ _ h => h) (Or.inl ⟨by rfl, ?_⟩) (by assumption) ?_
                          rotate_left
                          · (intro w hSw; (try dsimp only at hSw); go_simp); all_goals (with_reducible rfl)
                          try simp only [Act.put, List.setIfInBounds_toArray, List.set_cons_zero, List.set_cons_succ]
                          refine wpAnyH_take (i := 17) (oi := { dst := some 107, op := Op.extract (Operand.tmp 90) 1, type := 26, pos := "total.go:172", after := #[{ on := 15, ground := Ground.data }, { on := 19, ground := Ground.gcOnly Departure.lateStores }], guard := none }) (v := ?_) rfl (by kernel_rfl) (by kernel_rfl) (by kernel_rfl) (fun _ _ _ h => h) (Or.inl ⟨by rfl, ?_⟩) (by assumption) ?_
                          rotate_left
                          · (intro w hSw; (try dsimp only at hSw); go_simp); all_goals (with_reducible rfl)
                          try simp only [Act.put, List.setIfInBounds_toArray, List.set_cons_zero, List.set_cons_succ]
                          refine wpAnyH_ready (rs := [19]) (by kernel_rfl) (by simp) ?_
                          refine AllReadyH.cons (o := { dst := none, op := Op.store 60 (Operand.tmp 22) (Operand.tmp 106), type := 0, pos := "total.go:172", after := #[{ on := 18, ground := Ground.data }, { on := 16, ground := Ground.data }, { on := 14, ground := Ground.chain }, { on := 0, ground := Ground.phase }, { on := 1, ground := Ground.phase }, { on := 2, ground := Ground.phase }, { on := 3, ground := Ground.phase }, { on := 4, ground := Ground.phase }, { on := 5, ground := Ground.phase }, { on := 6, ground := Ground.phase }, { on := 7, ground := Ground.phase }, { on := 8, ground := Ground.phase }, { on := 9, ground := Ground.phase }, { on := 10, ground := Ground.phase }, { on := 11, ground := Ground.phase }, { on := 12, ground := Ground.phase }, { on := 13, ground := Ground.phase }, { on := 14, ground := Ground.phase }, { on := 15, ground := Ground.phase }, { on := 16, ground := Ground.phase }, { on := 17, ground := Ground.textOnly Departure.lateStores }, { on := 18, ground := Ground.phase }], guard := none }) rfl (fun K hK => ?_) ?_
                          · -- store
                            (first | (obtain ⟨⟨x0, x1⟩, f0, f1⟩ := box2f hx0; go_simp; replace hbk := hbk2; clear x0 x1 f0 f1) | (obtain ⟨⟨x0, x1⟩, f0, f1⟩ := box2f hx22; go_simp; replace hx22 := (hx22.set 0 (.int .i64 P)).set 1 (.int .i64 Q); replace hbk := (hbk.setCell (p := ⟨_, 0, none⟩) hl22 (.int .i64 P)).setCell (p := ⟨_, 1, none⟩) hl22 (.int .i64 Q); clear x0 x1 f0 f1))
                            refine hK.out _ _ ?_ (fun hHeld => ?_)
                            · (try dsimp only)
                              exact hbk
                            clear hK K
                            try simp only [Act.put, List.setIfInBounds_toArray, List.set_cons_zero, List.set_cons_succ]
                            refine wpAnyH_take (i := 20) (oi := { dst := some 23, op := Op.assign (Operand.tmp 107), type := 26, pos := "total.go:172", after := #[{ on := 17, ground := Ground.data }, { on := 19, ground := Ground.chain }, { on := 0, ground := Ground.phase }, { on := 1, ground := Ground.phase }, { on := 2, ground := Ground.phase }, { on := 3, ground := Ground.phase }, { on := 4, ground := Ground.phase }, { on := 5, ground := Ground.phase }, { on := 6, ground := Ground.phase }, { on := 7, ground := Ground.phase }, { on := 8, ground := Ground.phase }, { on := 9, ground := Ground.phase }, { on := 10, ground := Ground.phase }, { on := 11, ground := Ground.phase }, { on := 12, ground := Ground.phase }, { on := 13, ground := Ground.phase }, { on := 14, ground := Ground.phase }, { on := 15, ground := Ground.phase }, { on := 16, ground := Ground.phase }, { on := 17, ground := Ground.phase }, { on := 18, ground := Ground.phase }, { on := 19, ground := Ground.phase }], guard := none }) (v := ?_) rfl (by kernel_rfl) (by kernel_rfl) (by kernel_rfl) (fun _ _ _ h => h) (Or.inl ⟨by rfl, ?_⟩) (by assumption) ?_
                            rotate_left
                            · (intro w hSw; (try dsimp only at hSw); go_simp); all_goals (with_reducible rfl)
                            try simp only [Act.put, List.setIfInBounds_toArray, List.set_cons_zero, List.set_cons_succ]
                            refine wpAnyH_done (by kernel_rfl) ?_ _
                            go_wp2_with fail
                            go_meet
                            exact ⟨_, rfl, hl22, hx22, hbk⟩
                          exact AllReadyH.nil
                        exact AllReadyH.nil
                      exact AllReadyH.nil
                    case rest =>
                      clear hbk hdr
                      obtain ⟨b22, rfl, hb22, hx22, hbB⟩ := hcut
                      have hB13 := hB12.trans (hbB.mono hB12.size)
                      have hb13 := hb12.trans (hbB.mono hb12.size)
                      have HSW := Lib.hid (HSW.out.below hbB)
                      have hrow := OwnRow.below hrow hbB
                      have hq13 : ∀ q, u19.ownBlock = some q → q < b22 := fun q hq => Nat.lt_of_lt_of_le (hq12 q hq) hb22
                      generalize wc = W13 at hB13 hb13 HSW hrow hx22 ⊢
                      clear hB12 hb12 hbB hx12c hx14c hq12
                      have hdr : Below W13.heap.size W13 W13.drew := (Below.refl _ _).drew
                      have hal : Below W13.heap.size W13 (W13.drew.alloc (.cells #[.string (bA x.p), .int .i64 P, .int .i64 Q, .int .i64 (pl : Int)] 63)) := hdr.alloc (Nat.le_refl _) _
                      have hll : ((outL i k n.toNat S j).map (ldC i k)).length ≤ 1000000 := by rw [List.length_map, HO.out.2]; omega
                      obtain ⟨a9, k9, c9, w9, hrun, hA⟩ := run_appendR (ty := 47) HTL.out (W13.drew.alloc (.cells #[.string (bA x.p), .int .i64 P, .int .i64 Q, .int .i64 (pl : Int)] 63)) W11.heap.size W13.heap.size ((outL i k n.toNat S j).map (ldC i k)) u19 (OwnRow.below hrow hal) hll [.string (bA x.p), .int .i64 P, .int .i64 Q, .int .i64 (pl : Int)] rfl (by simp [Value.oneCell']) (at_new W13.drew _ 63) 1 (Nat.le_trans hb13.size hal.size)
                      have hnm := (HSW.out.all hSj).1
                      have hS1 : W13.drew.cell? ⟨sb, so + j * 14, none⟩ = some (.string (bA x.p)) ∧ At W13.drew b22 #[.int .i64 P, .int .i64 Q] 60 := ⟨hnm, hx22.drew⟩
                      have hS2 : (W13.drew.alloc (.cells #[.string (bA x.p), .int .i64 P, .int .i64 Q, .int .i64 (pl : Int)] 63)).cell? ⟨sb, so + j * 14, none⟩ = some (.string (bA x.p)) ∧ At (W13.drew.alloc (.cells #[.string (bA x.p), .int .i64 P, .int .i64 Q, .int .i64 (pl : Int)] 63)) b22 #[.int .i64 P, .int .i64 Q] 60 := ⟨(hal.cell (cell_under hnm)).trans hnm, hx22.below hal hx22.lt⟩
                      have hbw : Below W11.heap.size W11 w9 := hA.below W11 (hb13.trans (hal.mono hb13.size)) (Nat.le_refl _)
                      have hnm0 := (IsTots.all (show IsTots W11 (.slice (some ⟨sb, so, none⟩) S.length sc) S by rw [HN.out]; exact HSR.out) hSj).1
                      have hS3 : w9.cell? ⟨sb, so + j * 14, none⟩ = some (.string (bA x.p)) ∧ At w9 b22 #[.int .i64 P, .int .i64 Q] 60 := ⟨(hbw.cell (cell_under hnm0)).trans hnm0, At.grown9 hS2.2 hq13 hA.grown⟩
                      have hbs := run_sliceLd W13.drew (.string (bA x.p)) (.int .i64 P) (.int .i64 Q) (.int .i64 (pl : Int))
                      have hrow9 : OwnRow w9 W11.heap.size 63 4 (.slice a9 k9 c9) ((outL i k n.toNat S (j + 1)).map (ldC i k)) := by
                        have := hA.row
                        rw [HNX.out, List.map_append, List.map_cons, List.map_nil, HXC.out]
                        rw [List.length_map] at *
                        exact this
                      have HR9 := Lib.hid (And.intro hrow9 hbw)
                      clear hA hrow9 hbw hnm hnm0 hal hll hdr hx22 hrow hB13 hb13 hq13
                      have hS := hS1
                      go_wp2_with fail
                      refine wp_region_held_drew (S := (fun W => W.cell? ⟨sb, so + j * 14, none⟩ = some (.string (bA x.p)) ∧ At W b22 #[.int .i64 P, .int .i64 Q] 60)) (by kernel_rfl) ?_ (fun hHeld => ?_)
                      · (try dsimp only)
                        exact hS
                      refine wpAnyH_take (i := 0) (oi := { dst := some 108, op := Op.move (Operand.tmp 19), type := 47, pos := "total.go:173", after := #[], guard := none }) (v := ?_) rfl (by kernel_rfl) (by kernel_rfl) (by kernel_rfl) (fun _ _ _ h => h) (Or.inl ⟨by rfl, ?_⟩) (by assumption) ?_
                      rotate_left
                      · (intro w hSw; (try dsimp only at hSw); go_simp); all_goals (with_reducible rfl)
                      try simp only [Act.put, List.setIfInBounds_toArray, List.set_cons_zero, List.set_cons_succ]
                      refine wpAnyH_take (i := 1) (oi := { dst := some 109, op := Op.move (Operand.tmp 17), type := 25, pos := "total.go:173", after := #[], guard := none }) (v := ?_) rfl (by kernel_rfl) (by kernel_rfl) (by kernel_rfl) (fun _ _ _ h => h) (Or.inl ⟨by rfl, ?_⟩) (by assumption) ?_
                      rotate_left
                      · (intro w hSw; (try dsimp only at hSw); go_simp); all_goals (with_reducible rfl)
                      try simp only [Act.put, List.setIfInBounds_toArray, List.set_cons_zero, List.set_cons_succ]
                      refine wpAnyH_take (i := 2) (oi := { dst := some 110, op := Op.move (Operand.tmp 20), type := 3, pos := "total.go:173", after := #[], guard := none }) (v := ?_) rfl (by kernel_rfl) (by kernel_rfl) (by kernel_rfl) (fun _ _ _ h => h) (Or.inl ⟨by rfl, ?_⟩) (by assumption) ?_
                      rotate_left
                      · (intro w hSw; (try dsimp only at hSw); go_simp); all_goals (with_reducible rfl)
                      try simp only [Act.put, List.setIfInBounds_toArray, List.set_cons_zero, List.set_cons_succ]
                      refine wpAnyH_take (i := 3) (oi := { dst := some 111, op := Op.indexAddr 25 (Operand.tmp 109) (Operand.tmp 110), type := 0, pos := "total.go:173", after := #[{ on := 1, ground := Ground.data }, { on := 2, ground := Ground.data }], guard := none }) (v := ?_) rfl (by kernel_rfl) (by kernel_rfl) (by kernel_rfl) (fun _ _ _ h => h) (Or.inl ⟨by rfl, ?_⟩) (by assumption) ?_
                      rotate_left
                      · (intro w hSw; (try dsimp only at hSw); go_simp); all_goals (with_reducible rfl)
                      try simp only [Act.put, List.setIfInBounds_toArray, List.set_cons_zero, List.set_cons_succ]
                      refine wpAnyH_take (i := 4) (oi := { dst := some 112, op := Op.fieldAddr 66 (Operand.tmp 111) 0, type := 0, pos := "total.go:173", after := #[{ on := 3, ground := Ground.data }], guard := none }) (v := ?_) rfl (by kernel_rfl) (by kernel_rfl) (by kernel_rfl) (fun _ _ _ h => h) (Or.inl ⟨by rfl, ?_⟩) (by assumption) ?_
                      rotate_left
                      · (intro w hSw; (try dsimp only at hSw); go_simp); all_goals (with_reducible rfl)
                      try simp only [Act.put, List.setIfInBounds_toArray, List.set_cons_zero, List.set_cons_succ]
                      refine wpAnyH_take (i := 5) (oi := { dst := some 113, op := Op.load 9 (Operand.tmp 112), type := 9, pos := "total.go:173", after := #[{ on := 4, ground := Ground.data }], guard := none }) (v := ?_) rfl (by kernel_rfl) (by kernel_rfl) (by kernel_rfl) (fun _ _ _ h => h) (Or.inl ⟨by rfl, ?_⟩) (by assumption) ?_
                      rotate_left
                      · (intro w hSw; have pn := hSw.1; (try dsimp only at hSw); go_simp); all_goals (with_reducible rfl)
                      try simp only [Act.put, List.setIfInBounds_toArray, List.set_cons_zero, List.set_cons_succ]
                      refine wpAnyH_take (i := 6) (oi := { dst := some 114, op := Op.load 60 (Operand.tmp 22), type := 60, pos := "total.go:173", after := #[], guard := none }) (v := ?_) rfl (by kernel_rfl) (by kernel_rfl) (by kernel_rfl) (fun _ _ _ h => h) (Or.inl ⟨by rfl, ?_⟩) (by assumption) ?_
                      rotate_left
                      · (intro w hSw; obtain ⟨x0, x1⟩ := box2 hSw.2; (try dsimp only at hSw); go_simp); all_goals (with_reducible rfl)
                      try simp only [Act.put, List.setIfInBounds_toArray, List.set_cons_zero, List.set_cons_succ]
                      refine wpAnyH_take (i := 7) (oi := { dst := some 115, op := Op.move (Operand.tmp 21), type := 3, pos := "total.go:173", after := #[], guard := none }) (v := ?_) rfl (by kernel_rfl) (by kernel_rfl) (by kernel_rfl) (fun _ _ _ h => h) (Or.inl ⟨by rfl, ?_⟩) (by assumption) ?_
                      rotate_left
                      · (intro w hSw; (try dsimp only at hSw); go_simp); all_goals (with_reducible rfl)
                      try simp only [Act.put, List.setIfInBounds_toArray, List.set_cons_zero, List.set_cons_succ]
                      refine wpAnyH_take (i := 8) (oi := { dst := some 116, op := Op.build 63 #[(0, Operand.tmp 113), (1, Operand.tmp 114), (2, Operand.tmp 115)], type := 63, pos := "total.go:173", after := #[{ on := 5, ground := Ground.data }, { on := 6, ground := Ground.data }, { on := 7, ground := Ground.data }], guard := none }) (v := ?_) rfl (by kernel_rfl) (by kernel_rfl) (by kernel_rfl) (fun _ _ _ h => h) (Or.inl ⟨by rfl, ?_⟩) (by assumption) ?_
                      rotate_left
                      · (intro w hSw; (try dsimp only at hSw); go_simp); all_goals (with_reducible rfl)
                      try simp only [Act.put, List.setIfInBounds_toArray, List.set_cons_zero, List.set_cons_succ]
                      refine wpAnyH_ready (rs := [9]) (by kernel_rfl) (by simp) ?_
                      refine AllReadyH.cons (o := { dst := some 117, op := Op.buildSlice 47 1 #[(0, Operand.tmp 116)], type := 47, pos := "total.go:173", after := #[{ on := 8, ground := Ground.data }], guard := none }) rfl (fun K hK => ?_) ?_
                      · -- buildSlice
                        (go_simp; replace hS := hS2)
                        refine hK.out _ _ ?_ (fun hHeld => ?_)
                        · (try dsimp only)
                          exact hS
                        clear hK K
                        try simp only [Act.put, List.setIfInBounds_toArray, List.set_cons_zero, List.set_cons_succ]
                        refine wpAnyH_ready (rs := [10]) (by kernel_rfl) (by simp) ?_
                        refine AllReadyH.cons (o := { dst := some 118, op := Op.call { callee := Callee.builtin Builtin.append, args := #[Operand.tmp 108, Operand.tmp 117], argTypes := #[47, 47] }, type := 47, pos := "total.go:173", after := #[{ on := 0, ground := Ground.data }, { on := 9, ground := Ground.data }], guard := none }) rfl (fun K hK => ?_) ?_
                        · -- append
                          (refine app_step rfl (app_run (s := .tmp 108) (x := .tmp 117) rfl rfl rfl rfl hrun) ?_; replace hS := hS3)
                          refine hK.out _ _ ?_ (fun hHeld => ?_)
                          · (try dsimp only)
                            exact hS
                          clear hK K
                          try simp only [Act.put, List.setIfInBounds_toArray, List.set_cons_zero, List.set_cons_succ]
                          refine wpAnyH_take (i := 11) (oi := { dst := some 19, op := Op.assign (Operand.tmp 118), type := 47, pos := "total.go:173", after := #[{ on := 10, ground := Ground.data }, { on := 10, ground := Ground.chain }, { on := 0, ground := Ground.phase }, { on := 1, ground := Ground.phase }, { on := 2, ground := Ground.phase }, { on := 3, ground := Ground.phase }, { on := 4, ground := Ground.phase }, { on := 5, ground := Ground.phase }, { on := 6, ground := Ground.phase }, { on := 7, ground := Ground.phase }, { on := 8, ground := Ground.phase }, { on := 9, ground := Ground.phase }, { on := 10, ground := Ground.phase }], guard := none }) (v := ?_) rfl (by kernel_rfl) (by kernel_rfl) (by kernel_rfl) (fun _ _ _ h => h) (Or.inl ⟨by rfl, ?_⟩) (by assumption) ?_
                          rotate_left
                          · (intro w hSw; (try dsimp only at hSw); go_simp); all_goals (with_reducible rfl)
                          try simp only [Act.put, List.setIfInBounds_toArray, List.set_cons_zero, List.set_cons_succ]
                          refine wpAnyH_done (by kernel_rfl) ?_ _
                          go_wp2_with fail
                          go_roundw
                          case rel => exact ⟨j + 1, by omega, by go_num, hP2, HR9.out.1, HR9.out.2⟩
                          case measure => simp [numOf'] <;> omega
                        exact AllReadyH.nil
                      exact AllReadyH.nil
                  · have hgt : n < (pl : Int) := by omega
                    have hstop : outL i k n.toNat S j = outL i k n.toNat S N := by
                      have := outL_stop (i := i) (k := k) (n := n.toNat) (S := S) (j := j) (by rw [hpl]; omega) (N - j)
                      rw [show j + (N - j) = N by omega] at this
                      exact this.symm
                    have HF := Lib.hid (hfin.out W12 u19 j hstop hrow)
                    clear hrow hstop hP hx12 hx14 hpl hle hb12
                    rw [HPL.out]
                    go_wp2_with fail
                    go_ret2
                    exact ⟨⟨_, _, rfl, HF.out⟩, hB12⟩
              · obtain rfl : j = N := by omega
                have HF := Lib.hid (hfin.out wr u19 j rfl hrow)
                clear hrow hP hx12 hx14 hx18
                go_wp2_with fail
                go_ret2
                exact ⟨⟨_, _, rfl, HF.out⟩, hBr⟩
        · have hE0' : (E != 0) = true := by simpa using hE0
          have HA : Hid (LdAns W6 w.heap.size 63 (.slice none 0 0) E t num den least n) := Lib.hid ⟨by unfold ldE; rw [HEK.out, if_neg hE0], fun h => absurd h hE0, fun _ => rfl⟩
          clear HEK HFE hx8 hx12 hx14
          go_wp2_with fail
          go_ret2
          exact ⟨⟨_, _, rfl, HA.out⟩, hB6⟩
      exact AllReadyH.nil
    exact AllReadyH.nil
  exact AllReadyH.nil
end Go.Proofs.Tryz
