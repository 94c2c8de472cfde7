/- SeasonGames: the law returns true. -/
import Derived.Test.YtbfonnoebbjenaaGreatDoorAxU
import Derived.Test.YtbfonnoebbjenaaGreatDoorAxK
import Derived.Test.YtbfonnoebbjenaaGreatDoorAxR
namespace Go.Proofs.Tryz
open Go Go.Am Go.RowKit Go.Op
set_option maxRecDepth 100000

theorem one_ok {G : GmD} (h : ShortOk 1 (fun _ => G) 1) : shGm G := h.2.2 0 (by decide)
set_option maxHeartbeats 6400000 in
theorem games_law {w : World} (hlaid : Laid w) {v : Value} {g : Nat → GmD} {n : Nat} (hv : IsGames w v g n) {G : GmD} {ad : Option Addr} {kc : Nat} (hG : IsLines w (.slice ad G.k kc) G.l G.k) :
    Calls prog 9 #[v, G.val (.slice ad G.k kc)] w fun e w' => e = .returned (.bool true) ∧ Below w.heap.size w w' := by
  have hb0 : Below w.heap.size w (w.alloc (.cells (G.arr (.slice ad G.k kc)) 105)) := (Below.refl _ _).alloc (Nat.le_refl _) _
  have hx := at_new w (G.arr (.slice ad G.k kc)) 105
  obtain ⟨W1, hW⟩ : ∃ W1, w.alloc (.cells (G.arr (.slice ad G.k kc)) 105) = W1 := ⟨_, rfl⟩
  rw [hW] at hb0 hx
  unfold GmD.arr at hW hx
  have hlaid1 := hlaid.below hb0
  have c15 := awake_w hlaid1
  have c16 : ∀ W, Below w.heap.size w W → Calls prog 16 #[v, .int .i64 6] W fun e w' => AnsB e (ShortOk 6 g n) ∧ w' = W := fun W h => short_w (hv.below h) 6
  unfold GmD.val
  have hv0 := hv
  obtain ⟨lv0, hr, -⟩ := hv0
  obtain ⟨va, vc, rfl, hnc⟩ := hr.slice
  clear hr
  go_enter func9, ntmps9
  go_wp2_with fail
  try rw [hW]
  clear hW
  go_at_call 15
  refine c15.mono ?_
  rintro e W2 ⟨rfl, hk⟩
  have hb2 := hb0.trans (hk.mono hb0.size)
  have hx2 := hx.below hk hx.lt
  have hlaid2 := hlaid1.below hk
  clear c15 hk hx hb0 hlaid1
  go_wp2_with fail
  go_at_call 16
  refine (c16 _ hb2).mono ?_
  rintro e W3 ⟨⟨b1, rfl, h1⟩, rfl⟩
  have c15 := awake_w hlaid2
  cases b1 with
  | false =>
    clear c16 h1
    go_wp2_with fail
    go_at_call 15
    refine c15.mono ?_
    rintro e W4 ⟨rfl, hk⟩
    have hb4 := hb2.trans (hk.mono hb2.size)
    clear c15 hk hb2
    go_wp2_with fail
    go_ret
    exact ⟨rfl, hb4⟩
  | true =>
    have hsh := h1 rfl
    obtain ⟨⟨x0, x1, x2, x3, x4, x5, x6, x7⟩, -⟩ := box8 hx2
    have hal : Below W3.heap.size W3 (W3.alloc (.cells (G.arr (.slice ad G.k kc)) 105)) := (Below.refl _ _).alloc (Nat.le_refl _) _
    have c16 : Calls prog 16 #[.slice (some ⟨W3.heap.size, 0, none⟩) 1 1, .int .i64 1] (W3.alloc (.cells (G.arr (.slice ad G.k kc)) 105)) fun e w' => AnsB e (ShortOk 1 (fun _ => G) 1) ∧ w' = (W3.alloc (.cells (G.arr (.slice ad G.k kc)) 105)) := short_w (isGames_one (at_new _ _ _) ((hG.below hb2).below hal) (Nat.le_refl _)) 1
    have hb3 := hb2.trans (hal.mono hb2.size)
    have hx3 := hx2.below hal hx2.lt
    have hlaid3 := hlaid2.below hal
    obtain ⟨W4, hW4⟩ : ∃ W4, W3.alloc (.cells (G.arr (.slice ad G.k kc)) 105) = W4 := ⟨_, rfl⟩
    rw [hW4] at c16 hb3 hx3 hlaid3
    unfold GmD.arr at hW4
    clear h1 hx2 hb2 hlaid2 c15 hal
    go_wp2_with fail
    try rw [hW4]
    clear hW4
    go_at_call 16
    refine c16.mono ?_
    rintro e wq ⟨⟨b2, rfl, h2⟩, rfl⟩
    have c15 := awake_w hlaid3
    cases b2 with
    | false =>
      clear c16 h2
      go_wp2_with fail
      go_at_call 15
      refine c15.mono ?_
      rintro e W4 ⟨rfl, hk⟩
      have hb4 := hb3.trans (hk.mono hb3.size)
      clear c15 hk hb3
      go_wp2_with fail
      go_ret
      exact ⟨rfl, hb4⟩
    | true =>
      have hsG := one_ok (h2 rfl)
      have hn1 : n ≤ 1000 := Nat.le_trans hsh.2.1 (by decide)
      have hk1 : ∀ i, i < n → (g i).k ≤ 1000 := fun i hi => Nat.le_trans (hsh.2.2 i hi).1.2.2.2.2 (by decide)
      have hk2 : ∀ i, i < n → (g i).k ≤ 1000 ∧ (g i).nm.length ≤ 1000 := fun i hi => ⟨hk1 i hi, Nat.le_trans (hsh.2.2 i hi).1.1 (by decide)⟩
      have hGk : G.k ≤ 1000 := Nat.le_trans hsG.1.2.2.2.2 (by decide)
      have hvq := hv.below hb3
      have hGq := hG.below hb3
      clear c15 c16 h2 x0 x1 x2 x3 x4 x5 x6 x7 hv hG hlaid
      obtain ⟨⟨x0, x1, x2, x3, x4, x5, x6, x7⟩, -⟩ := box8 hx3
      obtain ⟨E, hE⟩ : ∃ E, bookE g n = E := ⟨_, rfl⟩
      obtain ⟨E2, hE2⟩ : ∃ E, gmE G = E := ⟨_, rfl⟩
      have hbk : Below wq.heap.size wq wq.drew := (Below.refl _ _).drew
      have c18 : ∀ W, Below wq.heap.size wq W → Calls prog 18 #[.slice va n vc] W fun e w' => (∃ u, e = .returned (.agg #[u]) ∧ OwnGames w' W.heap.size 110 132 u g n) ∧ Below W.heap.size W w' := fun W h => book_of (hvq.below h) hn1 hk1
      have c54 : ∀ W u, IsGames W u g n → Calls prog 54 #[.agg #[u]] W fun e w' => e = .returned (.int .i64 E) ∧ Below W.heap.size W w' := fun W u h => by rw [← hE]; exact book_w h hn1 hk2
      have c21 : ∀ W, Below wq.heap.size wq W → Calls prog 21 #[.slice va n vc] W fun e w' => e = .returned (.int .i64 E) ∧ Below W.heap.size W w' := fun W h => by rw [← hE]; exact bookR_w (hvq.below h) hk1
      have c56 : ∀ W, Below wq.heap.size wq W → Calls prog 56 #[.agg #[.string (bA G.nm), .int .i64 G.ver, .int .i64 G.day, .string (bA G.t0), .string (bA G.t1), .int .i64 G.s0, .int .i64 G.s1, .slice ad G.k kc]] W fun e w' => (∃ a c, e = .returned (.agg #[.string (bA G.nm), .int .i64 G.ver, .int .i64 G.day, .string (bA G.t0), .string (bA G.t1), .int .i64 G.s0, .int .i64 G.s1, .slice a G.k c]) ∧ OwnLines w' W.heap.size 132 (.slice a G.k c) G.l G.k) ∧ Below W.heap.size W w' := fun W h => single_w (hGq.below h) hGk
      have c55 : ∀ W a c, IsLines W (.slice a G.k c) G.l G.k → Calls prog 55 #[.agg #[.string (bA G.nm), .int .i64 G.ver, .int .i64 G.day, .string (bA G.t0), .string (bA G.t1), .int .i64 G.s0, .int .i64 G.s1, .slice a G.k c]] W fun e w' => e = .returned (.int .i64 E2) ∧ Below W.heap.size W w' := fun W a c h => by rw [← hE2]; exact game_w h (Nat.le_trans hGk (by decide))
      have c57 : ∀ W, Below wq.heap.size wq W → Calls prog 57 #[.agg #[.string (bA G.nm), .int .i64 G.ver, .int .i64 G.day, .string (bA G.t0), .string (bA G.t1), .int .i64 G.s0, .int .i64 G.s1, .slice ad G.k kc]] W fun e w' => e = .returned (.int .i64 E2) ∧ Below W.heap.size W w' := fun W h => by rw [← hE2]; exact gameR_w (hGq.below h) (Nat.le_trans hGk (by decide))
      have c59 : ∀ W, Below wq.heap.size wq W → Calls prog 59 #[] W fun e w' => ∃ v, e = .returned v ∧ IsWords w' v kindsW ∧ Below W.heap.size W w' := fun W h => kinds_w (hlaid3.below h)
      have c60 := kindsR_w
      have c58 : ∀ W u v, IsWords W u kindsW → IsWords W v kindsW → Calls prog 58 #[u, v] W fun e w' => e = .returned (.bool true) ∧ Below W.heap.size W w' := fun W u v h1 h2 => sameWords_w h1 h2 (by decide)
      clear hE hE2 hsh hsG hk1 hk2 hvq hGq
      go_wp2_with fail
      refine wp_region_held_drew (S := (fun W => (W.cell? ⟨w.heap.size, 0, none⟩ = some (.string (bA G.nm)) ∧ W.cell? ⟨w.heap.size, 1, none⟩ = some (.int .i64 G.ver) ∧ W.cell? ⟨w.heap.size, 2, none⟩ = some (.int .i64 G.day) ∧ W.cell? ⟨w.heap.size, 3, none⟩ = some (.string (bA G.t0)) ∧ W.cell? ⟨w.heap.size, 4, none⟩ = some (.string (bA G.t1)) ∧ W.cell? ⟨w.heap.size, 5, none⟩ = some (.int .i64 G.s0) ∧ W.cell? ⟨w.heap.size, 6, none⟩ = some (.int .i64 G.s1) ∧ W.cell? ⟨w.heap.size, 7, none⟩ = some (.slice ad G.k kc)) ∧ Below wq.heap.size wq W)) (by kernel_rfl) ?_ (fun hHeld => ?_)
      · (try dsimp only)
        exact ⟨⟨x0, x1, x2, x3, x4, x5, x6, x7⟩, hbk⟩
      refine wpAnyH_take (i := 0) (oi := { dst := some 19, op := Op.move (Operand.tmp 0), type := 22, pos := "law.go:99", after := #[], guard := none }) (v := ?_) rfl (by kernel_rfl) (by kernel_rfl) (by kernel_rfl) (fun _ _ _ h => h) (Or.inl ⟨by rfl, ?_⟩) (by assumption) ?_
      rotate_left
      · (intro w hSw; (try dsimp only at hSw); go_simp); all_goals (with_reducible rfl)
      try simp only [Act.put, List.setIfInBounds_toArray, List.set_cons_zero, List.set_cons_succ]
      refine wpAnyH_take (i := 3) (oi := { dst := some 22, op := Op.move (Operand.tmp 0), type := 22, pos := "law.go:99", after := #[], guard := none }) (v := ?_) rfl (by kernel_rfl) (by kernel_rfl) (by kernel_rfl) (fun _ _ _ h => h) (Or.inl ⟨by rfl, ?_⟩) (by assumption) ?_
      rotate_left
      · (intro w hSw; (try dsimp only at hSw); go_simp); all_goals (with_reducible rfl)
      try simp only [Act.put, List.setIfInBounds_toArray, List.set_cons_zero, List.set_cons_succ]
      refine wpAnyH_ready (rs := [1]) (by kernel_rfl) (by simp) ?_
      refine AllReadyH.cons (o := _) rfl (fun K hK => ?_) ?_
      · -- 18
        (go_simp; refine Calls.mono (c18 _ hbk) ?_; rintro e W ⟨⟨u, rfl, hu⟩, hk⟩; have h18 := hu.is; clear hu; replace hbk := hbk.trans (hk.mono hbk.size); obtain ⟨⟨x0, x1, x2, x3, x4, x5, x6, x7⟩, -⟩ := box8 (hx3.below hbk hx3.lt); clear hk)
        refine hK.out _ _ ?_ (fun hHeld => ?_)
        · (try dsimp only)
          exact ⟨⟨x0, x1, x2, x3, x4, x5, x6, x7⟩, hbk⟩
        clear hK K
        try simp only [Act.put, List.setIfInBounds_toArray, List.set_cons_zero, List.set_cons_succ]
        refine wpAnyH_ready (rs := [2]) (by kernel_rfl) (by simp) ?_
        refine AllReadyH.cons (o := _) rfl (fun K hK => ?_) ?_
        · -- 54
          (go_simp; refine Calls.mono (c54 _ _ h18) ?_; rintro e W ⟨rfl, hk⟩; clear h18; replace hbk := hbk.trans (hk.mono hbk.size); obtain ⟨⟨x0, x1, x2, x3, x4, x5, x6, x7⟩, -⟩ := box8 (hx3.below hbk hx3.lt); clear hk)
          refine hK.out _ _ ?_ (fun hHeld => ?_)
          · (try dsimp only)
            exact ⟨⟨x0, x1, x2, x3, x4, x5, x6, x7⟩, hbk⟩
          clear hK K
          try simp only [Act.put, List.setIfInBounds_toArray, List.set_cons_zero, List.set_cons_succ]
          refine wpAnyH_ready (rs := [4]) (by kernel_rfl) (by simp) ?_
          refine AllReadyH.cons (o := _) rfl (fun K hK => ?_) ?_
          · -- 21
            (go_simp; refine Calls.mono (c21 _ hbk) ?_; rintro e W ⟨rfl, hk⟩; replace hbk := hbk.trans (hk.mono hbk.size); obtain ⟨⟨x0, x1, x2, x3, x4, x5, x6, x7⟩, -⟩ := box8 (hx3.below hbk hx3.lt); clear hk)
            refine hK.out _ _ ?_ (fun hHeld => ?_)
            · (try dsimp only)
              exact ⟨⟨x0, x1, x2, x3, x4, x5, x6, x7⟩, hbk⟩
            clear hK K
            try simp only [Act.put, List.setIfInBounds_toArray, List.set_cons_zero, List.set_cons_succ]
            refine wpAnyH_take (i := 5) (oi := { dst := some 24, op := Op.binOp BinOp.eql 3 (Operand.tmp 21) (Operand.tmp 23) 3, type := 4, pos := "law.go:99", after := #[{ on := 2, ground := Ground.data }, { on := 4, ground := Ground.data }], guard := none }) (v := ?_) rfl (by kernel_rfl) (by kernel_rfl) (by kernel_rfl) (fun _ _ _ h => h) (Or.inl ⟨by rfl, ?_⟩) (by assumption) ?_
            rotate_left
            · (intro w hSw; (try dsimp only at hSw); go_simp); all_goals (with_reducible rfl)
            try simp only [Act.put, List.setIfInBounds_toArray, List.set_cons_zero, List.set_cons_succ]
            refine wpAnyH_take (i := 6) (oi := { dst := some 25, op := Op.move (Operand.tmp 24), type := 4, pos := "law.go:99", after := #[{ on := 5, ground := Ground.data }, { on := 4, ground := Ground.chain }], guard := none }) (v := ?_) rfl (by kernel_rfl) (by kernel_rfl) (by kernel_rfl) (fun _ _ _ h => h) (Or.inl ⟨by rfl, ?_⟩) (by assumption) ?_
            rotate_left
            · (intro w hSw; (try dsimp only at hSw); go_simp); all_goals (with_reducible rfl)
            try simp only [Act.put, List.setIfInBounds_toArray, List.set_cons_zero, List.set_cons_succ]
            refine wpAnyH_take (i := 7) (oi := { dst := some 26, op := Op.load 105 (Operand.tmp 3), type := 105, pos := "law.go:99", after := #[{ on := 6, ground := Ground.guard }], guard := some (6, true) }) (v := ?_) rfl (by kernel_rfl) (by kernel_rfl) (by kernel_rfl) (fun _ _ _ h => h) (Or.inl ⟨by rfl, ?_⟩) (by assumption) ?_
            rotate_left
            · (intro w hSw; (try dsimp only at hSw); go_simp); all_goals (with_reducible rfl)
            try simp only [Act.put, List.setIfInBounds_toArray, List.set_cons_zero, List.set_cons_succ]
            refine wpAnyH_take (i := 10) (oi := { dst := some 29, op := Op.load 105 (Operand.tmp 3), type := 105, pos := "law.go:99", after := #[{ on := 6, ground := Ground.guard }], guard := some (6, true) }) (v := ?_) rfl (by kernel_rfl) (by kernel_rfl) (by kernel_rfl) (fun _ _ _ h => h) (Or.inl ⟨by rfl, ?_⟩) (by assumption) ?_
            rotate_left
            · (intro w hSw; (try dsimp only at hSw); go_simp); all_goals (with_reducible rfl)
            try simp only [Act.put, List.setIfInBounds_toArray, List.set_cons_zero, List.set_cons_succ]
            refine wpAnyH_ready (rs := [8]) (by kernel_rfl) (by simp) ?_
            refine AllReadyH.cons (o := _) rfl (fun K hK => ?_) ?_
            · -- 56
              (go_simp; refine Calls.mono (c56 _ hbk) ?_; rintro e W ⟨⟨a56, k56, rfl, hu⟩, hk⟩; have h56 := hu.is; clear hu; replace hbk := hbk.trans (hk.mono hbk.size); obtain ⟨⟨x0, x1, x2, x3, x4, x5, x6, x7⟩, -⟩ := box8 (hx3.below hbk hx3.lt); clear hk)
              refine hK.out _ _ ?_ (fun hHeld => ?_)
              · (try dsimp only)
                exact ⟨⟨x0, x1, x2, x3, x4, x5, x6, x7⟩, hbk⟩
              clear hK K
              try simp only [Act.put, List.setIfInBounds_toArray, List.set_cons_zero, List.set_cons_succ]
              refine wpAnyH_ready (rs := [9]) (by kernel_rfl) (by simp) ?_
              refine AllReadyH.cons (o := _) rfl (fun K hK => ?_) ?_
              · -- 55
                (go_simp; refine Calls.mono (c55 _ _ _ h56) ?_; rintro e W ⟨rfl, hk⟩; clear h56; replace hbk := hbk.trans (hk.mono hbk.size); obtain ⟨⟨x0, x1, x2, x3, x4, x5, x6, x7⟩, -⟩ := box8 (hx3.below hbk hx3.lt); clear hk)
                refine hK.out _ _ ?_ (fun hHeld => ?_)
                · (try dsimp only)
                  exact ⟨⟨x0, x1, x2, x3, x4, x5, x6, x7⟩, hbk⟩
                clear hK K
                try simp only [Act.put, List.setIfInBounds_toArray, List.set_cons_zero, List.set_cons_succ]
                refine wpAnyH_ready (rs := [11]) (by kernel_rfl) (by simp) ?_
                refine AllReadyH.cons (o := _) rfl (fun K hK => ?_) ?_
                · -- 57
                  (go_simp; refine Calls.mono (c57 _ hbk) ?_; rintro e W ⟨rfl, hk⟩; replace hbk := hbk.trans (hk.mono hbk.size); obtain ⟨⟨x0, x1, x2, x3, x4, x5, x6, x7⟩, -⟩ := box8 (hx3.below hbk hx3.lt); clear hk)
                  refine hK.out _ _ ?_ (fun hHeld => ?_)
                  · (try dsimp only)
                    exact ⟨⟨x0, x1, x2, x3, x4, x5, x6, x7⟩, hbk⟩
                  clear hK K
                  try simp only [Act.put, List.setIfInBounds_toArray, List.set_cons_zero, List.set_cons_succ]
                  refine wpAnyH_take (i := 12) (oi := { dst := some 31, op := Op.binOp BinOp.eql 3 (Operand.tmp 28) (Operand.tmp 30) 3, type := 4, pos := "law.go:99", after := #[{ on := 9, ground := Ground.data }, { on := 11, ground := Ground.data }, { on := 6, ground := Ground.guard }], guard := some (6, true) }) (v := ?_) rfl (by kernel_rfl) (by kernel_rfl) (by kernel_rfl) (fun _ _ _ h => h) (Or.inl ⟨by rfl, ?_⟩) (by assumption) ?_
                  rotate_left
                  · (intro w hSw; (try dsimp only at hSw); go_simp); all_goals (with_reducible rfl)
                  try simp only [Act.put, List.setIfInBounds_toArray, List.set_cons_zero, List.set_cons_succ]
                  refine wpAnyH_take (i := 13) (oi := { dst := some 32, op := Op.pick (Operand.tmp 25) (Operand.tmp 31) (Operand.const (Value.bool false)), type := 4, pos := "law.go:99", after := #[{ on := 6, ground := Ground.data }, { on := 12, ground := Ground.data }], guard := none }) (v := ?_) rfl (by kernel_rfl) (by kernel_rfl) (by kernel_rfl) (fun _ _ _ h => h) (Or.inl ⟨by rfl, ?_⟩) (by assumption) ?_
                  rotate_left
                  · (intro w hSw; (try dsimp only at hSw); go_simp); all_goals (with_reducible rfl)
                  try simp only [Act.put, List.setIfInBounds_toArray, List.set_cons_zero, List.set_cons_succ]
                  refine wpAnyH_take (i := 14) (oi := { dst := some 33, op := Op.move (Operand.tmp 32), type := 4, pos := "law.go:99", after := #[{ on := 13, ground := Ground.data }, { on := 11, ground := Ground.chain }], guard := none }) (v := ?_) rfl (by kernel_rfl) (by kernel_rfl) (by kernel_rfl) (fun _ _ _ h => h) (Or.inl ⟨by rfl, ?_⟩) (by assumption) ?_
                  rotate_left
                  · (intro w hSw; (try dsimp only at hSw); go_simp); all_goals (with_reducible rfl)
                  try simp only [Act.put, List.setIfInBounds_toArray, List.set_cons_zero, List.set_cons_succ]
                  refine wpAnyH_ready (rs := [15]) (by kernel_rfl) (by simp) ?_
                  refine AllReadyH.cons (o := _) rfl (fun K hK => ?_) ?_
                  · -- 59
                    (go_simp; refine Calls.mono (c59 _ hbk) ?_; rintro e W ⟨u59, rfl, h59, hk⟩; replace hbk := hbk.trans (hk.mono hbk.size); obtain ⟨⟨x0, x1, x2, x3, x4, x5, x6, x7⟩, -⟩ := box8 (hx3.below hbk hx3.lt); clear hk)
                    refine hK.out _ _ ?_ (fun hHeld => ?_)
                    · (try dsimp only)
                      exact ⟨⟨x0, x1, x2, x3, x4, x5, x6, x7⟩, hbk⟩
                    clear hK K
                    try simp only [Act.put, List.setIfInBounds_toArray, List.set_cons_zero, List.set_cons_succ]
                    refine wpAnyH_ready (rs := [16]) (by kernel_rfl) (by simp) ?_
                    refine AllReadyH.cons (o := _) rfl (fun K hK => ?_) ?_
                    · -- 60
                      (go_simp; refine Calls.mono (c60 _) ?_; rintro e W ⟨u60, rfl, h60, hk⟩; replace h59 := h59.below hk; replace hbk := hbk.trans (hk.mono hbk.size); obtain ⟨⟨x0, x1, x2, x3, x4, x5, x6, x7⟩, -⟩ := box8 (hx3.below hbk hx3.lt); clear hk)
                      refine hK.out _ _ ?_ (fun hHeld => ?_)
                      · (try dsimp only)
                        exact ⟨⟨x0, x1, x2, x3, x4, x5, x6, x7⟩, hbk⟩
                      clear hK K
                      try simp only [Act.put, List.setIfInBounds_toArray, List.set_cons_zero, List.set_cons_succ]
                      refine wpAnyH_ready (rs := [17]) (by kernel_rfl) (by simp) ?_
                      refine AllReadyH.cons (o := _) rfl (fun K hK => ?_) ?_
                      · -- 58
                        (go_simp; refine Calls.mono (c58 _ _ _ h59 h60) ?_; rintro e W ⟨rfl, hk⟩; replace hbk := hbk.trans (hk.mono hbk.size); obtain ⟨⟨x0, x1, x2, x3, x4, x5, x6, x7⟩, -⟩ := box8 (hx3.below hbk hx3.lt); clear hk)
                        refine hK.out _ _ ?_ (fun hHeld => ?_)
                        · (try dsimp only)
                          exact ⟨⟨x0, x1, x2, x3, x4, x5, x6, x7⟩, hbk⟩
                        clear hK K
                        try simp only [Act.put, List.setIfInBounds_toArray, List.set_cons_zero, List.set_cons_succ]
                        refine wpAnyH_take (i := 18) (oi := { dst := some 37, op := Op.pick (Operand.tmp 33) (Operand.tmp 36) (Operand.const (Value.bool false)), type := 4, pos := "law.go:99", after := #[{ on := 14, ground := Ground.data }, { on := 17, ground := Ground.data }], guard := none }) (v := ?_) rfl (by kernel_rfl) (by kernel_rfl) (by kernel_rfl) (fun _ _ _ h => h) (Or.inl ⟨by rfl, ?_⟩) (by assumption) ?_
                        rotate_left
                        · (intro w hSw; (try dsimp only at hSw); go_simp); all_goals (with_reducible rfl)
                        try simp only [Act.put, List.setIfInBounds_toArray, List.set_cons_zero, List.set_cons_succ]
                        refine wpAnyH_take (i := 19) (oi := { dst := some 4, op := Op.assign (Operand.tmp 37), type := 4, pos := "law.go:99", after := #[{ on := 18, ground := Ground.data }, { on := 17, ground := Ground.chain }, { on := 0, ground := Ground.phase }, { on := 1, ground := Ground.phase }, { on := 2, ground := Ground.phase }, { on := 3, ground := Ground.phase }, { on := 4, ground := Ground.phase }, { on := 5, ground := Ground.phase }, { on := 6, ground := Ground.phase }, { on := 7, ground := Ground.phase }, { on := 8, ground := Ground.phase }, { on := 9, ground := Ground.phase }, { on := 10, ground := Ground.phase }, { on := 11, ground := Ground.phase }, { on := 12, ground := Ground.phase }, { on := 13, ground := Ground.phase }, { on := 14, ground := Ground.phase }, { on := 15, ground := Ground.phase }, { on := 16, ground := Ground.phase }, { on := 17, ground := Ground.phase }, { on := 18, ground := Ground.phase }], guard := none }) (v := ?_) rfl (by kernel_rfl) (by kernel_rfl) (by kernel_rfl) (fun _ _ _ h => h) (Or.inl ⟨by rfl, ?_⟩) (by assumption) ?_
                        rotate_left
                        · (intro w hSw; (try dsimp only at hSw); go_simp); all_goals (with_reducible rfl)
                        try simp only [Act.put, List.setIfInBounds_toArray, List.set_cons_zero, List.set_cons_succ]
                        refine wpAnyH_done (by kernel_rfl) ?_ _
                        have hbz := hb3.trans (hbk.mono hb3.size)
                        go_wp2_with fail
                        go_ret
                        exact ⟨rfl, hbz⟩
                      exact AllReadyH.nil
                    exact AllReadyH.nil
                  exact AllReadyH.nil
                exact AllReadyH.nil
              exact AllReadyH.nil
            exact AllReadyH.nil
          exact AllReadyH.nil
        exact AllReadyH.nil
      exact AllReadyH.nil
end Go.Proofs.Tryz
