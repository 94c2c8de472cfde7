/- The law of SeasonLeaders: by the kit's walk. -/
import Derived.Test.YtbfonnoebbjenaaGreatDoorAxLq
import Derived.Test.YtbfonnoebbjenaaGreatDoorAxLs
import Derived.Deep.CutBlock
namespace Go.Proofs.Tryz
open Go Go.Am Go.RowKit Go.Op
set_option maxRecDepth 100000

theorem IsTots.one {w : World} {l : List Tot} {b off n c : Nat} {t : Tot} (h : IsTots w (.slice (some ⟨b, off, none⟩) n c) l) (ht : l[0]? = some t) : IsTots w (.slice (some ⟨b, off, none⟩) 1 c) [t] := by
  obtain ⟨a, c', e, h1, h2⟩ := h
  have hl : 0 < l.length := (List.getElem?_eq_some_iff.1 ht).1
  obtain ⟨b', off', rfl, h3⟩ := h2 (by omega)
  simp only [Value.slice.injEq, Option.some.injEq, Addr.mk.injEq, and_true] at e
  obtain ⟨⟨rfl, rfl⟩, -, rfl⟩ := e
  refine ⟨_, c, rfl, ?_, fun _ => ⟨b, off, rfl, fun i hi j u hu => ?_⟩⟩
  · show 1 ≤ c
    omega
  · have hi0 : i = 0 := by have : i < 1 := hi; omega
    subst hi0
    refine h3 0 hl j u ?_
    show (l[0]?.getD tot0).cells[j]? = some u
    rw [ht]
    exact hu
theorem firstR3_w (x y z : Int) (b : Nat) (W : World) (h0 : W.cell? ⟨b, 0, none⟩ = some (.int .i64 x)) (h1 : W.cell? ⟨b, 1, none⟩ = some (.int .i64 y)) (h2 : W.cell? ⟨b, 2, none⟩ = some (.int .i64 z)) :
    Calls prog 22 #[.slice (some ⟨b, 0, none⟩) 3 3] W fun e w' => e = .returned (.int .i64 (fstE [x, y, z])) ∧ w' = W :=
  firstR_w [x, y, z] b 3 W (by simp) fun j u h => by
    match j, h with
    | 0, h => simp at h; subst h; exact h0
    | 1, h => simp at h; subst h; exact h1
    | 2, h => simp at h; subst h; exact h2
    | j + 3, h => simp at h
set_option maxHeartbeats 12800000 in
theorem leaders_law {w : World} (hlaid : Laid w) {v : Value} {t : List Tot} (hv : IsTots w v t) (num den : List UInt8) (least n : Int) :
    Calls prog 4 #[v, .agg #[.string (bA num), .string (bA den), .int .i64 least, .int .i64 n]] w fun e w' => e = .returned (.bool true) ∧ Below w.heap.size w w' := by
  have HV := Lib.hid (And.intro hlaid hv)
  have c28 : ∀ W, Below w.heap.size w W → Calls prog 28 #[v, .int .i64 8] W fun e w' => AnsB e (ShortT 8 t) ∧ w' = W := fun W h => shortT_w (hv.below h) 8
  have hx := at_new w #[.string (bA num), .string (bA den), .int .i64 least, .int .i64 n] 45
  have hb0 : Below w.heap.size w (w.alloc (.cells #[.string (bA num), .string (bA den), .int .i64 least, .int .i64 n] 45)) := (Below.refl _ _).alloc (Nat.le_refl _) _
  obtain ⟨W0, hW0⟩ : ∃ W0, w.alloc (.cells #[.string (bA num), .string (bA den), .int .i64 least, .int .i64 n] 45) = W0 := ⟨_, rfl⟩
  rw [hW0] at hx hb0
  have c15 := awake_w (hlaid.below hb0)
  obtain ⟨va, vc, rfl, hkc⟩ := hv.slice
  clear hlaid hv
  go_enter func4, ntmps4
  go_wp2_with fail
  try rw [hW0]
  clear hW0
  go_at_call 15
  refine c15.mono ?_
  rintro e W1 ⟨rfl, hb1⟩
  have hb := hb0.trans (hb1.mono hb0.size)
  have hx1 := hx.below hb1 hx.lt
  clear c15 hb1 hb0 hx
  have c15 := awake_w (HV.out.1.below hb)
  go_wp2_with fail
  go_at_call 28
  refine (c28 _ hb).mono ?_
  rintro e W2 ⟨⟨b1, rfl, h1⟩, rfl⟩
  obtain ⟨⟨x0, x1, x2, x3⟩, -⟩ := box4 hx1
  cases b1 with
  | false =>
    clear c28 h1
    go_wp2_with fail
    go_at_call 15
    refine c15.mono ?_
    rintro e W4 ⟨rfl, hk⟩
    have hb4 := hb.trans (hk.mono hb.size)
    clear c15 hk hb
    go_wp2_with fail
    go_ret
    exact ⟨rfl, hb4⟩
  | true =>
    have hsh := h1 rfl
    clear c28 h1
    by_cases h60 : 60 < (bA num).size
    · have h60' : (60 : Int) < ((bA num).size : Int) := by omega
      go_wp2_with fail
      go_at_call 15
      refine c15.mono ?_
      rintro e W4 ⟨rfl, hk⟩
      have hb4 := hb.trans (hk.mono hb.size)
      clear c15 hk hb
      go_wp2_with fail
      go_ret
      exact ⟨rfl, hb4⟩
    have h60' : ¬ (60 : Int) < ((bA num).size : Int) := by omega
    by_cases h61 : 60 < (bA den).size
    · have h61' : (60 : Int) < ((bA den).size : Int) := by omega
      go_wp2_with fail
      go_at_call 15
      refine c15.mono ?_
      rintro e W4 ⟨rfl, hk⟩
      have hb4 := hb.trans (hk.mono hb.size)
      clear c15 hk hb
      go_wp2_with fail
      go_ret
      exact ⟨rfl, hb4⟩
    have h61' : ¬ (60 : Int) < ((bA den).size : Int) := by omega
    have hn1 : t.length ≤ 4098 := hsh.2
    obtain ⟨N, hN⟩ : ∃ N, t.length = N := ⟨_, rfl⟩
    have HN := Lib.hid hN
    have c30 : ∀ W, Below w.heap.size w W → Calls prog 30 #[.slice va t.length vc] W _ := fun W h => totals_w (HV.out.2.below h) (Nat.le_trans hn1 (by decide))
    have c29 : ∀ W u, Below w.heap.size w W → IsTots W u t → Calls prog 29 _ W _ := fun W u h hu => leaders_w (HV.out.1.below h) hu (Nat.le_trans hn1 (by decide)) num den least n
    have hS := hx1.drew
    have hbk := hb.drew
    have hn2 : N ≤ 4098 := by rw [← hN]; exact hn1
    rw [hN] at c30 hkc ⊢
    clear c15 hsh h60 h61 hN
    go_wp2_with fail
    clear h60' h61' x0 x1 x2 x3
    go_cut [5, 6] (fun s5 s6 wx => ∃ (b : Nat) (x : Int), s6 = .int .i64 x ∧ LdAns wx b 63 s5 x t num den least n ∧ At wx w.heap.size #[.string (bA num), .string (bA den), .int .i64 least, .int .i64 n] 45 ∧ Below w.heap.size w wx)
    case first =>
      as_aux_lemma =>
        clear hb
        refine wp_region_held_drew (S := (fun W => At W w.heap.size #[.string (bA num), .string (bA den), .int .i64 least, .int .i64 n] 45)) (by kernel_rfl) ?_ (fun hHeld => ?_)
        · (try dsimp only)
          exact hS
        refine wpAnyH_take (i := 0) (oi := { dst := some 37, op := Op.move (Operand.tmp 0), type := 38, pos := "law.go:221", after := #[], guard := none }) (v := ?_) rfl (by kernel_rfl) (by kernel_rfl) (by kernel_rfl) (fun _ _ _ h => h) (Or.inl ⟨by rfl, ?_⟩) (by assumption) ?_
        rotate_left
        · (intro w hSw; (try dsimp only at hSw); go_simp); all_goals (with_reducible rfl)
        try simp only [Act.put, List.setIfInBounds_toArray, List.set_cons_zero, List.set_cons_succ]
        refine wpAnyH_take (i := 2) (oi := { dst := some 39, op := Op.fieldAddr 45 (Operand.tmp 3) 0, type := 0, pos := "law.go:221", after := #[], guard := none }) (v := ?_) rfl (by kernel_rfl) (by kernel_rfl) (by kernel_rfl) (fun _ _ _ h => h) (Or.inl ⟨by rfl, ?_⟩) (by assumption) ?_
        rotate_left
        · (intro w hSw; (try dsimp only at hSw); go_simp); all_goals (with_reducible rfl)
        try simp only [Act.put, List.setIfInBounds_toArray, List.set_cons_zero, List.set_cons_succ]
        refine wpAnyH_take (i := 3) (oi := { dst := some 40, op := Op.load 9 (Operand.tmp 39), type := 9, pos := "law.go:221", after := #[{ on := 2, ground := Ground.data }], guard := none }) (v := ?_) rfl (by kernel_rfl) (by kernel_rfl) (by kernel_rfl) (fun _ _ _ h => h) (Or.inl ⟨by rfl, ?_⟩) (by assumption) ?_
        rotate_left
        · (intro w hSw; obtain ⟨⟨b0, b1, b2, b3⟩, -⟩ := box4 hSw; (try dsimp only at hSw); go_simp); all_goals (with_reducible rfl)
        try simp only [Act.put, List.setIfInBounds_toArray, List.set_cons_zero, List.set_cons_succ]
        refine wpAnyH_take (i := 4) (oi := { dst := some 41, op := Op.fieldAddr 45 (Operand.tmp 3) 1, type := 0, pos := "law.go:221", after := #[], guard := none }) (v := ?_) rfl (by kernel_rfl) (by kernel_rfl) (by kernel_rfl) (fun _ _ _ h => h) (Or.inl ⟨by rfl, ?_⟩) (by assumption) ?_
        rotate_left
        · (intro w hSw; (try dsimp only at hSw); go_simp); all_goals (with_reducible rfl)
        try simp only [Act.put, List.setIfInBounds_toArray, List.set_cons_zero, List.set_cons_succ]
        refine wpAnyH_take (i := 5) (oi := { dst := some 42, op := Op.load 9 (Operand.tmp 41), type := 9, pos := "law.go:221", after := #[{ on := 4, ground := Ground.data }], guard := none }) (v := ?_) rfl (by kernel_rfl) (by kernel_rfl) (by kernel_rfl) (fun _ _ _ h => h) (Or.inl ⟨by rfl, ?_⟩) (by assumption) ?_
        rotate_left
        · (intro w hSw; obtain ⟨⟨b0, b1, b2, b3⟩, -⟩ := box4 hSw; (try dsimp only at hSw); go_simp); all_goals (with_reducible rfl)
        try simp only [Act.put, List.setIfInBounds_toArray, List.set_cons_zero, List.set_cons_succ]
        refine wpAnyH_take (i := 6) (oi := { dst := some 43, op := Op.fieldAddr 45 (Operand.tmp 3) 2, type := 0, pos := "law.go:221", after := #[], guard := none }) (v := ?_) rfl (by kernel_rfl) (by kernel_rfl) (by kernel_rfl) (fun _ _ _ h => h) (Or.inl ⟨by rfl, ?_⟩) (by assumption) ?_
        rotate_left
        · (intro w hSw; (try dsimp only at hSw); go_simp); all_goals (with_reducible rfl)
        try simp only [Act.put, List.setIfInBounds_toArray, List.set_cons_zero, List.set_cons_succ]
        refine wpAnyH_take (i := 7) (oi := { dst := some 44, op := Op.load 3 (Operand.tmp 43), type := 3, pos := "law.go:221", after := #[{ on := 6, ground := Ground.data }], guard := none }) (v := ?_) rfl (by kernel_rfl) (by kernel_rfl) (by kernel_rfl) (fun _ _ _ h => h) (Or.inl ⟨by rfl, ?_⟩) (by assumption) ?_
        rotate_left
        · (intro w hSw; obtain ⟨⟨b0, b1, b2, b3⟩, -⟩ := box4 hSw; (try dsimp only at hSw); go_simp); all_goals (with_reducible rfl)
        try simp only [Act.put, List.setIfInBounds_toArray, List.set_cons_zero, List.set_cons_succ]
        refine wpAnyH_take (i := 8) (oi := { dst := some 45, op := Op.fieldAddr 45 (Operand.tmp 3) 3, type := 0, pos := "law.go:221", after := #[], guard := none }) (v := ?_) rfl (by kernel_rfl) (by kernel_rfl) (by kernel_rfl) (fun _ _ _ h => h) (Or.inl ⟨by rfl, ?_⟩) (by assumption) ?_
        rotate_left
        · (intro w hSw; (try dsimp only at hSw); go_simp); all_goals (with_reducible rfl)
        try simp only [Act.put, List.setIfInBounds_toArray, List.set_cons_zero, List.set_cons_succ]
        refine wpAnyH_take (i := 9) (oi := { dst := some 46, op := Op.load 3 (Operand.tmp 45), type := 3, pos := "law.go:221", after := #[{ on := 8, ground := Ground.data }], guard := none }) (v := ?_) rfl (by kernel_rfl) (by kernel_rfl) (by kernel_rfl) (fun _ _ _ h => h) (Or.inl ⟨by rfl, ?_⟩) (by assumption) ?_
        rotate_left
        · (intro w hSw; obtain ⟨⟨b0, b1, b2, b3⟩, -⟩ := box4 hSw; (try dsimp only at hSw); go_simp); all_goals (with_reducible rfl)
        try simp only [Act.put, List.setIfInBounds_toArray, List.set_cons_zero, List.set_cons_succ]
        refine wpAnyH_ready (rs := [1]) (by kernel_rfl) (by simp) ?_
        refine AllReadyH.cons (o := _) rfl (fun K hK => ?_) ?_
        · -- 30
          (go_simp; refine Calls.mono (c30 _ hbk) ?_; rintro e W ⟨⟨u30, rfl, hu⟩, hk⟩; have h30 := hu.is; clear hu; replace hS := hS.below hk hS.lt; replace hbk := hbk.trans (hk.mono hbk.size); clear hk)
          refine hK.out _ _ ?_ (fun hHeld => ?_)
          · (try dsimp only)
            exact hS
          clear hK K
          try simp only [Act.put, List.setIfInBounds_toArray, List.set_cons_zero, List.set_cons_succ]
          refine wpAnyH_ready (rs := [10]) (by kernel_rfl) (by simp) ?_
          refine AllReadyH.cons (o := _) rfl (fun K hK => ?_) ?_
          · -- 29
            (go_simp; refine Calls.mono (c29 _ _ hbk h30) ?_; rintro e W ⟨⟨u29, x29, rfl, h29⟩, hk⟩; clear h30; replace hS := hS.below hk hS.lt; replace hbk := hbk.trans (hk.mono hbk.size); clear hk)
            refine hK.out _ _ ?_ (fun hHeld => ?_)
            · (try dsimp only)
              exact hS
            clear hK K
            try simp only [Act.put, List.setIfInBounds_toArray, List.set_cons_zero, List.set_cons_succ]
            refine wpAnyH_take (i := 11) (oi := { dst := some 36, op := Op.move (Operand.tmp 47), type := 48, pos := "law.go:221", after := #[{ on := 10, ground := Ground.data }], guard := none }) (v := ?_) rfl (by kernel_rfl) (by kernel_rfl) (by kernel_rfl) (fun _ _ _ h => h) (Or.inl ⟨by rfl, ?_⟩) (by assumption) ?_
            rotate_left
            · (intro w hSw; (try dsimp only at hSw); go_simp); all_goals (with_reducible rfl)
            try simp only [Act.put, List.setIfInBounds_toArray, List.set_cons_zero, List.set_cons_succ]
            refine wpAnyH_take (i := 12) (oi := { dst := some 48, op := Op.extract (Operand.tmp 36) 0, type := 47, pos := "law.go:221", after := #[{ on := 11, ground := Ground.data }], guard := none }) (v := ?_) rfl (by kernel_rfl) (by kernel_rfl) (by kernel_rfl) (fun _ _ _ h => h) (Or.inl ⟨by rfl, ?_⟩) (by assumption) ?_
            rotate_left
            · (intro w hSw; (try dsimp only at hSw); go_simp); all_goals (with_reducible rfl)
            try simp only [Act.put, List.setIfInBounds_toArray, List.set_cons_zero, List.set_cons_succ]
            refine wpAnyH_take (i := 13) (oi := { dst := some 49, op := Op.extract (Operand.tmp 36) 1, type := 26, pos := "law.go:221", after := #[{ on := 11, ground := Ground.data }, { on := 14, ground := Ground.gcOnly Departure.lateStores }], guard := none }) (v := ?_) rfl (by kernel_rfl) (by kernel_rfl) (by kernel_rfl) (fun _ _ _ h => h) (Or.inl ⟨by rfl, ?_⟩) (by assumption) ?_
            rotate_left
            · (intro w hSw; (try dsimp only at hSw); go_simp); all_goals (with_reducible rfl)
            try simp only [Act.put, List.setIfInBounds_toArray, List.set_cons_zero, List.set_cons_succ]
            refine wpAnyH_take (i := 14) (oi := { dst := some 5, op := Op.assign (Operand.tmp 48), type := 47, pos := "law.go:221", after := #[{ on := 12, ground := Ground.data }, { on := 10, ground := Ground.chain }, { on := 0, ground := Ground.phase }, { on := 1, ground := Ground.phase }, { on := 2, ground := Ground.phase }, { on := 3, ground := Ground.phase }, { on := 4, ground := Ground.phase }, { on := 5, ground := Ground.phase }, { on := 6, ground := Ground.phase }, { on := 7, ground := Ground.phase }, { on := 8, ground := Ground.phase }, { on := 9, ground := Ground.phase }, { on := 10, ground := Ground.phase }, { on := 11, ground := Ground.phase }, { on := 12, ground := Ground.phase }, { on := 13, ground := Ground.textOnly Departure.lateStores }], guard := none }) (v := ?_) rfl (by kernel_rfl) (by kernel_rfl) (by kernel_rfl) (fun _ _ _ h => h) (Or.inl ⟨by rfl, ?_⟩) (by assumption) ?_
            rotate_left
            · (intro w hSw; (try dsimp only at hSw); go_simp); all_goals (with_reducible rfl)
            try simp only [Act.put, List.setIfInBounds_toArray, List.set_cons_zero, List.set_cons_succ]
            refine wpAnyH_take (i := 15) (oi := { dst := some 6, op := Op.assign (Operand.tmp 49), type := 26, pos := "law.go:221", after := #[{ on := 13, ground := Ground.data }, { on := 14, ground := Ground.chain }, { on := 0, ground := Ground.phase }, { on := 1, ground := Ground.phase }, { on := 2, ground := Ground.phase }, { on := 3, ground := Ground.phase }, { on := 4, ground := Ground.phase }, { on := 5, ground := Ground.phase }, { on := 6, ground := Ground.phase }, { on := 7, ground := Ground.phase }, { on := 8, ground := Ground.phase }, { on := 9, ground := Ground.phase }, { on := 10, ground := Ground.phase }, { on := 11, ground := Ground.phase }, { on := 12, ground := Ground.phase }, { on := 13, ground := Ground.phase }, { on := 14, ground := Ground.phase }], guard := none }) (v := ?_) rfl (by kernel_rfl) (by kernel_rfl) (by kernel_rfl) (fun _ _ _ h => h) (Or.inl ⟨by rfl, ?_⟩) (by assumption) ?_
            rotate_left
            · (intro w hSw; (try dsimp only at hSw); go_simp); all_goals (with_reducible rfl)
            try simp only [Act.put, List.setIfInBounds_toArray, List.set_cons_zero, List.set_cons_succ]
            refine wpAnyH_done (by kernel_rfl) ?_ _
            go_wp2_with fail
            go_meet
            exact ⟨_, _, rfl, h29, hS, hbk⟩
          exact AllReadyH.nil
        exact AllReadyH.nil
    case rest =>
      as_aux_lemma =>
        obtain ⟨bL, x, rfl, hLd, hx1, hb⟩ := hcut
        generalize wc = W5 at hLd hx1 hb ⊢
        have hS := hx1
        have HLd := Lib.hid hLd
        obtain ⟨E1, hE1⟩ : ∃ z, totsE t = z := ⟨_, rfl⟩
        obtain ⟨E2, hE2⟩ : ∃ z, inE least 0 999999999 = z := ⟨_, rfl⟩
        obtain ⟨E3, hE3⟩ : ∃ z, inE n 1 256 = z := ⟨_, rfl⟩
        have hEK : ldK t num den least n = fstE [totsE t, kindE num, kindE den, inE least 0 999999999, inE n 1 256] := rfl
        have HK1 := Lib.hid (@kdI_of num)
        have HK2 := Lib.hid (@kdI_of den)
        have c31 : ∀ W, Below W5.heap.size W5 W → Calls prog 31 #[.slice va t.length vc] W _ := fun W h => checkTotsR_w (HV.out.2.below (hb.trans (h.mono hb.size))) (Nat.le_trans hn1 (by decide))
        have c32 := fun W => kindR_w num W
        have c32b := fun W => kindR_w den W
        have c34 := fun W => kindAt_w num W
        have c34b := fun W => kindAt_w den W
        have cr1 := fun W => rangeR_w least 0 999999999 W
        have cr2 := fun W => rangeR_w n 1 256 W
        obtain ⟨kn, hkn⟩ : ∃ z, kindN num = z := ⟨_, rfl⟩
        obtain ⟨kd, hkd⟩ : ∃ z, kindN den = z := ⟨_, rfl⟩
        obtain ⟨en, hen⟩ : ∃ z, kindE num = z := ⟨_, rfl⟩
        obtain ⟨ed, hed⟩ : ∃ z, kindE den = z := ⟨_, rfl⟩
        rw [hkn, hen] at HK1
        rw [hkd, hed] at HK2
        simp only [hE1] at c31
        simp only [hen] at c32
        simp only [hed] at c32b
        simp only [hkn] at c34
        simp only [hkd] at c34b
        simp only [hE2] at cr1
        simp only [hE3] at cr2
        rw [hE1, hE2, hE3, hen, hed] at hEK
        have HEN : Hid (totsE t = E1 ∧ kindE num = en ∧ kindE den = ed ∧ inE least 0 999999999 = E2 ∧ inE n 1 256 = E3) := Lib.hid ⟨hE1, hen, hed, hE2, hE3⟩
        have cF := firstR5_w E1 en ed E2 E3
        obtain ⟨EK, hEE⟩ : ∃ E, fstE [E1, en, ed, E2, E3] = E := ⟨_, rfl⟩
        rw [hEE] at cF hEK
        have HFE := Lib.hid hEE
        have HEK := Lib.hid hEK
        have hdr : Below W5.heap.size W5 W5.drew := (Below.refl _ _).drew
        rw [HN.out] at c31
        clear hE1 hE2 hE3 hkn hkd hen hed hEE hEK hLd
        go_wp2_with fail
        go_cut [7] (fun s7 wx => s7 = .int .i64 EK ∧ Below W5.heap.size W5 wx)
        case first =>
          as_aux_lemma =>
            refine wp_region_quiet_to (C := (fun W => Below W5.heap.size W5 W)) 14 3 #[true, true, true, true, true, true, true, true, true, true, true, true, true, true, false, false, false] (by kernel_rfl) (by kernel_rfl) ?_ ?_
            · (try dsimp only)
              exact hdr
            simp only [List.take_succ_cons, List.take_zero]
            with_reducible refine quiet_take (v := ?_) ?_ ?_ ?_
            rotate_left
            · rfl
            · (intro w hSw; (try dsimp only at hSw); go_simp); all_goals (with_reducible rfl)
            try simp only [Act.put, List.setIfInBounds_toArray, List.set_cons_zero, List.set_cons_succ]
            with_reducible refine quiet_call (f := 31) (args := ?_) (v := .int .i64 E1) ?_ ?_ ?_ ?_
            rotate_left
            · rfl
            · (intro w hSw; (try dsimp only at hSw); go_simp); all_goals (with_reducible rfl)
            · (intro W hSw); exact (c31 W hSw).mono fun e w' ⟨h1, h2⟩ => ⟨h1, hSw.trans (h2.mono hSw.size)⟩
            try simp only [Act.put, List.setIfInBounds_toArray, List.set_cons_zero, List.set_cons_succ]
            with_reducible refine quiet_take (v := ?_) ?_ ?_ ?_
            rotate_left
            · rfl
            · (intro w hSw; (try dsimp only at hSw); go_simp); all_goals (with_reducible rfl)
            try simp only [Act.put, List.setIfInBounds_toArray, List.set_cons_zero, List.set_cons_succ]
            with_reducible refine quiet_take (v := ?_) ?_ ?_ ?_
            rotate_left
            · rfl
            · (intro w hSw; obtain ⟨⟨b0, b1, b2, b3⟩, -⟩ := box4 (hS.below hSw hS.lt); (try dsimp only at hSw); go_simp); all_goals (with_reducible rfl)
            try simp only [Act.put, List.setIfInBounds_toArray, List.set_cons_zero, List.set_cons_succ]
            with_reducible refine quiet_call (f := 32) (args := ?_) (v := .int .i64 en) ?_ ?_ ?_ ?_
            rotate_left
            · rfl
            · (intro w hSw; (try dsimp only at hSw); go_simp); all_goals (with_reducible rfl)
            · (intro W hSw); exact (c32 W ).mono fun e w' ⟨h1, h2⟩ => ⟨h1, hSw.trans (h2.mono hSw.size)⟩
            try simp only [Act.put, List.setIfInBounds_toArray, List.set_cons_zero, List.set_cons_succ]
            with_reducible refine quiet_take (v := ?_) ?_ ?_ ?_
            rotate_left
            · rfl
            · (intro w hSw; (try dsimp only at hSw); go_simp); all_goals (with_reducible rfl)
            try simp only [Act.put, List.setIfInBounds_toArray, List.set_cons_zero, List.set_cons_succ]
            with_reducible refine quiet_take (v := ?_) ?_ ?_ ?_
            rotate_left
            · rfl
            · (intro w hSw; obtain ⟨⟨b0, b1, b2, b3⟩, -⟩ := box4 (hS.below hSw hS.lt); (try dsimp only at hSw); go_simp); all_goals (with_reducible rfl)
            try simp only [Act.put, List.setIfInBounds_toArray, List.set_cons_zero, List.set_cons_succ]
            with_reducible refine quiet_call (f := 32) (args := ?_) (v := .int .i64 ed) ?_ ?_ ?_ ?_
            rotate_left
            · rfl
            · (intro w hSw; (try dsimp only at hSw); go_simp); all_goals (with_reducible rfl)
            · (intro W hSw); exact (c32b W ).mono fun e w' ⟨h1, h2⟩ => ⟨h1, hSw.trans (h2.mono hSw.size)⟩
            try simp only [Act.put, List.setIfInBounds_toArray, List.set_cons_zero, List.set_cons_succ]
            with_reducible refine quiet_take (v := ?_) ?_ ?_ ?_
            rotate_left
            · rfl
            · (intro w hSw; (try dsimp only at hSw); go_simp); all_goals (with_reducible rfl)
            try simp only [Act.put, List.setIfInBounds_toArray, List.set_cons_zero, List.set_cons_succ]
            with_reducible refine quiet_take (v := ?_) ?_ ?_ ?_
            rotate_left
            · rfl
            · (intro w hSw; obtain ⟨⟨b0, b1, b2, b3⟩, -⟩ := box4 (hS.below hSw hS.lt); (try dsimp only at hSw); go_simp); all_goals (with_reducible rfl)
            try simp only [Act.put, List.setIfInBounds_toArray, List.set_cons_zero, List.set_cons_succ]
            with_reducible refine quiet_call (f := 33) (args := ?_) (v := .int .i64 E2) ?_ ?_ ?_ ?_
            rotate_left
            · rfl
            · (intro w hSw; (try dsimp only at hSw); go_simp); all_goals (with_reducible rfl)
            · (intro W hSw); exact (cr1 W).mono fun e w' ⟨h1, h2⟩ => ⟨h1, by rw [h2]; exact hSw⟩
            try simp only [Act.put, List.setIfInBounds_toArray, List.set_cons_zero, List.set_cons_succ]
            with_reducible refine quiet_take (v := ?_) ?_ ?_ ?_
            rotate_left
            · rfl
            · (intro w hSw; (try dsimp only at hSw); go_simp); all_goals (with_reducible rfl)
            try simp only [Act.put, List.setIfInBounds_toArray, List.set_cons_zero, List.set_cons_succ]
            with_reducible refine quiet_take (v := ?_) ?_ ?_ ?_
            rotate_left
            · rfl
            · (intro w hSw; obtain ⟨⟨b0, b1, b2, b3⟩, -⟩ := box4 (hS.below hSw hS.lt); (try dsimp only at hSw); go_simp); all_goals (with_reducible rfl)
            try simp only [Act.put, List.setIfInBounds_toArray, List.set_cons_zero, List.set_cons_succ]
            with_reducible refine quiet_call (f := 33) (args := ?_) (v := .int .i64 E3) ?_ ?_ ?_ ?_
            rotate_left
            · rfl
            · (intro w hSw; (try dsimp only at hSw); go_simp); all_goals (with_reducible rfl)
            · (intro W hSw); exact (cr2 W).mono fun e w' ⟨h1, h2⟩ => ⟨h1, by rw [h2]; exact hSw⟩
            try simp only [Act.put, List.setIfInBounds_toArray, List.set_cons_zero, List.set_cons_succ]
            refine wpQuiet_nil ?_
            intro W hSw
            refine wpAny_of_held (S := fun _ => True) _ _ _ _ ?_
            refine wpAnyH_ready (rs := [14]) (by kernel_rfl) (by simp) ?_
            refine AllReadyH.cons (o := _) rfl (fun K hK => ?_) ?_
            · -- buildSlice
              go_simp
              refine hK.out _ _ trivial (fun _ => ?_)
              clear hK K
              try simp only [List.setIfInBounds_toArray, List.set_cons_zero, List.set_cons_succ]
              refine wpAnyH_ready (rs := [15]) (by kernel_rfl) (by simp) ?_
              refine AllReadyH.cons (o := _) rfl (fun K hK => ?_) ?_
              · -- 22
                go_simp
                refine (cF _ _ (by simp) (by simp) (by simp) (by simp) (by simp)).mono ?_; rintro e w' ⟨rfl, rfl⟩
                refine hK.out _ _ trivial (fun _ => ?_)
                clear hK K
                try simp only [List.setIfInBounds_toArray, List.set_cons_zero, List.set_cons_succ]
                refine wpAnyH_ready (rs := [16]) (by kernel_rfl) (by simp) ?_
                refine AllReadyH.cons (o := _) rfl (fun K hK => ?_) ?_
                · -- assign
                  go_simp
                  refine hK.out _ _ trivial (fun _ => ?_)
                  clear hK K
                  try simp only [List.setIfInBounds_toArray, List.set_cons_zero, List.set_cons_succ]
                  refine wpAnyH_done (by kernel_rfl) ?_ _
                  have hb6 := hSw.alloc hSw.size (.cells #[.int .i64 E1, .int .i64 en, .int .i64 ed, .int .i64 E2, .int .i64 E3] 3)
                  go_wp2_with fail
                  go_meet
                  exact ⟨rfl, hb6⟩
                exact AllReadyH.nil
              exact AllReadyH.nil
            exact AllReadyH.nil
        case rest =>
        as_aux_lemma =>
        obtain ⟨rfl, hbA⟩ := hcut
        have hb := hb.trans (hbA.mono hb.size)
        have hb5 := hbA
        have hx1 := hx1.below hbA hx1.lt
        have hS := hx1
        generalize wc = W6 at hx1 hS hb hb5 ⊢
        clear hbA hdr c31 c32 c32b cr1 cr2 cF
        have hdr : Below W6.heap.size W6 W6.drew := (Below.refl _ _).drew
        go_wp2_with fail
        go_cut [8, 9] (fun s8 s9 wx => s8 = .int .i64 kn ∧ s9 = .int .i64 kd ∧ Below W6.heap.size W6 wx)
        case first =>
          as_aux_lemma =>
            refine wp_region_quiet_to (C := (fun W => Below W6.heap.size W6 W)) 6 2 #[true, true, true, true, true, true, false, false] (by kernel_rfl) (by kernel_rfl) ?_ ?_
            · (try dsimp only)
              exact hdr
            simp only [List.take_succ_cons, List.take_zero]
            with_reducible refine quiet_take (v := ?_) ?_ ?_ ?_
            rotate_left
            · rfl
            · (intro w hSw; (try dsimp only at hSw); go_simp); all_goals (with_reducible rfl)
            try simp only [Act.put, List.setIfInBounds_toArray, List.set_cons_zero, List.set_cons_succ]
            with_reducible refine quiet_take (v := ?_) ?_ ?_ ?_
            rotate_left
            · rfl
            · (intro w hSw; obtain ⟨⟨b0, b1, b2, b3⟩, -⟩ := box4 (hS.below hSw hS.lt); (try dsimp only at hSw); go_simp); all_goals (with_reducible rfl)
            try simp only [Act.put, List.setIfInBounds_toArray, List.set_cons_zero, List.set_cons_succ]
            with_reducible refine quiet_call (f := 34) (args := ?_) (v := .int .i64 kn) ?_ ?_ ?_ ?_
            rotate_left
            · rfl
            · (intro w hSw; (try dsimp only at hSw); go_simp); all_goals (with_reducible rfl)
            · (intro W hSw); exact (c34 W ).mono fun e w' ⟨h1, h2⟩ => ⟨h1, hSw.trans (h2.mono hSw.size)⟩
            try simp only [Act.put, List.setIfInBounds_toArray, List.set_cons_zero, List.set_cons_succ]
            with_reducible refine quiet_take (v := ?_) ?_ ?_ ?_
            rotate_left
            · rfl
            · (intro w hSw; (try dsimp only at hSw); go_simp); all_goals (with_reducible rfl)
            try simp only [Act.put, List.setIfInBounds_toArray, List.set_cons_zero, List.set_cons_succ]
            with_reducible refine quiet_take (v := ?_) ?_ ?_ ?_
            rotate_left
            · rfl
            · (intro w hSw; obtain ⟨⟨b0, b1, b2, b3⟩, -⟩ := box4 (hS.below hSw hS.lt); (try dsimp only at hSw); go_simp); all_goals (with_reducible rfl)
            try simp only [Act.put, List.setIfInBounds_toArray, List.set_cons_zero, List.set_cons_succ]
            with_reducible refine quiet_call (f := 34) (args := ?_) (v := .int .i64 kd) ?_ ?_ ?_ ?_
            rotate_left
            · rfl
            · (intro w hSw; (try dsimp only at hSw); go_simp); all_goals (with_reducible rfl)
            · (intro W hSw); exact (c34b W ).mono fun e w' ⟨h1, h2⟩ => ⟨h1, hSw.trans (h2.mono hSw.size)⟩
            try simp only [Act.put, List.setIfInBounds_toArray, List.set_cons_zero, List.set_cons_succ]
            refine wpQuiet_nil ?_
            intro W hSw
            refine wpAny_of_held (S := fun _ => True) _ _ _ _ ?_
            refine wpAnyH_ready (rs := [6]) (by kernel_rfl) (by simp) ?_
            refine AllReadyH.cons (o := _) rfl (fun K hK => ?_) ?_
            · -- assign
              go_simp
              refine hK.out _ _ trivial (fun _ => ?_)
              clear hK K
              try simp only [List.setIfInBounds_toArray, List.set_cons_zero, List.set_cons_succ]
              refine wpAnyH_ready (rs := [7]) (by kernel_rfl) (by simp) ?_
              refine AllReadyH.cons (o := _) rfl (fun K hK => ?_) ?_
              · -- assign
                go_simp
                refine hK.out _ _ trivial (fun _ => ?_)
                clear hK K
                try simp only [List.setIfInBounds_toArray, List.set_cons_zero, List.set_cons_succ]
                refine wpAnyH_done (by kernel_rfl) ?_ _
                go_wp2_with fail
                go_meet
                exact ⟨rfl, rfl, hSw⟩
              exact AllReadyH.nil
            exact AllReadyH.nil
        case rest =>
        as_aux_lemma =>
        obtain ⟨rfl, rfl, hbA⟩ := hcut
        have hb := hb.trans (hbA.mono hb.size)
        have hb5 := hb5.trans (hbA.mono hb5.size)
        have hx1 := hx1.below hbA hx1.lt
        generalize wc = W7 at hx1 hb hb5 ⊢
        clear hbA hdr c34 c34b hS
        obtain ⟨X, hX⟩ : ∃ X, ldE t num den least n = X := ⟨_, rfl⟩
        have HX := Lib.hid hX
        clear hX
        go_upto_block 0 with fail
        go_cut [7] from 10 (fun s7 wx => s7 = .int .i64 X ∧ Below W7.heap.size W7 wx)
        case first =>
          as_aux_lemma =>
            by_cases hK0 : EK = 0
            · obtain ⟨z1, z2, z3, z4, z5⟩ := fst5_zero (show fstE [E1, en, ed, E2, E3] = 0 by rw [HFE.out, hK0])
              obtain ⟨rfl, hi⟩ := HK1.out z2
              obtain ⟨rfl, hk⟩ := HK2.out z3
              have hXE : Hid (X = if t.any (negT (kdI num) (kdI den)) = true then 3 else 0) := Lib.hid (by rw [← HX.out, ldE, HEK.out, if_pos hK0])
              subst hK0
              have i1 : (kdI num : Int) < 12 := by omega
              have k1 : (kdI den : Int) < 12 := by omega
              clear z1 z2 z3 z4 z5 HK1 HK2 HFE
              go_wp2_with fail
              go_loopw [7, 10] (fun s7 s10 wr => ∃ j : Nat, j ≤ N ∧ s10 = .int .i64 j ∧ s7 = .int .i64 (if (t.take j).any (negT (kdI num) (kdI den)) = true then 3 else 0) ∧ Below W7.heap.size W7 wr) (fun _ s10 _ => N - (numOf' s10).toNat)
              case atStart => exact ⟨0, Nat.zero_le _, rfl, rfl, Below.refl _ _⟩
              case round =>
                as_aux_lemma =>
                  obtain ⟨j, hj, rfl, rfl, hbl⟩ := hrel
                  cases hany : (t.take j).any (negT (kdI num) (kdI den)) with
                  | true =>
                    have hX3 : Hid (X = 3) := Lib.hid (by
                      rw [hXE.out, if_pos]
                      obtain ⟨y, hy, hp⟩ := List.any_eq_true.1 hany
                      exact List.any_eq_true.2 ⟨y, List.mem_of_mem_take hy, hp⟩)
                    simp only [if_true]
                    clear hany
                    by_cases hjN : j < N
                    · have hjj : (j : Int) < (N : Int) := by omega
                      go_wp2_with fail
                      go_meet
                      exact ⟨by rw [hX3.out], hbl⟩
                    · have hjj : ¬ (j : Int) < (N : Int) := by omega
                      go_wp2_with fail
                      go_meet
                      exact ⟨by rw [hX3.out], hbl⟩
                  | false =>
                    simp only [Bool.false_eq_true, if_false]
                    by_cases hjN : j < N
                    · have hjj : (j : Int) < (N : Int) := by omega
                      obtain ⟨y, hy⟩ : ∃ y, t[j]? = some y := ⟨_, List.getElem?_eq_getElem (by rw [HN.out]; exact hjN)⟩
                      obtain ⟨sb, so, sc2, es, -, -, -, -⟩ := HV.out.2.at hy
                      simp only [HN.out, Value.slice.injEq, true_and] at es
                      obtain ⟨rfl, rfl⟩ := es
                      have hwl := hb.trans (hbl.mono hb.size)
                      have HVW : IsTots wr (.slice (some ⟨sb, so, none⟩) t.length vc) t := IsTots.below HV.out.2 hwl
                      have p1 := IsTots.num HVW hy hi
                      have p2 := IsTots.num HVW hy hk
                      have p3 := p1
                      have p4 := p2
                      rw [← Nat.add_assoc] at p3 p4
                      have hsn : (t.take (j + 1)).any (negT (kdI num) (kdI den)) = negT (kdI num) (kdI den) y := by rw [take_snoc hy, List.any_append, hany]; simp
                      have HSN : Hid ((t.take (j + 1)).any (negT (kdI num) (kdI den)) = (decide (y.c (kdI num) < 0) || decide (y.c (kdI den) < 0))) := Lib.hid hsn
                      obtain ⟨n1, hn1'⟩ : ∃ m, y.c (kdI num) = m := ⟨_, rfl⟩
                      obtain ⟨n2, hn2'⟩ : ∃ m, y.c (kdI den) = m := ⟨_, rfl⟩
                      rw [hn1'] at p1 p3
                      rw [hn2'] at p2 p4
                      rw [hn1', hn2'] at HSN
                      clear hany HVW hwl hsn hn1' hn2' hy
                      by_cases hq1 : n1 < 0
                      · have hs1 : Hid ((if (t.take (j + 1)).any (negT (kdI num) (kdI den)) = true then 3 else 0 : Int) = 3) := Lib.hid (by rw [HSN.out, decide_eq_true hq1]; rfl)
                        go_wp2_with fail
                        go_roundw
                        case rel => exact ⟨j + 1, by omega, by go_num, by rw [hs1.out], hbl⟩
                        case measure => simp [numOf'] <;> omega
                      · by_cases hq2 : n2 < 0
                        · have hs1 : Hid ((if (t.take (j + 1)).any (negT (kdI num) (kdI den)) = true then 3 else 0 : Int) = 3) := Lib.hid (by rw [HSN.out, decide_eq_true hq2, Bool.or_true]; rfl)
                          go_wp2_with fail
                          go_roundw
                          case rel => exact ⟨j + 1, by omega, by go_num, by rw [hs1.out], hbl⟩
                          case measure => simp [numOf'] <;> omega
                        · have hs1 : Hid ((if (t.take (j + 1)).any (negT (kdI num) (kdI den)) = true then 3 else 0 : Int) = 0) := Lib.hid (by rw [HSN.out, decide_eq_false hq1, decide_eq_false hq2]; rfl)
                          go_wp2_with fail
                          go_roundw
                          case rel => exact ⟨j + 1, by omega, by go_num, by rw [hs1.out], hbl⟩
                          case measure => simp [numOf'] <;> omega
                    · obtain rfl : j = N := by omega
                      have hX0 : Hid (X = 0) := Lib.hid (by
                        rw [List.take_of_length_le (by rw [HN.out]; exact Nat.le_refl _)] at hany
                        rw [hXE.out, hany]; rfl)
                      clear hany
                      go_wp2_with fail
                      go_meet
                      exact ⟨by rw [hX0.out], hbl⟩
            · have hK1 : (EK == 0) = false := by simpa using hK0
              have hXE : Hid (X = EK) := Lib.hid (by rw [← HX.out, ldE, HEK.out, if_neg hK0])
              clear hK0
              go_wp2_with fail
              go_loopw [7, 10] (fun s7 s10 wr => s10 = .int .i64 0 ∧ s7 = .int .i64 EK ∧ Below W7.heap.size W7 wr) (fun _ s10 _ => (numOf' s10).toNat)
              case atStart => exact ⟨rfl, rfl, Below.refl _ _⟩
              case round =>
                as_aux_lemma =>
                  obtain ⟨rfl, rfl, hbl⟩ := hrel
                  by_cases hjN : 0 < N
                  · have hjj : (0 : Int) < (N : Int) := by omega
                    go_wp2_with fail
                    go_meet
                    exact ⟨by rw [hXE.out], hbl⟩
                  · have hjj : ¬ (0 : Int) < (N : Int) := by omega
                    go_wp2_with fail
                    go_meet
                    exact ⟨by rw [hXE.out], hbl⟩
        case rest =>
        as_aux_lemma =>
        obtain ⟨rfl, hbA⟩ := hcut
        have hb := hb.trans (hbA.mono hb.size)
        have hb5 := hb5.trans (hbA.mono hb5.size)
        have hx1 := hx1.below hbA hx1.lt
        generalize wc = W8 at hx1 hb hb5 ⊢
        clear hbA
        have hxX : Hid (x = X) := Lib.hid (by rw [HLd.out.1, HX.out])
        obtain rfl : x = X := hxX.out
        obtain ⟨⟨x0, x1, x2, x3⟩, -⟩ := box4 hx1
        have hrf : Below W8.heap.size W8 W8 := Below.refl _ _
        go_upto_if 101 with fail
        go_cut [11] (fun s11 wx => ∃ bW : Nat, (x = 0 → LdOk wx bW 62 s11 t (kdI num) (kdI den) least n) ∧ (x ≠ 0 → s11 = .slice none 0 0) ∧ Below W8.heap.size W8 wx)
        case first =>
          as_aux_lemma =>
            by_cases hX0 : x = 0
            · have hK0 : EK = 0 := by
                have h1 := HX.out
                unfold ldE at h1
                rw [HEK.out] at h1
                by_cases q : EK = 0
                · exact q
                · rw [if_neg q] at h1
                  exact absurd (h1.trans hX0) q
              have hneg : t.any (negT (kdI num) (kdI den)) = false := by
                have h1 := HX.out
                unfold ldE at h1
                rw [HEK.out, if_pos hK0] at h1
                cases q : t.any (negT (kdI num) (kdI den)) with
                | false => rfl
                | true => rw [q, if_pos rfl, hX0] at h1; exact absurd h1 (by decide)
              obtain ⟨z1, z2, z3, z4, z5⟩ := fst5_zero (show fstE [E1, en, ed, E2, E3] = 0 by rw [HFE.out, hK0])
              obtain ⟨hk1, hi⟩ := HK1.out z2
              obtain ⟨hk2, hk⟩ := HK2.out z3
              have ht0 : totsE t = 0 := by rw [HEN.out.1, z1]
              have hnn : 1 ≤ n ∧ n ≤ 256 := by
                have h1 : inE n 1 256 = 0 := by rw [HEN.out.2.2.2.2, z5]
                unfold inE at h1
                split at h1
                · cases h1
                · omega
              have c35 := leadersR_w (HV.out.2.below hb) (Nat.le_trans hn1 (by decide)) hi hk least n hnn (totsE_zero ht0).2.1 (ldF_pos (least := least) hk hi ht0 hneg)
              rw [← hk1, ← hk2, HN.out] at c35
              have hX1 : (x == 0) = true := by simpa using hX0
              have HX0 := Lib.hid hX0
              clear hK0 hneg z1 z2 z3 z4 z5 hk1 hk2 ht0 hX0
              go_wp2_with fail
              go_at_call 35
              refine c35.mono ?_
              rintro e W9 ⟨⟨u, rfl, hu⟩, hb9⟩
              clear c35
              go_wp2_with fail
              go_meet
              exact ⟨_, fun _ => hu, fun h => absurd HX0.out h, hb9⟩
            · have hX1 : (x == 0) = false := by simpa using hX0
              have HX0 := Lib.hid hX0
              clear hX0
              go_wp2_with fail
              go_meet
              exact ⟨0, fun h => absurd h HX0.out, fun _ => rfl, hrf⟩
        case rest =>
        as_aux_lemma =>
        obtain ⟨bW, hL0, hL1, hbA⟩ := hcut
        have hb := hb.trans (hbA.mono hb.size)
        have hb5 := hb5.trans (hbA.mono hb5.size)
        have hx1 := hx1.below hbA hx1.lt
        generalize wc = W9 at hx1 hb hb5 hL0 ⊢
        clear hbA hrf x0 x1 x2 x3
        have hD : ∃ D : List (List Value), Row W9 u5 4 D.length (fun r => D[r]?.getD []) ∧ Row W9 u11 4 D.length (fun r => D[r]?.getD []) ∧ (∀ y ∈ D, ∃ p a b c, y = [.string (bA p), .int .i64 a, .int .i64 b, .int .i64 c]) ∧ D.length ≤ 10000 := by
          by_cases hX0 : x = 0
          · obtain ⟨S1, p1, s1, r1⟩ := HLd.out.2.1 hX0
            obtain ⟨S2, p2, s2, r2⟩ := hL0 hX0
            have e := sortL_one (p1.trans p2.symm) s1 s2
            subst e
            have r1 := (OwnRow.below r1 hb5).row
            have r2 := r2.row
            refine ⟨_, r1, r2, fun y hy => ?_, ?_⟩
            · obtain ⟨z, -, rfl⟩ := List.mem_map.1 hy
              exact ⟨_, _, _, _, rfl⟩
            · rw [List.length_map]
              exact Nat.le_trans outL_len (by rw [p1.length_eq]; exact Nat.le_trans (List.length_filter_le _ _) (Nat.le_trans hn1 (by decide)))
          · refine ⟨[], ?_, ?_, fun y hy => absurd hy List.not_mem_nil, Nat.zero_le _⟩
            · rw [HLd.out.2.2 hX0]; exact Row.nil _ _ _
            · rw [hL1 hX0]; exact Row.nil _ _ _
        obtain ⟨D, hr1, hr2, hDc, hDl⟩ := hD
        obtain ⟨M, hM⟩ : ∃ M, D.length = M := ⟨_, rfl⟩
        have HM := Lib.hid hM
        rw [hM] at hr1 hr2 hDl
        have HR := Lib.hid (And.intro hr1 (And.intro hr2 hDc))
        obtain ⟨a5, c5, rfl, -⟩ := hr1.slice
        obtain ⟨a6, c6, rfl, -⟩ := hr2.slice
        have hxx : (x != x) = false := by simp
        clear hL0 hL1 hr1 hr2 hDc hM hb5
        go_wp2_with fail
        go_loopw [122] (fun s wr => ∃ j : Nat, j ≤ M ∧ s = .int .i64 j ∧ Below W9.heap.size W9 wr) (fun s _ => M - (numOf' s).toNat)
        case atStart => exact ⟨0, Nat.zero_le _, rfl, Below.refl _ _⟩
        case round =>
          as_aux_lemma =>
            obtain ⟨j, hj, rfl, hbl⟩ := hrel
            by_cases hjM : j < M
            · obtain ⟨y, hy⟩ : ∃ y, D[j]? = some y := ⟨_, List.getElem?_eq_getElem (by rw [HM.out]; exact hjM)⟩
              obtain ⟨yp, ya, yb, yc, rfl⟩ := HR.out.2.2 y (List.mem_of_getElem? hy)
              obtain ⟨sb, so, sk, es, -, p0⟩ := (Row.below HR.out.1 hbl).at hjM
              obtain ⟨tb, to', tk, et, -, q0⟩ := (Row.below HR.out.2.1 hbl).at hjM
              simp only [Value.slice.injEq, true_and] at es et
              obtain ⟨rfl, rfl⟩ := es
              obtain ⟨rfl, rfl⟩ := et
              simp only [hy, Option.getD_some] at p0 q0
              have g0 := p0 0 _ rfl
              have g1 := p0 1 _ rfl
              have g2 := p0 2 _ rfl
              have g3 := p0 3 _ rfl
              have k0 := q0 0 _ rfl
              have k1 := q0 1 _ rfl
              have k2 := q0 2 _ rfl
              have k3 := q0 3 _ rfl
              rw [Nat.add_zero] at g0 k0
              have hjj : (j : Int) < (M : Int) := by omega
              have hne := neq_ld62 yp ya yb yc
              clear p0 q0 hy
              go_wp2_with fail
              go_quiet (fail)
              have hbn := belowN hbl nq
              clear g0 g1 g2 g3 k0 k1 k2 k3 hne
              all_goals go_wp2_with fail
              go_roundw
              case rel => exact ⟨j + 1, by omega, by go_num, hbn⟩
              case measure => simp [numOf'] <;> omega
            · obtain rfl : j = M := by omega
              have hjj : ¬ (j : Int) < (j : Int) := by omega
              have hb := hb.trans (hbl.mono hb.size)
              have hx1 := hx1.below hbl hx1.lt
              generalize wr = WA at hx1 hb ⊢
              clear hbl hjM
              by_cases hN0 : N = 0
              · subst hN0
                go_wp2_with fail
                go_ret
                exact ⟨rfl, hb⟩
              · have hN1 : ((N : Int) == 0) = false := by
                  have : ¬ (N : Int) = 0 := by omega
                  exact beq_eq_false_iff_ne.2 this
                obtain ⟨t0, ht0⟩ : ∃ y, t[0]? = some y := ⟨_, List.getElem?_eq_getElem (by rw [HN.out]; omega)⟩
                obtain ⟨sb, so, sc2, es, -, -, -, -⟩ := HV.out.2.at ht0
                simp only [HN.out, Value.slice.injEq, true_and] at es
                obtain ⟨rfl, rfl⟩ := es
                have HVA : Hid (IsTots WA (.slice (some ⟨sb, so, none⟩) t.length vc) t) := Lib.hid (IsTots.below HV.out.2 hb)
                have c36 : ∀ W : World, Below w.heap.size w W → Calls prog 36 _ W _ := fun W h => average_w (HV.out.1.below h) t0 num den
                obtain ⟨AN, hAN⟩ : ∃ z, avgN t0 num den = z := ⟨_, rfl⟩
                obtain ⟨AD, hAD⟩ : ∃ z, avgD t0 num den = z := ⟨_, rfl⟩
                obtain ⟨AE, hAE⟩ : ∃ z, avgE t0 num den = z := ⟨_, rfl⟩
                have HAV : Hid (avgN t0 num den = AN ∧ avgD t0 num den = AD ∧ avgE t0 num den = AE) := Lib.hid ⟨hAN, hAD, hAE⟩
                simp only [hAN, hAD, hAE] at c36
                have hnp : (0 : Int) < (N : Int) := by omega
                have hnp2 : 0 < N := by omega
                have hdr : Below WA.heap.size WA WA.drew := (Below.refl _ _).drew
                have hbk := hdr
                clear hN0 hAN hAD hAE
                go_wp2_with fail
                go_cut [13, 14] (fun s13 s14 wx => ∃ b13, s13 = .pointer (some ⟨b13, 0, none⟩) ∧ s14 = .int .i64 AE ∧ WA.heap.size ≤ b13 ∧ At wx b13 #[.int .i64 AN, .int .i64 AD] 60 ∧ Below WA.heap.size WA wx)
                case first =>
                  as_aux_lemma =>
                    refine wp_region_held_drew (S := (fun W => Below WA.heap.size WA W)) (by kernel_rfl) ?_ (fun hHeld => ?_)
                    · (try dsimp only)
                      exact hbk
                    refine wpAnyH_take (i := 0) (oi := { dst := some 139, op := Op.move (Operand.tmp 0), type := 38, pos := "law.go:244", after := #[], guard := none }) (v := ?_) rfl (by kernel_rfl) (by kernel_rfl) (by kernel_rfl) (fun _ _ _ h => h) (Or.inl ⟨by rfl, ?_⟩) (by assumption) ?_
                    rotate_left
                    · (intro w hSw; (try dsimp only at hSw); go_simp); all_goals (with_reducible rfl)
                    try simp only [Act.put, List.setIfInBounds_toArray, List.set_cons_zero, List.set_cons_succ]
                    refine wpAnyH_take (i := 1) (oi := { dst := some 140, op := Op.indexAddr 38 (Operand.tmp 139) (Operand.const (Value.int IntKind.i64 0)), type := 0, pos := "law.go:244", after := #[{ on := 0, ground := Ground.data }], guard := none }) (v := ?_) rfl (by kernel_rfl) (by kernel_rfl) (by kernel_rfl) (fun _ _ _ h => h) (Or.inl ⟨by rfl, ?_⟩) (by assumption) ?_
                    rotate_left
                    · (intro w hSw; (try dsimp only at hSw); go_simp); all_goals (with_reducible rfl)
                    try simp only [Act.put, List.setIfInBounds_toArray, List.set_cons_zero, List.set_cons_succ]
                    refine wpAnyH_take (i := 2) (oi := { dst := some 141, op := Op.load 56 (Operand.tmp 140), type := 56, pos := "law.go:244", after := #[{ on := 1, ground := Ground.data }], guard := none }) (v := ?_) rfl (by kernel_rfl) (by kernel_rfl) (by kernel_rfl) (fun _ _ _ h => h) (Or.inl ⟨by rfl, ?_⟩) (by assumption) ?_
                    rotate_left
                    · (intro w hSw; obtain ⟨y0, y1, y2, y3, y4, y5, y6, y7, y8, y9, y10, y11, y12, y13⟩ := IsTots.all (HVA.out.below hSw) ht0; simp only [Nat.zero_mul, Nat.add_zero] at y0 y1 y2 y3 y4 y5 y6 y7 y8 y9 y10 y11 y12 y13; (try dsimp only at hSw); go_simp); all_goals (with_reducible rfl)
                    try simp only [Act.put, List.setIfInBounds_toArray, List.set_cons_zero, List.set_cons_succ]
                    refine wpAnyH_take (i := 3) (oi := { dst := some 142, op := Op.fieldAddr 45 (Operand.tmp 3) 0, type := 0, pos := "law.go:244", after := #[], guard := none }) (v := ?_) rfl (by kernel_rfl) (by kernel_rfl) (by kernel_rfl) (fun _ _ _ h => h) (Or.inl ⟨by rfl, ?_⟩) (by assumption) ?_
                    rotate_left
                    · (intro w hSw; (try dsimp only at hSw); go_simp); all_goals (with_reducible rfl)
                    try simp only [Act.put, List.setIfInBounds_toArray, List.set_cons_zero, List.set_cons_succ]
                    refine wpAnyH_take (i := 4) (oi := { dst := some 143, op := Op.load 9 (Operand.tmp 142), type := 9, pos := "law.go:244", after := #[{ on := 3, ground := Ground.data }], guard := none }) (v := ?_) rfl (by kernel_rfl) (by kernel_rfl) (by kernel_rfl) (fun _ _ _ h => h) (Or.inl ⟨by rfl, ?_⟩) (by assumption) ?_
                    rotate_left
                    · (intro w hSw; obtain ⟨⟨b0, b1, b2, b3⟩, -⟩ := box4 (hx1.below hSw hx1.lt); (try dsimp only at hSw); go_simp); all_goals (with_reducible rfl)
                    try simp only [Act.put, List.setIfInBounds_toArray, List.set_cons_zero, List.set_cons_succ]
                    refine wpAnyH_take (i := 5) (oi := { dst := some 144, op := Op.fieldAddr 45 (Operand.tmp 3) 1, type := 0, pos := "law.go:244", after := #[], guard := none }) (v := ?_) rfl (by kernel_rfl) (by kernel_rfl) (by kernel_rfl) (fun _ _ _ h => h) (Or.inl ⟨by rfl, ?_⟩) (by assumption) ?_
                    rotate_left
                    · (intro w hSw; (try dsimp only at hSw); go_simp); all_goals (with_reducible rfl)
                    try simp only [Act.put, List.setIfInBounds_toArray, List.set_cons_zero, List.set_cons_succ]
                    refine wpAnyH_take (i := 6) (oi := { dst := some 145, op := Op.load 9 (Operand.tmp 144), type := 9, pos := "law.go:244", after := #[{ on := 5, ground := Ground.data }], guard := none }) (v := ?_) rfl (by kernel_rfl) (by kernel_rfl) (by kernel_rfl) (fun _ _ _ h => h) (Or.inl ⟨by rfl, ?_⟩) (by assumption) ?_
                    rotate_left
                    · (intro w hSw; obtain ⟨⟨b0, b1, b2, b3⟩, -⟩ := box4 (hx1.below hSw hx1.lt); (try dsimp only at hSw); go_simp); all_goals (with_reducible rfl)
                    try simp only [Act.put, List.setIfInBounds_toArray, List.set_cons_zero, List.set_cons_succ]
                    refine wpAnyH_ready (rs := [7, 11]) (by kernel_rfl) (by simp) ?_
                    refine AllReadyH.cons (o := _) rfl (fun K hK => ?_) ?_
                    · -- 36
                      (go_simp; refine Calls.mono (c36 _ (hb.trans (hbk.mono hb.size))) ?_; rintro e W ⟨rfl, hk⟩; replace hbk := hbk.trans (hk.mono hbk.size); (try replace hx22 := hx22.below hk hx22.lt); have hcalled := True.intro; clear hk)
                      refine hK.out _ _ ?_ (fun hHeld => ?_)
                      · (try dsimp only)
                        exact hbk
                      clear hK K
                      try simp only [Act.put, List.setIfInBounds_toArray, List.set_cons_zero, List.set_cons_succ]
                      refine wpAnyH_take (i := 8) (oi := { dst := some 138, op := Op.move (Operand.tmp 146), type := 64, pos := "law.go:244", after := #[{ on := 7, ground := Ground.data }], guard := none }) (v := ?_) rfl (by kernel_rfl) (by kernel_rfl) (by kernel_rfl) (fun _ _ _ h => h) (Or.inl ⟨by rfl, ?_⟩) (by assumption) ?_
                      rotate_left
                      · (intro w hSw; (try dsimp only at hSw); go_simp); all_goals (with_reducible rfl)
                      try simp only [Act.put, List.setIfInBounds_toArray, List.set_cons_zero, List.set_cons_succ]
                      refine wpAnyH_take (i := 9) (oi := { dst := some 147, op := Op.extract (Operand.tmp 138) 0, type := 60, pos := "law.go:244", after := #[{ on := 8, ground := Ground.data }], guard := none }) (v := ?_) rfl (by kernel_rfl) (by kernel_rfl) (by kernel_rfl) (fun _ _ _ h => h) (Or.inl ⟨by rfl, ?_⟩) (by assumption) ?_
                      rotate_left
                      · (intro w hSw; (try dsimp only at hSw); go_simp); all_goals (with_reducible rfl)
                      try simp only [Act.put, List.setIfInBounds_toArray, List.set_cons_zero, List.set_cons_succ]
                      refine wpAnyH_take (i := 10) (oi := { dst := some 148, op := Op.extract (Operand.tmp 138) 1, type := 26, pos := "law.go:244", after := #[{ on := 8, ground := Ground.data }, { on := 12, ground := Ground.gcOnly Departure.lateStores }], guard := none }) (v := ?_) rfl (by kernel_rfl) (by kernel_rfl) (by kernel_rfl) (fun _ _ _ h => h) (Or.inl ⟨by rfl, ?_⟩) (by assumption) ?_
                      rotate_left
                      · (intro w hSw; (try dsimp only at hSw); go_simp); all_goals (with_reducible rfl)
                      try simp only [Act.put, List.setIfInBounds_toArray, List.set_cons_zero, List.set_cons_succ]
                      refine wpAnyH_ready (rs := [11]) (by kernel_rfl) (by simp) ?_
                      refine AllReadyH.cons (o := { dst := some 13, op := Op.alloc 60, type := 0, pos := "law.go:244", after := #[], guard := none }) rfl (fun K hK => ?_) ?_
                      · -- alloc
                        (go_simp; first | (have hh := hcalled; have hx22 := newAt hbk #[.int .i64 AN, .int .i64 AD] 60; have hl22 := hbk.size; have hbk2 := hbk.alloc hbk.size (.cells #[.int .i64 AN, .int .i64 AD] 60); have hx0 := newAt hbk #[.int .i64 0, .int .i64 0] 60; replace hbk := hbk.alloc hbk.size (.cells #[.int .i64 0, .int .i64 0] 60)) | (have hx22 : At (WA.drew.alloc (.cells #[.int .i64 0, .int .i64 0] 60)) WA.heap.size #[.int .i64 0, .int .i64 0] 60 := at_new _ _ _; have hl22 : WA.heap.size ≤ WA.heap.size := Nat.le_refl _; replace hbk := hbk.alloc hbk.size (.cells #[.int .i64 0, .int .i64 0] 60)))
                        refine hK.out _ _ ?_ (fun hHeld => ?_)
                        · (try dsimp only)
                          exact hbk
                        clear hK K
                        try simp only [Act.put, List.setIfInBounds_toArray, List.set_cons_zero, List.set_cons_succ]
                        refine wpAnyH_ready (rs := [12]) (by kernel_rfl) (by simp) ?_
                        refine AllReadyH.cons (o := { dst := none, op := Op.store 60 (Operand.tmp 13) (Operand.tmp 147), type := 0, pos := "law.go:244", after := #[{ on := 11, ground := Ground.data }, { on := 9, ground := Ground.data }, { on := 7, ground := Ground.chain }, { on := 0, ground := Ground.phase }, { on := 1, ground := Ground.phase }, { on := 2, ground := Ground.phase }, { on := 3, ground := Ground.phase }, { on := 4, ground := Ground.phase }, { on := 5, ground := Ground.phase }, { on := 6, ground := Ground.phase }, { on := 7, ground := Ground.phase }, { on := 8, ground := Ground.phase }, { on := 9, ground := Ground.phase }, { on := 10, ground := Ground.textOnly Departure.lateStores }, { on := 11, ground := Ground.phase }], guard := none }) rfl (fun K hK => ?_) ?_
                        · -- store
                          (first | (obtain ⟨⟨s0, s1⟩, f0, f1⟩ := box2f hx0; go_simp; replace hbk := hbk2; clear s0 s1 f0 f1) | (obtain ⟨⟨s0, s1⟩, f0, f1⟩ := box2f hx22; go_simp; replace hx22 := (hx22.set 0 (.int .i64 AN)).set 1 (.int .i64 AD); replace hbk := (hbk.setCell (p := ⟨_, 0, none⟩) hl22 (.int .i64 AN)).setCell (p := ⟨_, 1, none⟩) hl22 (.int .i64 AD); clear s0 s1 f0 f1))
                          refine hK.out _ _ ?_ (fun hHeld => ?_)
                          · (try dsimp only)
                            exact hbk
                          clear hK K
                          try simp only [Act.put, List.setIfInBounds_toArray, List.set_cons_zero, List.set_cons_succ]
                          refine wpAnyH_take (i := 13) (oi := { dst := some 14, op := Op.assign (Operand.tmp 148), type := 26, pos := "law.go:244", after := #[{ on := 10, ground := Ground.data }, { on := 12, ground := Ground.chain }, { on := 0, ground := Ground.phase }, { on := 1, ground := Ground.phase }, { on := 2, ground := Ground.phase }, { on := 3, ground := Ground.phase }, { on := 4, ground := Ground.phase }, { on := 5, ground := Ground.phase }, { on := 6, ground := Ground.phase }, { on := 7, ground := Ground.phase }, { on := 8, ground := Ground.phase }, { on := 9, ground := Ground.phase }, { on := 10, ground := Ground.phase }, { on := 11, ground := Ground.phase }, { on := 12, ground := Ground.phase }], guard := none }) (v := ?_) rfl (by kernel_rfl) (by kernel_rfl) (by kernel_rfl) (fun _ _ _ h => h) (Or.inl ⟨by rfl, ?_⟩) (by assumption) ?_
                          rotate_left
                          · (intro w hSw; (try dsimp only at hSw); go_simp); all_goals (with_reducible rfl)
                          try simp only [Act.put, List.setIfInBounds_toArray, List.set_cons_zero, List.set_cons_succ]
                          refine wpAnyH_done (by kernel_rfl) ?_ _
                          go_wp2_with fail
                          go_meet
                          exact ⟨_, rfl, rfl, hl22, hx22, hbk⟩
                        exact AllReadyH.nil
                      exact AllReadyH.nil
                    refine AllReadyH.cons (o := { dst := some 13, op := Op.alloc 60, type := 0, pos := "law.go:244", after := #[], guard := none }) rfl (fun K hK => ?_) ?_
                    · -- alloc
                      (go_simp; first | (have hh := hcalled; have hx22 := newAt hbk #[.int .i64 AN, .int .i64 AD] 60; have hl22 := hbk.size; have hbk2 := hbk.alloc hbk.size (.cells #[.int .i64 AN, .int .i64 AD] 60); have hx0 := newAt hbk #[.int .i64 0, .int .i64 0] 60; replace hbk := hbk.alloc hbk.size (.cells #[.int .i64 0, .int .i64 0] 60)) | (have hx22 : At (WA.drew.alloc (.cells #[.int .i64 0, .int .i64 0] 60)) WA.heap.size #[.int .i64 0, .int .i64 0] 60 := at_new _ _ _; have hl22 : WA.heap.size ≤ WA.heap.size := Nat.le_refl _; replace hbk := hbk.alloc hbk.size (.cells #[.int .i64 0, .int .i64 0] 60)))
                      refine hK.out _ _ ?_ (fun hHeld => ?_)
                      · (try dsimp only)
                        exact hbk
                      clear hK K
                      try simp only [Act.put, List.setIfInBounds_toArray, List.set_cons_zero, List.set_cons_succ]
                      refine wpAnyH_ready (rs := [7]) (by kernel_rfl) (by simp) ?_
                      refine AllReadyH.cons (o := _) rfl (fun K hK => ?_) ?_
                      · -- 36
                        (go_simp; refine Calls.mono (c36 _ (hb.trans (hbk.mono hb.size))) ?_; rintro e W ⟨rfl, hk⟩; replace hbk := hbk.trans (hk.mono hbk.size); (try replace hx22 := hx22.below hk hx22.lt); have hcalled := True.intro; clear hk)
                        refine hK.out _ _ ?_ (fun hHeld => ?_)
                        · (try dsimp only)
                          exact hbk
                        clear hK K
                        try simp only [Act.put, List.setIfInBounds_toArray, List.set_cons_zero, List.set_cons_succ]
                        refine wpAnyH_take (i := 8) (oi := { dst := some 138, op := Op.move (Operand.tmp 146), type := 64, pos := "law.go:244", after := #[{ on := 7, ground := Ground.data }], guard := none }) (v := ?_) rfl (by kernel_rfl) (by kernel_rfl) (by kernel_rfl) (fun _ _ _ h => h) (Or.inl ⟨by rfl, ?_⟩) (by assumption) ?_
                        rotate_left
                        · (intro w hSw; (try dsimp only at hSw); go_simp); all_goals (with_reducible rfl)
                        try simp only [Act.put, List.setIfInBounds_toArray, List.set_cons_zero, List.set_cons_succ]
                        refine wpAnyH_take (i := 9) (oi := { dst := some 147, op := Op.extract (Operand.tmp 138) 0, type := 60, pos := "law.go:244", after := #[{ on := 8, ground := Ground.data }], guard := none }) (v := ?_) rfl (by kernel_rfl) (by kernel_rfl) (by kernel_rfl) (fun _ _ _ h => h) (Or.inl ⟨by rfl, ?_⟩) (by assumption) ?_
                        rotate_left
                        · (intro w hSw; (try dsimp only at hSw); go_simp); all_goals (with_reducible rfl)
                        try simp only [Act.put, List.setIfInBounds_toArray, List.set_cons_zero, List.set_cons_succ]
                        refine wpAnyH_take (i := 10) (oi := { dst := some 148, op := Op.extract (Operand.tmp 138) 1, type := 26, pos := "law.go:244", after := #[{ on := 8, ground := Ground.data }, { on := 12, ground := Ground.gcOnly Departure.lateStores }], guard := none }) (v := ?_) rfl (by kernel_rfl) (by kernel_rfl) (by kernel_rfl) (fun _ _ _ h => h) (Or.inl ⟨by rfl, ?_⟩) (by assumption) ?_
                        rotate_left
                        · (intro w hSw; (try dsimp only at hSw); go_simp); all_goals (with_reducible rfl)
                        try simp only [Act.put, List.setIfInBounds_toArray, List.set_cons_zero, List.set_cons_succ]
                        refine wpAnyH_ready (rs := [12]) (by kernel_rfl) (by simp) ?_
                        refine AllReadyH.cons (o := { dst := none, op := Op.store 60 (Operand.tmp 13) (Operand.tmp 147), type := 0, pos := "law.go:244", after := #[{ on := 11, ground := Ground.data }, { on := 9, ground := Ground.data }, { on := 7, ground := Ground.chain }, { on := 0, ground := Ground.phase }, { on := 1, ground := Ground.phase }, { on := 2, ground := Ground.phase }, { on := 3, ground := Ground.phase }, { on := 4, ground := Ground.phase }, { on := 5, ground := Ground.phase }, { on := 6, ground := Ground.phase }, { on := 7, ground := Ground.phase }, { on := 8, ground := Ground.phase }, { on := 9, ground := Ground.phase }, { on := 10, ground := Ground.textOnly Departure.lateStores }, { on := 11, ground := Ground.phase }], guard := none }) rfl (fun K hK => ?_) ?_
                        · -- store
                          (first | (obtain ⟨⟨s0, s1⟩, f0, f1⟩ := box2f hx0; go_simp; replace hbk := hbk2; clear s0 s1 f0 f1) | (obtain ⟨⟨s0, s1⟩, f0, f1⟩ := box2f hx22; go_simp; replace hx22 := (hx22.set 0 (.int .i64 AN)).set 1 (.int .i64 AD); replace hbk := (hbk.setCell (p := ⟨_, 0, none⟩) hl22 (.int .i64 AN)).setCell (p := ⟨_, 1, none⟩) hl22 (.int .i64 AD); clear s0 s1 f0 f1))
                          refine hK.out _ _ ?_ (fun hHeld => ?_)
                          · (try dsimp only)
                            exact hbk
                          clear hK K
                          try simp only [Act.put, List.setIfInBounds_toArray, List.set_cons_zero, List.set_cons_succ]
                          refine wpAnyH_take (i := 13) (oi := { dst := some 14, op := Op.assign (Operand.tmp 148), type := 26, pos := "law.go:244", after := #[{ on := 10, ground := Ground.data }, { on := 12, ground := Ground.chain }, { on := 0, ground := Ground.phase }, { on := 1, ground := Ground.phase }, { on := 2, ground := Ground.phase }, { on := 3, ground := Ground.phase }, { on := 4, ground := Ground.phase }, { on := 5, ground := Ground.phase }, { on := 6, ground := Ground.phase }, { on := 7, ground := Ground.phase }, { on := 8, ground := Ground.phase }, { on := 9, ground := Ground.phase }, { on := 10, ground := Ground.phase }, { on := 11, ground := Ground.phase }, { on := 12, ground := Ground.phase }], guard := none }) (v := ?_) rfl (by kernel_rfl) (by kernel_rfl) (by kernel_rfl) (fun _ _ _ h => h) (Or.inl ⟨by rfl, ?_⟩) (by assumption) ?_
                          rotate_left
                          · (intro w hSw; (try dsimp only at hSw); go_simp); all_goals (with_reducible rfl)
                          try simp only [Act.put, List.setIfInBounds_toArray, List.set_cons_zero, List.set_cons_succ]
                          refine wpAnyH_done (by kernel_rfl) ?_ _
                          go_wp2_with fail
                          go_meet
                          exact ⟨_, rfl, rfl, hl22, hx22, hbk⟩
                        exact AllReadyH.nil
                      exact AllReadyH.nil
                    exact AllReadyH.nil
                case rest =>
                as_aux_lemma =>
                obtain ⟨b13, rfl, rfl, hb13, hx13, hbB⟩ := hcut
                have hbW := hb.trans (hbB.mono hb.size)
                have hx1B := hx1.below hbB hx1.lt
                have HVB : Hid (IsTots wc (.slice (some ⟨sb, so, none⟩) t.length vc) t) := Lib.hid (IsTots.below HV.out.2 hbW)
                generalize wc = WB at hx13 hbB hbW hx1B HVB ⊢
                clear hbk hdr c36
                have hx1 := hx1B
                have c31 : ∀ W, Below WB.heap.size WB W → Calls prog 31 #[.slice (some ⟨sb, so, none⟩) 1 vc] W _ := fun W h => checkTotsR_w (IsTots.one (HVB.out.below h) ht0) (by simp)
                have c32 := fun W => kindR_w num W
                have c32b := fun W => kindR_w den W
                obtain ⟨E1, hE1⟩ : ∃ z, totsE [t0] = z := ⟨_, rfl⟩
                obtain ⟨K, hK⟩ : ∃ z, avgK t0 num den = z := ⟨_, rfl⟩
                have hKK : fstE [E1, en, ed] = K := by rw [← hK, ← hE1, ← HEN.out.2.1, ← HEN.out.2.2.1]; rfl
                simp only [hE1] at c31
                simp only [HEN.out.2.1] at c32
                simp only [HEN.out.2.2.1] at c32b
                have cF := firstR3_w E1 en ed
                rw [hKK] at cF
                have HK3 := Lib.hid (And.intro hK hKK)
                have hdr : Below WB.heap.size WB WB.drew := (Below.refl _ _).drew
                have hvc1 : (1 : Int) ≤ (vc : Int) := by omega
                clear hE1 hK hKK
                go_wp2_with fail
                go_cut [7] (fun s7 wx => s7 = .int .i64 K ∧ Below WB.heap.size WB wx)
                case first =>
                  as_aux_lemma =>
                    refine wp_region_quiet_to (C := (fun W => Below WB.heap.size WB W)) 9 3 #[true, true, true, true, true, true, true, true, true, false, false, false] (by kernel_rfl) (by kernel_rfl) ?_ ?_
                    · (try dsimp only)
                      exact hdr
                    simp only [List.take_succ_cons, List.take_zero]
                    with_reducible refine quiet_take (v := ?_) ?_ ?_ ?_
                    rotate_left
                    · rfl
                    · (intro w hSw; (try dsimp only at hSw); go_simp); all_goals (with_reducible rfl)
                    try simp only [Act.put, List.setIfInBounds_toArray, List.set_cons_zero, List.set_cons_succ]
                    with_reducible refine quiet_take (v := ?_) ?_ ?_ ?_
                    rotate_left
                    · rfl
                    · (intro w hSw; (try dsimp only at hSw); go_simp); all_goals (with_reducible rfl)
                    try simp only [Act.put, List.setIfInBounds_toArray, List.set_cons_zero, List.set_cons_succ]
                    with_reducible refine quiet_call (f := 31) (args := ?_) (v := .int .i64 E1) ?_ ?_ ?_ ?_
                    rotate_left
                    · rfl
                    · (intro w hSw; (try dsimp only at hSw); go_simp); all_goals (with_reducible rfl)
                    · (intro W hSw); exact (c31 W hSw).mono fun e w' ⟨h1, h2⟩ => ⟨h1, hSw.trans (h2.mono hSw.size)⟩
                    try simp only [Act.put, List.setIfInBounds_toArray, List.set_cons_zero, List.set_cons_succ]
                    with_reducible refine quiet_take (v := ?_) ?_ ?_ ?_
                    rotate_left
                    · rfl
                    · (intro w hSw; (try dsimp only at hSw); go_simp); all_goals (with_reducible rfl)
                    try simp only [Act.put, List.setIfInBounds_toArray, List.set_cons_zero, List.set_cons_succ]
                    with_reducible refine quiet_take (v := ?_) ?_ ?_ ?_
                    rotate_left
                    · rfl
                    · (intro w hSw; obtain ⟨⟨b0, b1, b2, b3⟩, -⟩ := box4 (hx1.below hSw hx1.lt); (try dsimp only at hSw); go_simp); all_goals (with_reducible rfl)
                    try simp only [Act.put, List.setIfInBounds_toArray, List.set_cons_zero, List.set_cons_succ]
                    with_reducible refine quiet_call (f := 32) (args := ?_) (v := .int .i64 en) ?_ ?_ ?_ ?_
                    rotate_left
                    · rfl
                    · (intro w hSw; (try dsimp only at hSw); go_simp); all_goals (with_reducible rfl)
                    · (intro W hSw); exact (c32 W ).mono fun e w' ⟨h1, h2⟩ => ⟨h1, hSw.trans (h2.mono hSw.size)⟩
                    try simp only [Act.put, List.setIfInBounds_toArray, List.set_cons_zero, List.set_cons_succ]
                    with_reducible refine quiet_take (v := ?_) ?_ ?_ ?_
                    rotate_left
                    · rfl
                    · (intro w hSw; (try dsimp only at hSw); go_simp); all_goals (with_reducible rfl)
                    try simp only [Act.put, List.setIfInBounds_toArray, List.set_cons_zero, List.set_cons_succ]
                    with_reducible refine quiet_take (v := ?_) ?_ ?_ ?_
                    rotate_left
                    · rfl
                    · (intro w hSw; obtain ⟨⟨b0, b1, b2, b3⟩, -⟩ := box4 (hx1.below hSw hx1.lt); (try dsimp only at hSw); go_simp); all_goals (with_reducible rfl)
                    try simp only [Act.put, List.setIfInBounds_toArray, List.set_cons_zero, List.set_cons_succ]
                    with_reducible refine quiet_call (f := 32) (args := ?_) (v := .int .i64 ed) ?_ ?_ ?_ ?_
                    rotate_left
                    · rfl
                    · (intro w hSw; (try dsimp only at hSw); go_simp); all_goals (with_reducible rfl)
                    · (intro W hSw); exact (c32b W ).mono fun e w' ⟨h1, h2⟩ => ⟨h1, hSw.trans (h2.mono hSw.size)⟩
                    try simp only [Act.put, List.setIfInBounds_toArray, List.set_cons_zero, List.set_cons_succ]
                    refine wpQuiet_nil ?_
                    intro W hSw
                    refine wpAny_of_held (S := fun _ => True) _ _ _ _ ?_
                    refine wpAnyH_ready (rs := [9]) (by kernel_rfl) (by simp) ?_
                    refine AllReadyH.cons (o := _) rfl (fun K hK => ?_) ?_
                    · -- buildSlice
                      go_simp
                      refine hK.out _ _ trivial (fun _ => ?_)
                      clear hK K
                      try simp only [List.setIfInBounds_toArray, List.set_cons_zero, List.set_cons_succ]
                      refine wpAnyH_ready (rs := [10]) (by kernel_rfl) (by simp) ?_
                      refine AllReadyH.cons (o := _) rfl (fun K hK => ?_) ?_
                      · -- 22
                        go_simp
                        refine (cF _ _ (by simp) (by simp) (by simp)).mono ?_; rintro e w' ⟨rfl, rfl⟩
                        refine hK.out _ _ trivial (fun _ => ?_)
                        clear hK K
                        try simp only [List.setIfInBounds_toArray, List.set_cons_zero, List.set_cons_succ]
                        refine wpAnyH_ready (rs := [11]) (by kernel_rfl) (by simp) ?_
                        refine AllReadyH.cons (o := _) rfl (fun K hK => ?_) ?_
                        · -- assign
                          go_simp
                          refine hK.out _ _ trivial (fun _ => ?_)
                          clear hK K
                          try simp only [List.setIfInBounds_toArray, List.set_cons_zero, List.set_cons_succ]
                          refine wpAnyH_done (by kernel_rfl) ?_ _
                          have hb9 := hSw.alloc hSw.size (.cells #[.int .i64 E1, .int .i64 en, .int .i64 ed] 3)
                          go_wp2_with fail
                          go_meet
                          exact ⟨rfl, hb9⟩
                        exact AllReadyH.nil
                      exact AllReadyH.nil
                    exact AllReadyH.nil
                case rest =>
                as_aux_lemma =>
                obtain ⟨rfl, hbC⟩ := hcut
                have hx13 := hx13.below hbC hx13.lt
                have hbW := hbW.trans (hbC.mono hbW.size)
                have hb13w : b13 < wc.heap.size := hx13.lt
                generalize wc = WC at hx13 hbW hb13w ⊢
                clear hx1 hx1B hbB hbC hdr c31 c32 c32b cF
                have HVC : Hid (IsTots WC (.slice (some ⟨sb, so, none⟩) t.length vc) t) := Lib.hid (IsTots.below HV.out.2 hbW)
                have hx15 := at_new WC #[.int .i64 0, .int .i64 0] 60
                have hal : Below WC.heap.size WC (WC.alloc (.cells #[.int .i64 0, .int .i64 0] 60)) := (Below.refl _ _).alloc (Nat.le_refl _) _
                have hx13 := hx13.below hal hx13.lt
                have hbD := hbW.trans (hal.mono hbW.size)
                have hne13 : b13 ≠ WC.heap.size := by omega
                have hwc : w.heap.size ≤ WC.heap.size := hbW.size
                obtain ⟨WD, hWD⟩ : ∃ WD, WC.alloc (.cells #[.int .i64 0, .int .i64 0] 60) = WD := ⟨_, rfl⟩
                rw [hWD] at hx15 hx13 hbD
                have HVD : Hid (IsTots WD (.slice (some ⟨sb, so, none⟩) t.length vc) t) := Lib.hid (IsTots.below HV.out.2 hbD)
                clear hal hbW hb13w
                by_cases hK0 : K = 0
                · obtain ⟨q1, q2, q3⟩ := fst3_zero (show fstE [E1, en, ed] = 0 by rw [HK3.out.2, hK0])
                  obtain ⟨rfl, hi⟩ := HK1.out q2
                  obtain ⟨rfl, hk⟩ := HK2.out q3
                  obtain ⟨n0, hn0⟩ : ∃ z, t0.c (kdI num) = z := ⟨_, rfl⟩
                  obtain ⟨d0, hd0⟩ : ∃ z, t0.c (kdI den) = z := ⟨_, rfl⟩
                  have i1 : (kdI num : Int) < 12 := by omega
                  have k1 : (kdI den : Int) < 12 := by omega
                  have p1 := IsTots.num HVD.out ht0 hi
                  have p2 := IsTots.num HVD.out ht0 hk
                  simp only [Nat.zero_mul, Nat.add_zero] at p1 p2
                  rw [hn0] at p1
                  rw [hd0] at p2
                  have hAV : AE = rateE n0 d0 ∧ AN = (if rateE n0 d0 = 0 then rtN n0 d0 else 0) ∧ AD = (if rateE n0 d0 = 0 then rtD n0 d0 else 0) := by
                    have e1 : avgE t0 num den = rateE n0 d0 := by unfold avgE; rw [HK3.out.1, if_pos hK0, hn0, hd0]
                    refine ⟨by rw [← HAV.out.2.2, e1], ?_, ?_⟩
                    · rw [← HAV.out.1]; unfold avgN; rw [e1, hn0, hd0]
                    · rw [← HAV.out.2.1]; unfold avgD; rw [e1, hn0, hd0]
                  have HA := Lib.hid hAV
                  clear hAV
                  have hzr := Lib.hid (@rateE_zero n0 d0)
                  have c37 := checkRate_w n0 d0
                  generalize rateE n0 d0 = E at c37 HA hzr
                  have p1b := p1
                  have p2b := p2
                  rw [← Nat.add_assoc] at p1b p2b
                  subst hK0
                  clear q1 q2 q3 hn0 hd0 HK1 HK2
                  go_wp2_with fail
                  try rw [hWD]
                  clear hWD
                  have hdr : Below WD.heap.size WD WD.drew := (Below.refl _ _).drew
                  go_cut [7] (fun s7 wx => s7 = .int .i64 E ∧ Below WD.heap.size WD wx)
                  case first =>
                    as_aux_lemma =>
                      refine wp_region_quiet_to (C := (fun W => Below WD.heap.size WD W)) 12 2 #[true, true, true, true, true, true, true, true, true, true, true, true, false, false] (by kernel_rfl) (by kernel_rfl) ?_ ?_
                      · (try dsimp only)
                        exact hdr
                      simp only [List.take_succ_cons, List.take_zero]
                      with_reducible refine quiet_take (v := ?_) ?_ ?_ ?_
                      rotate_left
                      · rfl
                      · (intro w hSw; (try dsimp only at hSw); go_simp); all_goals (with_reducible rfl)
                      try simp only [Act.put, List.setIfInBounds_toArray, List.set_cons_zero, List.set_cons_succ]
                      with_reducible refine quiet_take (v := ?_) ?_ ?_ ?_
                      rotate_left
                      · rfl
                      · (intro w hSw; (try dsimp only at hSw); go_simp); all_goals (with_reducible rfl)
                      try simp only [Act.put, List.setIfInBounds_toArray, List.set_cons_zero, List.set_cons_succ]
                      with_reducible refine quiet_take (v := ?_) ?_ ?_ ?_
                      rotate_left
                      · rfl
                      · (intro w hSw; (try dsimp only at hSw); go_simp); all_goals (with_reducible rfl)
                      try simp only [Act.put, List.setIfInBounds_toArray, List.set_cons_zero, List.set_cons_succ]
                      with_reducible refine quiet_take (v := ?_) ?_ ?_ ?_
                      rotate_left
                      · rfl
                      · (intro w hSw; (try dsimp only at hSw); go_simp); all_goals (with_reducible rfl)
                      try simp only [Act.put, List.setIfInBounds_toArray, List.set_cons_zero, List.set_cons_succ]
                      with_reducible refine quiet_take (v := ?_) ?_ ?_ ?_
                      rotate_left
                      · rfl
                      · (intro w hSw; (try dsimp only at hSw); go_simp); all_goals (with_reducible rfl)
                      try simp only [Act.put, List.setIfInBounds_toArray, List.set_cons_zero, List.set_cons_succ]
                      with_reducible refine quiet_take (v := ?_) ?_ ?_ ?_
                      rotate_left
                      · rfl
                      · (intro w hSw; have z1 := (hSw.cell (cell_under p1)).trans p1; have z2 := (hSw.cell (cell_under p2)).trans p2; have z3 := (hSw.cell (cell_under p1b)).trans p1b; have z4 := (hSw.cell (cell_under p2b)).trans p2b; (try dsimp only at hSw); go_simp); all_goals (with_reducible rfl)
                      try simp only [Act.put, List.setIfInBounds_toArray, List.set_cons_zero, List.set_cons_succ]
                      with_reducible refine quiet_take (v := ?_) ?_ ?_ ?_
                      rotate_left
                      · rfl
                      · (intro w hSw; (try dsimp only at hSw); go_simp); all_goals (with_reducible rfl)
                      try simp only [Act.put, List.setIfInBounds_toArray, List.set_cons_zero, List.set_cons_succ]
                      with_reducible refine quiet_take (v := ?_) ?_ ?_ ?_
                      rotate_left
                      · rfl
                      · (intro w hSw; (try dsimp only at hSw); go_simp); all_goals (with_reducible rfl)
                      try simp only [Act.put, List.setIfInBounds_toArray, List.set_cons_zero, List.set_cons_succ]
                      with_reducible refine quiet_take (v := ?_) ?_ ?_ ?_
                      rotate_left
                      · rfl
                      · (intro w hSw; (try dsimp only at hSw); go_simp); all_goals (with_reducible rfl)
                      try simp only [Act.put, List.setIfInBounds_toArray, List.set_cons_zero, List.set_cons_succ]
                      with_reducible refine quiet_take (v := ?_) ?_ ?_ ?_
                      rotate_left
                      · rfl
                      · (intro w hSw; (try dsimp only at hSw); go_simp); all_goals (with_reducible rfl)
                      try simp only [Act.put, List.setIfInBounds_toArray, List.set_cons_zero, List.set_cons_succ]
                      with_reducible refine quiet_take (v := ?_) ?_ ?_ ?_
                      rotate_left
                      · rfl
                      · (intro w hSw; (try dsimp only at hSw); go_simp); all_goals (with_reducible rfl)
                      try simp only [Act.put, List.setIfInBounds_toArray, List.set_cons_zero, List.set_cons_succ]
                      with_reducible refine quiet_take (v := ?_) ?_ ?_ ?_
                      rotate_left
                      · rfl
                      · (intro w hSw; have z1 := (hSw.cell (cell_under p1)).trans p1; have z2 := (hSw.cell (cell_under p2)).trans p2; have z3 := (hSw.cell (cell_under p1b)).trans p1b; have z4 := (hSw.cell (cell_under p2b)).trans p2b; (try dsimp only at hSw); go_simp); all_goals (with_reducible rfl)
                      try simp only [Act.put, List.setIfInBounds_toArray, List.set_cons_zero, List.set_cons_succ]
                      refine wpQuiet_nil ?_
                      intro W hSw
                      refine wpAny_of_held (S := fun _ => True) _ _ _ _ ?_
                      refine wpAnyH_ready (rs := [12]) (by kernel_rfl) (by simp) ?_
                      refine AllReadyH.cons (o := _) rfl (fun K hK => ?_) ?_
                      · -- 37
                        go_simp
                        refine (c37 _).mono ?_; rintro e w' ⟨rfl, hk⟩; have hb9 := hSw.trans (hk.mono hSw.size)
                        refine hK.out _ _ trivial (fun _ => ?_)
                        clear hK K
                        try simp only [List.setIfInBounds_toArray, List.set_cons_zero, List.set_cons_succ]
                        refine wpAnyH_ready (rs := [13]) (by kernel_rfl) (by simp) ?_
                        refine AllReadyH.cons (o := _) rfl (fun K hK => ?_) ?_
                        · -- assign
                          go_simp
                          refine hK.out _ _ trivial (fun _ => ?_)
                          clear hK K
                          try simp only [List.setIfInBounds_toArray, List.set_cons_zero, List.set_cons_succ]
                          refine wpAnyH_done (by kernel_rfl) ?_ _
                          go_wp2_with fail
                          go_meet
                          exact ⟨rfl, hb9⟩
                        exact AllReadyH.nil
                      exact AllReadyH.nil
                  case rest =>
                  as_aux_lemma =>
                  obtain ⟨rfl, hbE⟩ := hcut
                  have hx13 := hx13.below hbE hx13.lt
                  have hx15 := hx15.below hbE hx15.lt
                  have hbF := hbD.trans (hbE.mono hbD.size)
                  have p1 := (hbE.cell (cell_under p1)).trans p1
                  have p2 := (hbE.cell (cell_under p2)).trans p2
                  have p1b := (hbE.cell (cell_under p1b)).trans p1b
                  have p2b := (hbE.cell (cell_under p2b)).trans p2b
                  generalize wc = WE at hx13 hx15 hbF p1 p2 p1b p2b ⊢
                  clear hbE hbD hdr c37
                  by_cases hE0 : E = 0
                  · obtain ⟨ha, hn, hd⟩ := HA.out
                    rw [if_pos hE0] at hn hd
                    obtain ⟨z1, z2, z3⟩ := hzr.out hE0
                    have c38 := rateR_w n0 d0 z1 z2 z3
                    rw [← hn, ← hd] at c38
                    have HAE := Lib.hid (ha.trans hE0)
                    subst hE0
                    clear HA hn hd ha
                    have hdr : Below WE.heap.size WE WE.drew := (Below.refl _ _).drew
                    rw [HAE.out]
                    go_wp2_with fail
                    go_cut [] (fun wx => At wx b13 #[.int .i64 AN, .int .i64 AD] 60 ∧ At wx WC.heap.size #[.int .i64 AN, .int .i64 AD] 60 ∧ Below w.heap.size w wx)
                    case first =>
                      as_aux_lemma =>
                        refine wp_region_quiet_to (C := (fun W => Below WE.heap.size WE W)) 12 2 #[true, true, true, true, true, true, true, true, true, true, true, true, false, false] (by kernel_rfl) (by kernel_rfl) ?_ ?_
                        · (try dsimp only)
                          exact hdr
                        simp only [List.take_succ_cons, List.take_zero]
                        with_reducible refine quiet_take (v := ?_) ?_ ?_ ?_
                        rotate_left
                        · rfl
                        · (intro w hSw; (try dsimp only at hSw); go_simp); all_goals (with_reducible rfl)
                        try simp only [Act.put, List.setIfInBounds_toArray, List.set_cons_zero, List.set_cons_succ]
                        with_reducible refine quiet_take (v := ?_) ?_ ?_ ?_
                        rotate_left
                        · rfl
                        · (intro w hSw; (try dsimp only at hSw); go_simp); all_goals (with_reducible rfl)
                        try simp only [Act.put, List.setIfInBounds_toArray, List.set_cons_zero, List.set_cons_succ]
                        with_reducible refine quiet_take (v := ?_) ?_ ?_ ?_
                        rotate_left
                        · rfl
                        · (intro w hSw; (try dsimp only at hSw); go_simp); all_goals (with_reducible rfl)
                        try simp only [Act.put, List.setIfInBounds_toArray, List.set_cons_zero, List.set_cons_succ]
                        with_reducible refine quiet_take (v := ?_) ?_ ?_ ?_
                        rotate_left
                        · rfl
                        · (intro w hSw; (try dsimp only at hSw); go_simp); all_goals (with_reducible rfl)
                        try simp only [Act.put, List.setIfInBounds_toArray, List.set_cons_zero, List.set_cons_succ]
                        with_reducible refine quiet_take (v := ?_) ?_ ?_ ?_
                        rotate_left
                        · rfl
                        · (intro w hSw; (try dsimp only at hSw); go_simp); all_goals (with_reducible rfl)
                        try simp only [Act.put, List.setIfInBounds_toArray, List.set_cons_zero, List.set_cons_succ]
                        with_reducible refine quiet_take (v := ?_) ?_ ?_ ?_
                        rotate_left
                        · rfl
                        · (intro w hSw; have z1 := (hSw.cell (cell_under p1)).trans p1; have z2 := (hSw.cell (cell_under p2)).trans p2; have z3 := (hSw.cell (cell_under p1b)).trans p1b; have z4 := (hSw.cell (cell_under p2b)).trans p2b; (try dsimp only at hSw); go_simp); all_goals (with_reducible rfl)
                        try simp only [Act.put, List.setIfInBounds_toArray, List.set_cons_zero, List.set_cons_succ]
                        with_reducible refine quiet_take (v := ?_) ?_ ?_ ?_
                        rotate_left
                        · rfl
                        · (intro w hSw; (try dsimp only at hSw); go_simp); all_goals (with_reducible rfl)
                        try simp only [Act.put, List.setIfInBounds_toArray, List.set_cons_zero, List.set_cons_succ]
                        with_reducible refine quiet_take (v := ?_) ?_ ?_ ?_
                        rotate_left
                        · rfl
                        · (intro w hSw; (try dsimp only at hSw); go_simp); all_goals (with_reducible rfl)
                        try simp only [Act.put, List.setIfInBounds_toArray, List.set_cons_zero, List.set_cons_succ]
                        with_reducible refine quiet_take (v := ?_) ?_ ?_ ?_
                        rotate_left
                        · rfl
                        · (intro w hSw; (try dsimp only at hSw); go_simp); all_goals (with_reducible rfl)
                        try simp only [Act.put, List.setIfInBounds_toArray, List.set_cons_zero, List.set_cons_succ]
                        with_reducible refine quiet_take (v := ?_) ?_ ?_ ?_
                        rotate_left
                        · rfl
                        · (intro w hSw; (try dsimp only at hSw); go_simp); all_goals (with_reducible rfl)
                        try simp only [Act.put, List.setIfInBounds_toArray, List.set_cons_zero, List.set_cons_succ]
                        with_reducible refine quiet_take (v := ?_) ?_ ?_ ?_
                        rotate_left
                        · rfl
                        · (intro w hSw; (try dsimp only at hSw); go_simp); all_goals (with_reducible rfl)
                        try simp only [Act.put, List.setIfInBounds_toArray, List.set_cons_zero, List.set_cons_succ]
                        with_reducible refine quiet_take (v := ?_) ?_ ?_ ?_
                        rotate_left
                        · rfl
                        · (intro w hSw; have z1 := (hSw.cell (cell_under p1)).trans p1; have z2 := (hSw.cell (cell_under p2)).trans p2; have z3 := (hSw.cell (cell_under p1b)).trans p1b; have z4 := (hSw.cell (cell_under p2b)).trans p2b; (try dsimp only at hSw); go_simp); all_goals (with_reducible rfl)
                        try simp only [Act.put, List.setIfInBounds_toArray, List.set_cons_zero, List.set_cons_succ]
                        refine wpQuiet_nil ?_
                        intro W hSw
                        refine wpAny_of_held (S := fun _ => True) _ _ _ _ ?_
                        refine wpAnyH_ready (rs := [12]) (by kernel_rfl) (by simp) ?_
                        refine AllReadyH.cons (o := _) rfl (fun K hK => ?_) ?_
                        · -- 38
                          go_simp
                          refine (c38 _).mono ?_; rintro e w' ⟨rfl, hk⟩; have hb9 := hSw.trans (hk.mono hSw.size); have hx13 := hx13.below hb9 hx13.lt; have hx15 := hx15.below hb9 hx15.lt; have hbG := hbF.trans (hb9.mono hbF.size); obtain ⟨⟨y0, y1⟩, f0, f1⟩ := box2f hx15; have hx15z := (hx15.set 0 (.int .i64 AN)).set 1 (.int .i64 AD); have hx13z := (hx13.setCell (a := ⟨WC.heap.size, 0, none⟩) hne13 (.int .i64 AN)).setCell (a := ⟨WC.heap.size, 1, none⟩) hne13 (.int .i64 AD); have hbGz := (hbG.setCell (p := ⟨WC.heap.size, 0, none⟩) hwc (.int .i64 AN)).setCell (p := ⟨WC.heap.size, 1, none⟩) hwc (.int .i64 AD)
                          refine hK.out _ _ trivial (fun _ => ?_)
                          clear hK K
                          try simp only [List.setIfInBounds_toArray, List.set_cons_zero, List.set_cons_succ]
                          refine wpAnyH_ready (rs := [13]) (by kernel_rfl) (by simp) ?_
                          refine AllReadyH.cons (o := _) rfl (fun K hK => ?_) ?_
                          · -- store
                            go_simp
                            refine hK.out _ _ trivial (fun _ => ?_)
                            clear hK K
                            try simp only [List.setIfInBounds_toArray, List.set_cons_zero, List.set_cons_succ]
                            refine wpAnyH_done (by kernel_rfl) ?_ _
                            go_wp2_with fail
                            go_meet
                            exact ⟨hx13z, hx15z, hbGz⟩
                          exact AllReadyH.nil
                        exact AllReadyH.nil
                    case rest =>
                    as_aux_lemma =>
                    obtain ⟨hx13, hx15, hbG⟩ := hcut
                    obtain ⟨⟨y0, y1⟩, -⟩ := box2f hx13
                    obtain ⟨⟨z0, z1⟩, -⟩ := box2f hx15
                    have he : ∀ W, (binOp .eql 60 (.agg #[.int .i64 AN, .int .i64 AD]) (.agg #[.int .i64 AN, .int .i64 AD])).run prog W = .ok (.bool true) W := fun W => by rw [eql_rat]; simp
                    go_wp2_with fail
                    go_ret
                    exact ⟨rfl, hbG⟩
                  · obtain ⟨ha, hn, hd⟩ := HA.out
                    rw [if_neg hE0] at hn hd
                    subst ha hn hd
                    have hE1 : (AE == 0) = false := by simpa using hE0
                    obtain ⟨⟨y0, y1⟩, -⟩ := box2f hx13
                    obtain ⟨⟨z0, z1⟩, -⟩ := box2f hx15
                    have he : ∀ W, (binOp .eql 60 (.agg #[.int .i64 0, .int .i64 0]) (.agg #[.int .i64 0, .int .i64 0])).run prog W = .ok (.bool true) W := fun W => by rw [eql_rat]; simp
                    clear hE0 p1 p2 p1b p2b
                    go_wp2_with fail
                    go_ret
                    exact ⟨rfl, hbF⟩
                · have hAV : AE = K ∧ AN = 0 ∧ AD = 0 := by
                    have e1 : avgE t0 num den = K := by unfold avgE; rw [HK3.out.1, if_neg hK0]
                    refine ⟨by rw [← HAV.out.2.2, e1], ?_, ?_⟩
                    · rw [← HAV.out.1]; unfold avgN; rw [e1, if_neg hK0]
                    · rw [← HAV.out.2.1]; unfold avgD; rw [e1, if_neg hK0]
                  obtain ⟨rfl, rfl, rfl⟩ := hAV
                  have hK1 : (AE == 0) = false := by simpa using hK0
                  obtain ⟨⟨y0, y1⟩, -⟩ := box2f hx13
                  obtain ⟨⟨z0, z1⟩, -⟩ := box2f hx15
                  have he : ∀ W, (binOp .eql 60 (.agg #[.int .i64 0, .int .i64 0]) (.agg #[.int .i64 0, .int .i64 0])).run prog W = .ok (.bool true) W := fun W => by rw [eql_rat]; simp
                  clear hK0
                  go_wp2_with fail
                  try rw [hWD]
                  go_wp2_with fail
                  go_ret
                  exact ⟨rfl, hbD⟩
end Go.Proofs.Tryz
