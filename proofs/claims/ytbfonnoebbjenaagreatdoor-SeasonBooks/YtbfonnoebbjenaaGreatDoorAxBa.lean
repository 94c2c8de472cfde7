/- Games compared and found by the reference: by the kit's walk. -/
import Derived.Test.YtbfonnoebbjenaaGreatDoorAxTc
import Derived.Test.YtbfonnoebbjenaaGreatDoorAxMt
namespace Go.Proofs.Tryz
open Go Go.Am Go.RowKit Go.Op
set_option maxRecDepth 100000

theorem neq_ln151 (x : LnD) (W : World) : (binOp .neq 151 (.agg x.arr) (.agg x.arr)).run prog W = .ok (.bool false) W := by
  have hS : prog.underlying 151 = some (.struct (prog.fieldsOf 151)) := by kernel_rfl
  have hp : prog.stoodInHeld 151 = false := by kernel_rfl
  have h : (Op.equalIn 10000 151 (.agg x.arr) (.agg x.arr)).run prog W = .ok true W := by
    have hc := eq_cnts x.c x.c
    have e1 : (ints 12 x.c).toArray = #[.int .i64 (x.c 0), .int .i64 (x.c 1), .int .i64 (x.c 2), .int .i64 (x.c 3), .int .i64 (x.c 4), .int .i64 (x.c 5), .int .i64 (x.c 6), .int .i64 (x.c 7), .int .i64 (x.c 8), .int .i64 (x.c 9), .int .i64 (x.c 10), .int .i64 (x.c 11)] := rfl
    rw [e1, allEq_refl] at hc
    rw [show (10000 : Nat) = 9999 + 1 from rfl, run_equalIn_agg W 9999 151 _ _ hS hp]
    simp only [Program.fieldsOf, underlying151]
    unfold LnD.arr
    clear e1
    go_simp
  rw [run_neq_struct, h]; rfl
theorem neq82 (a b : List UInt8) (W : World) : (binOp .neq 82 (.agg #[.string (bA a), .string (bA b)]) (.agg #[.string (bA a), .string (bA b)])).run prog W = .ok (.bool false) W := by
  obtain ⟨i0, hi, hz0, hz1, hz2⟩ := info_more (show (prog.info? 9).map (fun i => (i.zero, i.size, i.bytes)) = some (some (.string ⟨#[]⟩), 1, 16) by kernel_rfl)
  have x9 : prog.underlying 9 = some .string := by kernel_rfl
  rw [run_neq_struct, show (10000 : Nat) = 9998 + 1 + 1 from rfl, run_equalIn_arr 9999 82 9 2 i0 _ _ underlying82 hi W, hz1]
  simp [eqElems, part, run_equalIn_string _ _ _ _ _ x9]
theorem neq102 (a b : Int) (W : World) : (binOp .neq 102 (.agg #[.int .i64 a, .int .i64 b]) (.agg #[.int .i64 a, .int .i64 b])).run prog W = .ok (.bool false) W := by
  obtain ⟨i0, hi, hz0, hz1, hz2⟩ := info_more (show (prog.info? 3).map (fun i => (i.zero, i.size, i.bytes)) = some (some (.int .i64 0), 1, 8) by kernel_rfl)
  have x3 : prog.underlying 3 = some (.int .i64) := by kernel_rfl
  rw [run_neq_struct, show (10000 : Nat) = 9998 + 1 + 1 from rfl, run_equalIn_arr 9999 102 3 2 i0 _ _ underlying102 hi W, hz1]
  simp [eqElems, part, run_equalIn_int _ _ _ _ _ _ _ x3]
set_option maxHeartbeats 6400000 in
theorem sameGame_w {w : World} {g : GmD} {a1 a2 : Option Addr} {c1 c2 : Nat} (hu : IsLines w (.slice a1 g.k c1) g.l g.k) (hv : IsLines w (.slice a2 g.k c2) g.l g.k) (hk : g.k ≤ 10000) :
    Calls prog 80 #[.agg (g.arr (.slice a1 g.k c1)), .agg (g.arr (.slice a2 g.k c2))] w fun e w' => e = .returned (.bool true) ∧ Below w.heap.size w w' := by
  have hxx := (at_new w (g.arr (.slice a1 g.k c1)) 105).alloc (.cells (g.arr (.slice a2 g.k c2)) 105)
  have hyy : At ((w.alloc (.cells (g.arr (.slice a1 g.k c1)) 105)).alloc (.cells (g.arr (.slice a2 g.k c2)) 105)) (w.heap.size + 1) (g.arr (.slice a2 g.k c2)) 105 := by
    have := at_new (w.alloc (.cells (g.arr (.slice a1 g.k c1)) 105)) (g.arr (.slice a2 g.k c2)) 105
    simpa using this
  have hB : Below w.heap.size w ((w.alloc (.cells (g.arr (.slice a1 g.k c1)) 105)).alloc (.cells (g.arr (.slice a2 g.k c2)) 105)) := ((Below.refl _ _).alloc (Nat.le_refl _) _).alloc (by simp) _
  have HU := Lib.hid (And.intro hu hv)
  obtain ⟨W1, hW⟩ : ∃ W1, (w.alloc (.cells (g.arr (.slice a1 g.k c1)) 105)).alloc (.cells (g.arr (.slice a2 g.k c2)) 105) = W1 := ⟨_, rfl⟩
  rw [hW] at hxx hyy hB
  obtain ⟨nm, ver, day, t0, t1, s0, s1, l, k⟩ := g
  unfold GmD.arr at hW hxx hyy ⊢
  dsimp only at hW hxx hyy hk HU ⊢
  have n82 := neq82 t0 t1
  have n102 := neq102 s0 s1
  have l1 : (bA nm).toList = nm := bA_list _
  have n1 : (nm != nm) = false := by simp
  have n2 : (ver != ver) = false := by simp
  have n3 : (day != day) = false := by simp
  have n4 : ((k : Int) != (k : Int)) = false := by simp
  have HW := Lib.hid hW
  clear hu hv hW
  go_enter func80, ntmps80
  go_wp2_with fail
  rw [HW.out]
  clear HW
  go_loopw [5] (fun s wr => ∃ i : Nat, i ≤ k ∧ s = .int .i64 i ∧ Below W1.heap.size W1 wr) (fun s _ => k - (numOf' s).toNat)
  case atStart => exact ⟨0, Nat.zero_le _, rfl, Below.refl _ _⟩
  case round =>
    obtain ⟨i, hi, rfl, hb⟩ := hrel
    have hbw := hB.trans (hb.mono hB.size)
    obtain ⟨⟨x0, x1, x2, x3, x4, x5, x6, x7⟩, -⟩ := box8 (hxx.below hb hxx.lt)
    obtain ⟨⟨y0, y1, y2, y3, y4, y5, y6, y7⟩, -⟩ := box8 (hyy.below hb hyy.lt)
    by_cases hin : i < k
    · obtain ⟨b1, o1, k1, e1, -, p0, p1, pc⟩ := (IsLines.below HU.out.1 hbw).at hin
      obtain ⟨b2, o2, k2, e2, -, q0, q1, qc⟩ := (IsLines.below HU.out.2 hbw).at hin
      simp only [Value.slice.injEq, true_and] at e1 e2
      obtain ⟨rfl, rfl⟩ := e1
      obtain ⟨rfl, rfl⟩ := e2
      have hc0 := pc 0 (by omega)
      have hc1 := pc 1 (by omega)
      have hc2 := pc 2 (by omega)
      have hc3 := pc 3 (by omega)
      have hc4 := pc 4 (by omega)
      have hc5 := pc 5 (by omega)
      have hc6 := pc 6 (by omega)
      have hc7 := pc 7 (by omega)
      have hc8 := pc 8 (by omega)
      have hc9 := pc 9 (by omega)
      have hc10 := pc 10 (by omega)
      have hc11 := pc 11 (by omega)
      have hd0 := qc 0 (by omega)
      have hd1 := qc 1 (by omega)
      have hd2 := qc 2 (by omega)
      have hd3 := qc 3 (by omega)
      have hd4 := qc 4 (by omega)
      have hd5 := qc 5 (by omega)
      have hd6 := qc 6 (by omega)
      have hd7 := qc 7 (by omega)
      have hd8 := qc 8 (by omega)
      have hd9 := qc 9 (by omega)
      have hd10 := qc 10 (by omega)
      have hd11 := qc 11 (by omega)
      simp only [Nat.reduceAdd] at hc0 hc1 hc2 hc3 hc4 hc5 hc6 hc7 hc8 hc9 hc10 hc11 hd0 hd1 hd2 hd3 hd4 hd5 hd6 hd7 hd8 hd9 hd10 hd11
      have hii : (i : Int) < (k : Int) := by omega
      have hne := neq_ln151 (l i)
      unfold LnD.arr at hne
      clear pc qc
      go_wp2_with fail
      go_quiet (fail)
      have hbn := belowN hb nq
      clear p0 p1 q0 q1 hc0 hc1 hc2 hc3 hc4 hc5 hc6 hc7 hc8 hc9 hc10 hc11 hd0 hd1 hd2 hd3 hd4 hd5 hd6 hd7 hd8 hd9 hd10 hd11 hne x0 x1 x2 x3 x4 x5 x6 x7 y0 y1 y2 y3 y4 y5 y6 y7
      all_goals go_wp2_with fail
      go_roundw
      case rel => exact ⟨i + 1, by omega, by go_num, hbn⟩
      case measure => simp [numOf'] <;> omega
    · obtain rfl : i = k := by omega
      have hii : ¬ (i : Int) < (i : Int) := by omega
      go_wp2_with fail
      go_ret
      exact ⟨rfl, hbw⟩
set_option maxHeartbeats 6400000 in
theorem sameGames_w {w : World} {u v : Value} {g : Nat → GmD} {n : Nat} (hu : IsGames w u g n) (hv : IsGames w v g n) (hn : n ≤ 10000) (hk : ∀ i, i < n → (g i).k ≤ 10000) :
    Calls prog 67 #[u, v] w fun e w' => e = .returned (.bool true) ∧ Below w.heap.size w w' := by
  obtain ⟨a1, c1, rfl, -⟩ := (show Row w u 8 n _ from hu.choose_spec.1).slice
  obtain ⟨a2, c2, rfl, -⟩ := (show Row w v 8 n _ from hv.choose_spec.1).slice
  have HU := Lib.hid (And.intro hu (And.intro hv hk))
  have hnn : ((n : Int) != (n : Int)) = false := by simp
  clear hu hv hk
  go_enter func67, ntmps67
  go_wp2_with fail
  go_loopw [5] (fun s wr => ∃ i : Nat, i ≤ n ∧ s = .int .i64 i ∧ Below w.heap.size w wr) (fun s _ => n - (numOf' s).toNat)
  case atStart => exact ⟨0, Nat.zero_le _, rfl, Below.refl _ _⟩
  case round =>
    obtain ⟨i, hi, rfl, hb⟩ := hrel
    by_cases hin : i < n
    · obtain ⟨b1, o1, d1, ad1, kc1, e1, -, L1, p0, p1, p2, p3, p4, p5, p6, p7⟩ := (HU.out.1.below hb).at hin
      obtain ⟨b2, o2, d2, ad2, kc2, e2, -, L2, q0, q1, q2, q3, q4, q5, q6, q7⟩ := (HU.out.2.1.below hb).at hin
      simp only [Value.slice.injEq, true_and] at e1 e2
      obtain ⟨rfl, rfl⟩ := e1
      obtain ⟨rfl, rfl⟩ := e2
      have hii : (i : Int) < (n : Int) := by omega
      have hki := HU.out.2.2 i hin
      have c80 : ∀ W, Below wr.heap.size wr W → Calls prog 80 #[.agg ((g i).arr (.slice ad1 (g i).k kc1)), .agg ((g i).arr (.slice ad2 (g i).k kc2))] W _ := fun W h => sameGame_w (L1.below h) (L2.below h) hki
      unfold GmD.arr at c80
      clear L1 L2 hki
      have hdr : Below wr.heap.size wr wr.drew := (Below.refl _ _).drew
      go_wp2_with fail
      go_cut [26] from 17 to 26 (fun s26 wx => s26 = .bool false ∧ Below wr.heap.size wr wx)
      case first =>
        have hbk := hdr
        refine wp_region_held_drew (S := (fun W => Below wr.heap.size wr W)) (by kernel_rfl) ?_ (fun hHeld => ?_)
        · (try dsimp only)
          exact hbk
        refine wpAnyH_take (i := 0) (oi := { dst := some 17, op := Op.move (Operand.tmp 0), type := 22, pos := "ref.go:618", after := #[], guard := none }) (v := ?_) rfl (by kernel_rfl) (by kernel_rfl) (by kernel_rfl) (fun _ _ _ h => h) (Or.inl ⟨by rfl, ?_⟩) (by assumption) ?_
        rotate_left
        · (intro w hSw; (try dsimp only at hSw); go_simp); all_goals (with_reducible rfl)
        try simp only [Act.put, List.setIfInBounds_toArray, List.set_cons_zero, List.set_cons_succ]
        refine wpAnyH_take (i := 1) (oi := { dst := some 18, op := Op.move (Operand.tmp 5), type := 3, pos := "ref.go:618", after := #[], guard := none }) (v := ?_) rfl (by kernel_rfl) (by kernel_rfl) (by kernel_rfl) (fun _ _ _ h => h) (Or.inl ⟨by rfl, ?_⟩) (by assumption) ?_
        rotate_left
        · (intro w hSw; (try dsimp only at hSw); go_simp); all_goals (with_reducible rfl)
        try simp only [Act.put, List.setIfInBounds_toArray, List.set_cons_zero, List.set_cons_succ]
        refine wpAnyH_take (i := 2) (oi := { dst := some 19, op := Op.indexAddr 22 (Operand.tmp 17) (Operand.tmp 18), type := 0, pos := "ref.go:618", after := #[{ on := 0, ground := Ground.data }, { on := 1, ground := Ground.data }], guard := none }) (v := ?_) rfl (by kernel_rfl) (by kernel_rfl) (by kernel_rfl) (fun _ _ _ h => h) (Or.inl ⟨by rfl, ?_⟩) (by assumption) ?_
        rotate_left
        · (intro w hSw; (try dsimp only at hSw); go_simp); all_goals (with_reducible rfl)
        try simp only [Act.put, List.setIfInBounds_toArray, List.set_cons_zero, List.set_cons_succ]
        refine wpAnyH_take (i := 3) (oi := { dst := some 20, op := Op.load 105 (Operand.tmp 19), type := 105, pos := "ref.go:618", after := #[{ on := 2, ground := Ground.data }], guard := none }) (v := ?_) rfl (by kernel_rfl) (by kernel_rfl) (by kernel_rfl) (fun _ _ _ h => h) (Or.inl ⟨by rfl, ?_⟩) (by assumption) ?_
        rotate_left
        · (intro w hSw; have p00 := (hSw.cell (cell_under p0)).trans p0; have p01 := (hSw.cell (cell_under p1)).trans p1; have p02 := (hSw.cell (cell_under p2)).trans p2; have p03 := (hSw.cell (cell_under p3)).trans p3; have p04 := (hSw.cell (cell_under p4)).trans p4; have p05 := (hSw.cell (cell_under p5)).trans p5; have p06 := (hSw.cell (cell_under p6)).trans p6; have p07 := (hSw.cell (cell_under p7)).trans p7; (try dsimp only at hSw); go_simp); all_goals (with_reducible rfl)
        try simp only [Act.put, List.setIfInBounds_toArray, List.set_cons_zero, List.set_cons_succ]
        refine wpAnyH_take (i := 4) (oi := { dst := some 21, op := Op.move (Operand.tmp 1), type := 22, pos := "ref.go:618", after := #[], guard := none }) (v := ?_) rfl (by kernel_rfl) (by kernel_rfl) (by kernel_rfl) (fun _ _ _ h => h) (Or.inl ⟨by rfl, ?_⟩) (by assumption) ?_
        rotate_left
        · (intro w hSw; (try dsimp only at hSw); go_simp); all_goals (with_reducible rfl)
        try simp only [Act.put, List.setIfInBounds_toArray, List.set_cons_zero, List.set_cons_succ]
        refine wpAnyH_take (i := 5) (oi := { dst := some 22, op := Op.move (Operand.tmp 5), type := 3, pos := "ref.go:618", after := #[], guard := none }) (v := ?_) rfl (by kernel_rfl) (by kernel_rfl) (by kernel_rfl) (fun _ _ _ h => h) (Or.inl ⟨by rfl, ?_⟩) (by assumption) ?_
        rotate_left
        · (intro w hSw; (try dsimp only at hSw); go_simp); all_goals (with_reducible rfl)
        try simp only [Act.put, List.setIfInBounds_toArray, List.set_cons_zero, List.set_cons_succ]
        refine wpAnyH_take (i := 6) (oi := { dst := some 23, op := Op.indexAddr 22 (Operand.tmp 21) (Operand.tmp 22), type := 0, pos := "ref.go:618", after := #[{ on := 4, ground := Ground.data }, { on := 5, ground := Ground.data }], guard := none }) (v := ?_) rfl (by kernel_rfl) (by kernel_rfl) (by kernel_rfl) (fun _ _ _ h => h) (Or.inl ⟨by rfl, ?_⟩) (by assumption) ?_
        rotate_left
        · (intro w hSw; (try dsimp only at hSw); go_simp); all_goals (with_reducible rfl)
        try simp only [Act.put, List.setIfInBounds_toArray, List.set_cons_zero, List.set_cons_succ]
        refine wpAnyH_take (i := 7) (oi := { dst := some 24, op := Op.load 105 (Operand.tmp 23), type := 105, pos := "ref.go:618", after := #[{ on := 6, ground := Ground.data }], guard := none }) (v := ?_) rfl (by kernel_rfl) (by kernel_rfl) (by kernel_rfl) (fun _ _ _ h => h) (Or.inl ⟨by rfl, ?_⟩) (by assumption) ?_
        rotate_left
        · (intro w hSw; have q10 := (hSw.cell (cell_under q0)).trans q0; have q11 := (hSw.cell (cell_under q1)).trans q1; have q12 := (hSw.cell (cell_under q2)).trans q2; have q13 := (hSw.cell (cell_under q3)).trans q3; have q14 := (hSw.cell (cell_under q4)).trans q4; have q15 := (hSw.cell (cell_under q5)).trans q5; have q16 := (hSw.cell (cell_under q6)).trans q6; have q17 := (hSw.cell (cell_under q7)).trans q7; (try dsimp only at hSw); go_simp); all_goals (with_reducible rfl)
        try simp only [Act.put, List.setIfInBounds_toArray, List.set_cons_zero, List.set_cons_succ]
        refine wpAnyH_ready (rs := [8]) (by kernel_rfl) (by simp) ?_
        refine AllReadyH.cons (o := _) rfl (fun K hK => ?_) ?_
        · -- 80
          (go_simp; refine Calls.mono (c80 _ hbk) ?_; rintro e W ⟨rfl, hk⟩; replace hbk := hbk.trans (hk.mono hbk.size); clear hk)
          refine hK.out _ _ ?_ (fun hHeld => ?_)
          · (try dsimp only)
            exact hbk
          clear hK K
          try simp only [Act.put, List.setIfInBounds_toArray, List.set_cons_zero, List.set_cons_succ]
          refine wpAnyH_take (i := 9) (oi := { dst := some 26, op := Op.unOp UnOp.not 4 (Operand.tmp 25), type := 4, pos := "ref.go:618", after := #[{ on := 8, ground := Ground.data }], guard := none }) (v := ?_) rfl (by kernel_rfl) (by kernel_rfl) (by kernel_rfl) (fun _ _ _ h => h) (Or.inl ⟨by rfl, ?_⟩) (by assumption) ?_
          rotate_left
          · (intro w hSw; (try dsimp only at hSw); go_simp); all_goals (with_reducible rfl)
          try simp only [Act.put, List.setIfInBounds_toArray, List.set_cons_zero, List.set_cons_succ]
          refine wpAnyH_done (by kernel_rfl) ?_ _
          go_wp2_with fail
          go_meet
          exact ⟨rfl, hbk⟩
        exact AllReadyH.nil
      case rest =>
      obtain ⟨rfl, hbk⟩ := hcut
      have hbn := hb.trans (hbk.mono hb.size)
      clear hbk c80 p0 p1 p2 p3 p4 p5 p6 p7 q0 q1 q2 q3 q4 q5 q6 q7
      go_wp2_with fail
      go_roundw
      case rel => exact ⟨i + 1, by omega, by go_num, hbn⟩
      case measure => simp [numOf'] <;> omega
    · obtain rfl : i = n := by omega
      have hii : ¬ (i : Int) < (i : Int) := by omega
      go_wp2_with fail
      go_ret
      exact ⟨rfl, hb⟩
end Go.Proofs.Tryz
