/- A total added to totals in order, by the reference: by the kit's walk. -/
import Derived.Test.YtbfonnoebbjenaaGreatDoorAxTf
namespace Go.Proofs.Tryz
open Go Go.Am Go.RowKit Go.Op
set_option maxRecDepth 100000

/-- Numbers that are not great. -/
def SmallT (t : Tot) : Prop := (-1000000000000 ≤ t.gm ∧ t.gm ≤ 1000000000000) ∧ ∀ i, i < 12 → -1000000000000 ≤ t.c i ∧ t.c i ≤ 1000000000000
theorem small_in {x y s : Int} (hs : s = 1 ∨ s = -1) (hx : -1000000000000 ≤ x ∧ x ≤ 1000000000000) (hy : -1000000000000 ≤ y ∧ y ≤ 1000000000000) : inI (s * y) ∧ inI (x + s * y) := by
  unfold inI
  rcases hs with rfl | rfl <;> omega
/-- What lay below base stays. -/
def Keeps (base : Nat) (w w' : World) : Prop := ∀ w0 : World, Below w0.heap.size w0 w → w0.heap.size ≤ base → Below w0.heap.size w0 w'
theorem Keeps.refl (base : Nat) (w : World) : Keeps base w w := fun _ h _ => h
theorem Keeps.trans {base : Nat} {w w' w'' : World} (h : Keeps base w w') (k : Keeps base w' w'') : Keeps base w w'' := fun w0 h0 hb => k w0 (h w0 h0 hb) hb
theorem Keeps.of {base : Nat} {w w' : World} (h : Below w.heap.size w w') (_hb : base ≤ w.heap.size) : Keeps base w w' := fun _ h0 _ => h0.trans (h.mono h0.size)
theorem keeps_set {base g : Nat} (hg : base ≤ g) (w : World) (j : Nat) (u : Value) : Keeps base w (w.setCell ⟨g, j, none⟩ u) := fun _ h0 hb => h0.setCell (p := ⟨g, j, none⟩) (Nat.le_trans hb hg) u
theorem keeps_setN {base g : Nat} (hg : base ≤ g) {vs : List Value} {w : World} {o : Nat} : Keeps base w (setN w g o vs) := fun _ h0 hb => Below.setN (Nat.le_trans hb hg) h0

theorem At.grown9 {w w' : World} {b e : Nat} {cs : Array Value} {base f m : Nat} {v : Value} (h : At w b cs e) (hv : ∀ q, v.ownBlock = some q → q < b) (hg : ∃ k xs, w.ownsRow base f m v k xs ∧ w.grownBy w' v.ownBlock) : At w' b cs e := by
  obtain ⟨k, xs, -, hg⟩ := hg
  unfold At at h ⊢
  rw [hg.block b (lt_of_block h) (fun e => by have := hv b e.symm; omega)]
  exact h
theorem castW {P : World → Prop} {w w' : World} (e : w = w') (h : P w') : P w := e ▸ h
theorem sort_lt {L : List Tot} (h : SortT L) {i j : Nat} {a b : Tot} (ha : L[i]? = some a) (hb : L[j]? = some b) (hij : i < j) : bytesLess a.p b.p = true := by
  obtain ⟨h1, rfl⟩ := List.getElem?_eq_some_iff.1 ha
  obtain ⟨h2, rfl⟩ := List.getElem?_eq_some_iff.1 hb
  exact List.pairwise_iff_getElem.1 h i j h1 h2 hij
theorem swap_sets {α : Type} (a b a' b' : α) (D : List α) : ∀ A : List α, ((A ++ a :: b :: D).set (A.length + 1) a').set A.length b' = A ++ b' :: a' :: D
  | [] => rfl
  | z :: A => by
    simp only [List.cons_append, List.length_cons, List.set_cons_succ]
    exact congrArg _ (swap_sets a b a' b' D A)
theorem swap_list {α : Type} {L : List α} {q : Nat} {x N : α} (hx : L[q]? = some x) : ((L.take (q + 1) ++ N :: L.drop (q + 1)).set (q + 1) x).set q N = L.take q ++ N :: L.drop q := by
  have hq := (List.getElem?_eq_some_iff.1 hx).1
  have e1 := take_snoc hx
  have e2 : L.drop q = x :: L.drop (q + 1) := by
    rw [List.drop_eq_getElem_cons hq, (List.getElem?_eq_some_iff.1 hx).2]
  have e3 : (L.take q).length = q := by rw [List.length_take]; omega
  have := swap_sets x N x N (L.drop (q + 1)) (L.take q)
  rw [e3] at this
  rw [e1, e2, List.append_assoc]
  exact this
theorem mid_get {α : Type} {L : List α} {q : Nat} {N : α} (hq : q ≤ L.length) : (L.take q ++ N :: L.drop q)[q]? = some N := by
  have e3 : (L.take q).length = q := by rw [List.length_take]; omega
  rw [List.getElem?_append_right (by omega), e3, Nat.sub_self]
  rfl
theorem mid_low {α : Type} {L : List α} {q : Nat} {N x : α} (hx : L[q]? = some x) : (L.take (q + 1) ++ N :: L.drop (q + 1))[q]? = some x := by
  have hq := (List.getElem?_eq_some_iff.1 hx).1
  have e3 : (L.take (q + 1)).length = q + 1 := by rw [List.length_take]; omega
  rw [List.getElem?_append_left (by omega), List.getElem?_take, if_pos (by omega), hx]
theorem app_step {o : Oper} {ops : Array Oper} {a : Act} {w w' : World} {v' : Value} {K : Act → World → Prop} {Q : Exit → Act → World → Prop} (hw : Region.wanted o (yielded ops a.tmps) = true) (hr : (execOp a.eval o).run prog w = .ok (.value v') w') (h : K (a.put o.dst v') w') :
    if Region.wanted o (yielded ops a.tmps) = true then o.wp prog a w K Q else K (a.put o.dst undef) w := by
  rw [if_pos hw]
  unfold Oper.wp
  rw [hr]
  exact h
theorem app_run {o : Oper} {a : Act} {s x : Operand} {t ty : TypeId} {v y v' : Value} {w w' : World} (ho : o.op = .call { callee := .builtin .append, args := #[s, x], argTypes := #[t, t] }) (hty : o.type = ty) (hs : a.eval s = v) (hx : a.eval x = y)
    (hr : (Builtin.append_ #[t, t] ty #[v, y]).run prog w = .ok v' w') : (execOp a.eval o).run prog w = .ok (.value v') w' := by
  unfold execOp
  simp only [ho, hty, resolve, invoke, builtin, Sem.run_bind, Sem.run_pure, Result.andThen_ok, List.map_toArray, List.map_cons, List.map_nil, hs, hx, hr]
set_option maxHeartbeats 6400000 in
theorem summed_w {L : List Tot} {v : Value} {w : World} {base : Nat} (h : OwnTots w base 56 v L) (hbase : base ≤ w.heap.size) (hsort : SortT L) (hn : L.length ≤ 10000) (d : Tot) (s : Int) (hs : s = 1 ∨ s = -1) (hd : SmallT d) (hL : ∀ t ∈ L, SmallT t) :
    Calls prog 133 #[v, .agg #[.string (bA d.p), .int .i64 d.gm, .int .i64 (d.c 0), .int .i64 (d.c 1), .int .i64 (d.c 2), .int .i64 (d.c 3), .int .i64 (d.c 4), .int .i64 (d.c 5), .int .i64 (d.c 6), .int .i64 (d.c 7), .int .i64 (d.c 8), .int .i64 (d.c 9), .int .i64 (d.c 10), .int .i64 (d.c 11)], .int .i64 s] w fun e w' => (∃ u, e = .returned u ∧ OwnTots w' base 56 u (insT s d L)) ∧ Keeps base w w' := by
  have hb1 : Below w.heap.size w (w.alloc (.cells d.arr 56)) := (Below.refl _ _).alloc (Nat.le_refl _) _
  have hbox := at_new w d.arr 56
  have h1 := h.below hb1
  obtain ⟨W1, hW⟩ : ∃ W1, w.alloc (.cells d.arr 56) = W1 := ⟨_, rfl⟩
  rw [hW] at hb1 hbox h1
  unfold Tot.arr at hW
  obtain ⟨n, hln⟩ : ∃ n, L.length = n := ⟨_, rfl⟩
  have hv := h.slice
  obtain ⟨va, vc, rfl⟩ := hv
  have HL := Lib.hid hln
  rw [hln] at hn h h1 ⊢
  have HS := Lib.hid hsort
  have HD := Lib.hid (And.intro hs (And.intro hd hL))
  have HB := Lib.hid hbase
  have HE0 : Hid (∀ j t, j < 0 → L[j]? = some t → t.p ≠ d.p) := Lib.hid fun j t hj => absurd hj (Nat.not_lt_zero _)
  have ld : (bA d.p).toList = d.p := bA_list _
  have hsz1 : w.heap.size < W1.heap.size := hbox.lt
  clear hsort hs hd hL hbase hln
  go_enter func133, ntmps133
  go_wp2_with fail
  try rw [hW]
  clear hW
  go_loopw [7] (fun t wr => ∃ i : Nat, i ≤ n ∧ t = .int .i64 i ∧ Hid (∀ j t, j < i → L[j]? = some t → t.p ≠ d.p) ∧ Below W1.heap.size W1 wr) (fun t _ => n - (numOf' t).toNat)
  case atStart => exact ⟨0, Nat.zero_le _, rfl, HE0, Below.refl _ _⟩
  case round =>
    clear HE0
    obtain ⟨i, hi, rfl, hE, hb⟩ := hrel
    by_cases hin : i < n
    · obtain ⟨t, ht⟩ : ∃ t, L[i]? = some t := ⟨_, List.getElem?_eq_getElem (by rw [HL.out]; exact hin)⟩
      have hxi : (L.map Tot.cells)[i]? = some t.cells := by rw [List.getElem?_map, ht]; rfl
      obtain ⟨g, cap, e, hbg, hcap⟩ := OwnRow.own h1 (i := i) (by rw [List.length_map, HL.out]; exact hin)
      rw [List.length_map, HL.out] at e hcap
      simp only [Value.slice.injEq, true_and] at e
      obtain ⟨rfl, rfl⟩ := e
      have p0 := (OwnRow.cell (OwnRow.below h1 hb) hxi (j := 0) (u := .string (bA t.p)) rfl).1
      rw [Nat.add_zero] at p0
      obtain ⟨b0, -⟩ := box14t (hbox.below hb hbox.lt)
      have hii : (i : Int) < (n : Int) := by omega
      have lt : (bA t.p).toList = t.p := bA_list _
      by_cases hq : t.p = d.p
      · have hq1 : (t.p == d.p) = true := by simpa using hq
        have HI : Hid (insT s d L = L.set i (addT t s d)) := Lib.hid (insT_there HS.out ht hq)
        have hsm := HD.out.2.2 t (List.mem_of_getElem? ht)
        obtain ⟨r1, r2⟩ := inI_wrap (small_in HD.out.1 hsm.1 HD.out.2.1.1).1
        obtain ⟨r3, r4⟩ := inI_wrap (small_in HD.out.1 hsm.1 HD.out.2.1.1).2
        have cA := added_w t.c d.c s (fun k hk => small_in HD.out.1 (hsm.2 k hk) (HD.out.2.1.2 k hk))
        have hgw : g < w.heap.size := by
          obtain ⟨-, q⟩ := OwnRow.lt h g rfl
          exact q
        have Hh := Lib.hid (And.intro h1 h)
        clear hE hsm hq ht h1 h
        go_wp2_with fail
        go_quiet (fail)
        have hdr : Below W1.heap.size W1 (wr.drewN nq).drew := (belowN hb nq).drew
        clear p0 b0 hq1 lt ld hb
        go_wp2_with fail
        refine wp_region_quiet_to (C := (fun W => Below W1.heap.size W1 W)) 12 1 #[true, true, true, true, true, true, true, true, true, true, true, true, false] (by kernel_rfl) (by kernel_rfl) ?_ ?_
        · (try dsimp only)
          exact hdr
        simp only [List.take_succ_cons, List.take_zero]
        with_reducible refine quiet_take (v := ?_) ?_ ?_ ?_
        rotate_left
        · rfl
        · (intro w hSw; (try dsimp only at hSw); go_simp); all_goals (with_reducible rfl)
        try simp only [Act.put, List.setIfInBounds_toArray, List.set_cons_zero, List.set_cons_succ]
        with_reducible refine quiet_take (v := ?_) ?_ ?_ ?_
        rotate_left
        · rfl
        · (intro w hSw; (try dsimp only at hSw); go_simp); all_goals (with_reducible rfl)
        try simp only [Act.put, List.setIfInBounds_toArray, List.set_cons_zero, List.set_cons_succ]
        with_reducible refine quiet_take (v := ?_) ?_ ?_ ?_
        rotate_left
        · rfl
        · (intro w hSw; (try dsimp only at hSw); go_simp); all_goals (with_reducible rfl)
        try simp only [Act.put, List.setIfInBounds_toArray, List.set_cons_zero, List.set_cons_succ]
        with_reducible refine quiet_take (v := ?_) ?_ ?_ ?_
        rotate_left
        · rfl
        · (intro w hSw; (try dsimp only at hSw); go_simp); all_goals (with_reducible rfl)
        try simp only [Act.put, List.setIfInBounds_toArray, List.set_cons_zero, List.set_cons_succ]
        with_reducible refine quiet_take (v := ?_) ?_ ?_ ?_
        rotate_left
        · rfl
        · (intro w hSw; have q1 := (OwnRow.cell (OwnRow.below Hh.out.1 hSw) hxi (j := 1) (u := .int .i64 t.gm) rfl).1; (try dsimp only at hSw); go_simp); all_goals (with_reducible rfl)
        try simp only [Act.put, List.setIfInBounds_toArray, List.set_cons_zero, List.set_cons_succ]
        with_reducible refine quiet_take (v := ?_) ?_ ?_ ?_
        rotate_left
        · rfl
        · (intro w hSw; (try dsimp only at hSw); go_simp); all_goals (with_reducible rfl)
        try simp only [Act.put, List.setIfInBounds_toArray, List.set_cons_zero, List.set_cons_succ]
        with_reducible refine quiet_take (v := ?_) ?_ ?_ ?_
        rotate_left
        · rfl
        · (intro w hSw; (try dsimp only at hSw); go_simp); all_goals (with_reducible rfl)
        try simp only [Act.put, List.setIfInBounds_toArray, List.set_cons_zero, List.set_cons_succ]
        with_reducible refine quiet_take (v := ?_) ?_ ?_ ?_
        rotate_left
        · rfl
        · (intro w hSw; obtain ⟨-, b1, -⟩ := box14t (hbox.below hSw hbox.lt); (try dsimp only at hSw); go_simp); all_goals (with_reducible rfl)
        try simp only [Act.put, List.setIfInBounds_toArray, List.set_cons_zero, List.set_cons_succ]
        with_reducible refine quiet_take (v := ?_) ?_ ?_ ?_
        rotate_left
        · rfl
        · (intro w hSw; (try dsimp only at hSw); go_simp); all_goals (with_reducible rfl)
        try simp only [Act.put, List.setIfInBounds_toArray, List.set_cons_zero, List.set_cons_succ]
        with_reducible refine quiet_take (v := ?_) ?_ ?_ ?_
        rotate_left
        · rfl
        · (intro w hSw; (try dsimp only at hSw); go_simp); all_goals (with_reducible rfl)
        try simp only [Act.put, List.setIfInBounds_toArray, List.set_cons_zero, List.set_cons_succ]
        with_reducible refine quiet_take (v := ?_) ?_ ?_ ?_
        rotate_left
        · rfl
        · (intro w hSw; (try dsimp only at hSw); go_simp); all_goals (with_reducible rfl)
        try simp only [Act.put, List.setIfInBounds_toArray, List.set_cons_zero, List.set_cons_succ]
        with_reducible refine quiet_take (v := ?_) ?_ ?_ ?_
        rotate_left
        · rfl
        · (intro w hSw; (try dsimp only at hSw); go_simp); all_goals (with_reducible rfl)
        try simp only [Act.put, List.setIfInBounds_toArray, List.set_cons_zero, List.set_cons_succ]
        refine wpQuiet_nil ?_
        intro W hSw
        obtain ⟨q1, f1⟩ := OwnRow.cell (OwnRow.below Hh.out.1 hSw) hxi (j := 1) (u := .int .i64 t.gm) rfl
        refine wpAny_of_held (S := fun _ => True) _ _ _ _ ?_
        refine wpAnyH_ready (rs := [12]) (by kernel_rfl) (by simp) ?_
        refine AllReadyH.cons (o := _) rfl (fun K hK => ?_) ?_
        · -- store
          go_simp
          refine hK.out _ _ trivial (fun _ => ?_)
          clear hK K
          try simp only [List.setIfInBounds_toArray, List.set_cons_zero, List.set_cons_succ]
          refine wpAnyH_done (by kernel_rfl) ?_ _
          have hrow2 := OwnRow.write (OwnRow.below Hh.out.1 hSw) hxi (j := 1) (by decide) (.int .i64 (t.gm + s * d.gm))
          have hbox2 := (hbox.below hSw hbox.lt).setCell (a := ⟨g, i * 14 + 1, none⟩) (by simp only; omega) (.int .i64 (t.gm + s * d.gm))
          have hg2 := Keeps.trans (Keeps.trans (Keeps.of hb1 HB.out) (Keeps.of hSw (Nat.le_trans HB.out (Nat.le_of_lt hsz1)))) (keeps_set hbg W (i * 14 + 1) (.int .i64 (t.gm + s * d.gm)))
          have hx2 : ((L.map Tot.cells).set i (t.cells.set 1 (.int .i64 (t.gm + s * d.gm))))[i]? = some (t.cells.set 1 (.int .i64 (t.gm + s * d.gm))) := by rw [List.getElem?_set_self (List.getElem?_eq_some_iff.1 hxi).1]
          have hsz2 : w.heap.size < (W.setCell ⟨g, i * 14 + 1, none⟩ (.int .i64 (t.gm + s * d.gm))).heap.size := hbox2.lt
          clear hSw hdr
          generalize W.setCell ⟨g, i * 14 + 1, none⟩ (.int .i64 (t.gm + s * d.gm)) = W2 at hrow2 hbox2 hg2 hsz2 ⊢
          have hdr : Below W2.heap.size W2 W2.drew := (Below.refl _ _).drew
          go_wp2_with fail
          refine wp_region_quiet_to (C := (fun W => Below W2.heap.size W2 W)) 13 1 #[true, true, true, true, true, true, true, true, true, true, true, true, true, false] (by kernel_rfl) (by kernel_rfl) ?_ ?_
          · (try dsimp only)
            exact hdr
          simp only [List.take_succ_cons, List.take_zero]
          with_reducible refine quiet_take (v := ?_) ?_ ?_ ?_
          rotate_left
          · rfl
          · (intro w hSw; (try dsimp only at hSw); go_simp); all_goals (with_reducible rfl)
          try simp only [Act.put, List.setIfInBounds_toArray, List.set_cons_zero, List.set_cons_succ]
          with_reducible refine quiet_take (v := ?_) ?_ ?_ ?_
          rotate_left
          · rfl
          · (intro w hSw; (try dsimp only at hSw); go_simp); all_goals (with_reducible rfl)
          try simp only [Act.put, List.setIfInBounds_toArray, List.set_cons_zero, List.set_cons_succ]
          with_reducible refine quiet_take (v := ?_) ?_ ?_ ?_
          rotate_left
          · rfl
          · (intro w hSw; (try dsimp only at hSw); go_simp); all_goals (with_reducible rfl)
          try simp only [Act.put, List.setIfInBounds_toArray, List.set_cons_zero, List.set_cons_succ]
          with_reducible refine quiet_take (v := ?_) ?_ ?_ ?_
          rotate_left
          · rfl
          · (intro w hSw; (try dsimp only at hSw); go_simp); all_goals (with_reducible rfl)
          try simp only [Act.put, List.setIfInBounds_toArray, List.set_cons_zero, List.set_cons_succ]
          with_reducible refine quiet_take (v := ?_) ?_ ?_ ?_
          rotate_left
          · rfl
          · (intro w hSw; (try dsimp only at hSw); go_simp); all_goals (with_reducible rfl)
          try simp only [Act.put, List.setIfInBounds_toArray, List.set_cons_zero, List.set_cons_succ]
          with_reducible refine quiet_take (v := ?_) ?_ ?_ ?_
          rotate_left
          · rfl
          · (intro w hSw; (try dsimp only at hSw); go_simp); all_goals (with_reducible rfl)
          try simp only [Act.put, List.setIfInBounds_toArray, List.set_cons_zero, List.set_cons_succ]
          with_reducible refine quiet_take (v := ?_) ?_ ?_ ?_
          rotate_left
          · rfl
          · (intro w hSw; have q2 := (OwnRow.cell (OwnRow.below hrow2 hSw) hx2 (j := 2) (u := .int .i64 (t.c 0)) rfl).1; have q3 := (OwnRow.cell (OwnRow.below hrow2 hSw) hx2 (j := 3) (u := .int .i64 (t.c 1)) rfl).1; have q4 := (OwnRow.cell (OwnRow.below hrow2 hSw) hx2 (j := 4) (u := .int .i64 (t.c 2)) rfl).1; have q5 := (OwnRow.cell (OwnRow.below hrow2 hSw) hx2 (j := 5) (u := .int .i64 (t.c 3)) rfl).1; have q6 := (OwnRow.cell (OwnRow.below hrow2 hSw) hx2 (j := 6) (u := .int .i64 (t.c 4)) rfl).1; have q7 := (OwnRow.cell (OwnRow.below hrow2 hSw) hx2 (j := 7) (u := .int .i64 (t.c 5)) rfl).1; have q8 := (OwnRow.cell (OwnRow.below hrow2 hSw) hx2 (j := 8) (u := .int .i64 (t.c 6)) rfl).1; have q9 := (OwnRow.cell (OwnRow.below hrow2 hSw) hx2 (j := 9) (u := .int .i64 (t.c 7)) rfl).1; have q10 := (OwnRow.cell (OwnRow.below hrow2 hSw) hx2 (j := 10) (u := .int .i64 (t.c 8)) rfl).1; have q11 := (OwnRow.cell (OwnRow.below hrow2 hSw) hx2 (j := 11) (u := .int .i64 (t.c 9)) rfl).1; have q12 := (OwnRow.cell (OwnRow.below hrow2 hSw) hx2 (j := 12) (u := .int .i64 (t.c 10)) rfl).1; have q13 := (OwnRow.cell (OwnRow.below hrow2 hSw) hx2 (j := 13) (u := .int .i64 (t.c 11)) rfl).1; (try dsimp only at hSw); go_simp); all_goals (with_reducible rfl)
          try simp only [Act.put, List.setIfInBounds_toArray, List.set_cons_zero, List.set_cons_succ]
          with_reducible refine quiet_take (v := ?_) ?_ ?_ ?_
          rotate_left
          · rfl
          · (intro w hSw; (try dsimp only at hSw); go_simp); all_goals (with_reducible rfl)
          try simp only [Act.put, List.setIfInBounds_toArray, List.set_cons_zero, List.set_cons_succ]
          with_reducible refine quiet_take (v := ?_) ?_ ?_ ?_
          rotate_left
          · rfl
          · (intro w hSw; obtain ⟨-, -, b2, b3, b4, b5, b6, b7, b8, b9, b10, b11, b12, b13⟩ := box14t (hbox2.below hSw hbox2.lt); (try dsimp only at hSw); go_simp); all_goals (with_reducible rfl)
          try simp only [Act.put, List.setIfInBounds_toArray, List.set_cons_zero, List.set_cons_succ]
          with_reducible refine quiet_take (v := ?_) ?_ ?_ ?_
          rotate_left
          · rfl
          · (intro w hSw; (try dsimp only at hSw); go_simp); all_goals (with_reducible rfl)
          try simp only [Act.put, List.setIfInBounds_toArray, List.set_cons_zero, List.set_cons_succ]
          with_reducible refine quiet_call (f := 166) (args := ?_) (v := .agg #[.int .i64 (t.c 0 + s * d.c 0), .int .i64 (t.c 1 + s * d.c 1), .int .i64 (t.c 2 + s * d.c 2), .int .i64 (t.c 3 + s * d.c 3), .int .i64 (t.c 4 + s * d.c 4), .int .i64 (t.c 5 + s * d.c 5), .int .i64 (t.c 6 + s * d.c 6), .int .i64 (t.c 7 + s * d.c 7), .int .i64 (t.c 8 + s * d.c 8), .int .i64 (t.c 9 + s * d.c 9), .int .i64 (t.c 10 + s * d.c 10), .int .i64 (t.c 11 + s * d.c 11)]) ?_ ?_ ?_ ?_
          rotate_left
          · rfl
          · (intro w hSw; (try dsimp only at hSw); go_simp); all_goals (with_reducible rfl)
          · (intro W hSw); refine (cA W).mono ?_; rintro e W' ⟨rfl, hk⟩; exact ⟨rfl, Below.trans hSw (hk.mono hSw.size)⟩
          try simp only [Act.put, List.setIfInBounds_toArray, List.set_cons_zero, List.set_cons_succ]
          with_reducible refine quiet_take (v := ?_) ?_ ?_ ?_
          rotate_left
          · rfl
          · (intro w hSw; (try dsimp only at hSw); go_simp); all_goals (with_reducible rfl)
          try simp only [Act.put, List.setIfInBounds_toArray, List.set_cons_zero, List.set_cons_succ]
          with_reducible refine quiet_take (v := ?_) ?_ ?_ ?_
          rotate_left
          · rfl
          · (intro w hSw; (try dsimp only at hSw); go_simp); all_goals (with_reducible rfl)
          try simp only [Act.put, List.setIfInBounds_toArray, List.set_cons_zero, List.set_cons_succ]
          refine wpQuiet_nil ?_
          intro W hSw
          obtain ⟨q2, f2⟩ := OwnRow.cell (OwnRow.below hrow2 hSw) hx2 (j := 2) (u := .int .i64 (t.c 0)) rfl
          obtain ⟨q3, f3⟩ := OwnRow.cell (OwnRow.below hrow2 hSw) hx2 (j := 3) (u := .int .i64 (t.c 1)) rfl
          obtain ⟨q4, f4⟩ := OwnRow.cell (OwnRow.below hrow2 hSw) hx2 (j := 4) (u := .int .i64 (t.c 2)) rfl
          obtain ⟨q5, f5⟩ := OwnRow.cell (OwnRow.below hrow2 hSw) hx2 (j := 5) (u := .int .i64 (t.c 3)) rfl
          obtain ⟨q6, f6⟩ := OwnRow.cell (OwnRow.below hrow2 hSw) hx2 (j := 6) (u := .int .i64 (t.c 4)) rfl
          obtain ⟨q7, f7⟩ := OwnRow.cell (OwnRow.below hrow2 hSw) hx2 (j := 7) (u := .int .i64 (t.c 5)) rfl
          obtain ⟨q8, f8⟩ := OwnRow.cell (OwnRow.below hrow2 hSw) hx2 (j := 8) (u := .int .i64 (t.c 6)) rfl
          obtain ⟨q9, f9⟩ := OwnRow.cell (OwnRow.below hrow2 hSw) hx2 (j := 9) (u := .int .i64 (t.c 7)) rfl
          obtain ⟨q10, f10⟩ := OwnRow.cell (OwnRow.below hrow2 hSw) hx2 (j := 10) (u := .int .i64 (t.c 8)) rfl
          obtain ⟨q11, f11⟩ := OwnRow.cell (OwnRow.below hrow2 hSw) hx2 (j := 11) (u := .int .i64 (t.c 9)) rfl
          obtain ⟨q12, f12⟩ := OwnRow.cell (OwnRow.below hrow2 hSw) hx2 (j := 12) (u := .int .i64 (t.c 10)) rfl
          obtain ⟨q13, f13⟩ := OwnRow.cell (OwnRow.below hrow2 hSw) hx2 (j := 13) (u := .int .i64 (t.c 11)) rfl
          refine wpAny_of_held (S := fun _ => True) _ _ _ _ ?_
          refine wpAnyH_ready (rs := [13]) (by kernel_rfl) (by simp) ?_
          refine AllReadyH.cons (o := _) rfl (fun K hK => ?_) ?_
          · -- store
            go_simp
            refine hK.out _ _ trivial (fun _ => ?_)
            clear hK K
            try simp only [List.setIfInBounds_toArray, List.set_cons_zero, List.set_cons_succ]
            refine wpAnyH_done (by kernel_rfl) ?_ _
            have hown := OwnRow.writes (vs := [.int .i64 (t.c 0 + s * d.c 0), .int .i64 (t.c 1 + s * d.c 1), .int .i64 (t.c 2 + s * d.c 2), .int .i64 (t.c 3 + s * d.c 3), .int .i64 (t.c 4 + s * d.c 4), .int .i64 (t.c 5 + s * d.c 5), .int .i64 (t.c 6 + s * d.c 6), .int .i64 (t.c 7 + s * d.c 7), .int .i64 (t.c 8 + s * d.c 8), .int .i64 (t.c 9 + s * d.c 9), .int .i64 (t.c 10 + s * d.c 10), .int .i64 (t.c 11 + s * d.c 11)]) (j := 2) (OwnRow.below hrow2 hSw) hx2 (Nat.le_refl _)
            have hgr := Keeps.trans (Keeps.trans hg2 (Keeps.of hSw (Nat.le_trans HB.out (Nat.le_of_lt hsz2)))) (keeps_setN (vs := [.int .i64 (t.c 0 + s * d.c 0), .int .i64 (t.c 1 + s * d.c 1), .int .i64 (t.c 2 + s * d.c 2), .int .i64 (t.c 3 + s * d.c 3), .int .i64 (t.c 4 + s * d.c 4), .int .i64 (t.c 5 + s * d.c 5), .int .i64 (t.c 6 + s * d.c 6), .int .i64 (t.c 7 + s * d.c 7), .int .i64 (t.c 8 + s * d.c 8), .int .i64 (t.c 9 + s * d.c 9), .int .i64 (t.c 10 + s * d.c 10), .int .i64 (t.c 11 + s * d.c 11)]) (o := i * 14 + 2) hbg)
            rw [List.set_set] at hown
            have hown2 : OwnTots (setN W g (i * 14 + 2) [.int .i64 (t.c 0 + s * d.c 0), .int .i64 (t.c 1 + s * d.c 1), .int .i64 (t.c 2 + s * d.c 2), .int .i64 (t.c 3 + s * d.c 3), .int .i64 (t.c 4 + s * d.c 4), .int .i64 (t.c 5 + s * d.c 5), .int .i64 (t.c 6 + s * d.c 6), .int .i64 (t.c 7 + s * d.c 7), .int .i64 (t.c 8 + s * d.c 8), .int .i64 (t.c 9 + s * d.c 9), .int .i64 (t.c 10 + s * d.c 10), .int .i64 (t.c 11 + s * d.c 11)]) base 56 (.slice (some ⟨g, 0, none⟩) n vc) (insT s d L) := by
              rw [HI.out]
              unfold OwnTots
              rw [List.map_set]
              exact hown
            clear hown hrow2 hbox2 hg2 hdr q1 f1
            go_wp2_with fail
            go_ret
            exact ⟨⟨_, rfl, hown2⟩, hgr⟩
          exact AllReadyH.nil
        exact AllReadyH.nil
      · have hq1 : (t.p == d.p) = false := by simpa using hq
        have hE2 : Hid (∀ j t, j < i + 1 → L[j]? = some t → t.p ≠ d.p) := Lib.hid fun j x hj hx => by
          rcases Nat.lt_succ_iff_lt_or_eq.1 hj with q | rfl
          · exact hE.out j x q hx
          · rw [ht] at hx; cases hx; exact hq
        have Hh := Lib.hid (And.intro h1 h)
        clear hE hq ht h1 h
        go_wp2_with fail
        go_quiet (fail)
        have hbn := belowN hb nq
        clear p0 b0 hq1 lt ld hb
        go_wp2_with fail
        go_roundw
        case rel => exact ⟨i + 1, by omega, by go_num, hE2, hbn⟩
        case measure => simp [numOf'] <;> omega
    · obtain rfl : i = n := by omega
      obtain ⟨wq, rfl⟩ : ∃ W : World, W = wr := ⟨_, rfl⟩
      obtain ⟨iT, TT⟩ := elTR
      have hrow := OwnRow.below h1 hb
      have hbx := hbox.below hb hbox.lt
      have hszq : w.heap.size < wq.heap.size := hbx.lt
      have hkw : Keeps base w wq := Keeps.trans (Keeps.of hb1 HB.out) (Keeps.of hb (Nat.le_trans HB.out (Nat.le_of_lt hsz1)))
      have hbw : base ≤ wq.heap.size := Nat.le_trans HB.out (Nat.le_of_lt hszq)
      have HNE : Hid (∀ j t, j < i → L[j]? = some t → t.p ≠ d.p) := hE
      obtain ⟨r1, r2⟩ := inI_wrap (small_in (x := 0) HD.out.1 ⟨by decide, by decide⟩ HD.out.2.1.1).1
      have cA := added_w (fun _ => 0) d.c s (fun k hk => small_in (x := 0) HD.out.1 ⟨by decide, by decide⟩ (HD.out.2.1.2 k hk))
      simp only [Int.zero_add] at cA
      have HNT : Hid (addT (zeroT d.p) s d = (⟨d.p, s * d.gm, fun i => s * d.c i⟩ : Tot)) := Lib.hid (by simp [addT, zeroT])
      have hdr : Below wq.heap.size wq wq.drew := (Below.refl _ _).drew
      have hlm : (L.map Tot.cells).length = i := by rw [List.length_map]; exact HL.out
      have HTT := Lib.hid TT
      have HROW := Lib.hid hrow
      have HLM := Lib.hid hlm
      have hgw9 : ∀ q, (Value.slice va i vc).ownBlock = some q → q < w.heap.size := fun q hq => (OwnRow.lt h q hq).2
      clear hE hb h h1 hb1 hbox hsz1 TT hrow hlm
      go_wp2_with fail
      have hbk := hdr
      have hS := hbx.drew
      refine wp_region_held_drew (S := (fun W => At W w.heap.size d.arr 56)) (by kernel_rfl) ?_ (fun hHeld => ?_)
      · (try dsimp only)
        exact hS
      refine wpAnyH_take (i := 0) (oi := { dst := some 49, op := Op.move (Operand.tmp 0), type := 38, pos := "ref.go:261", after := #[], guard := none }) (v := ?_) rfl (by kernel_rfl) (by kernel_rfl) (by kernel_rfl) (fun _ _ _ h => h) (Or.inl ⟨by rfl, ?_⟩) (by assumption) ?_
      rotate_left
      · (intro w hSw; (try dsimp only at hSw); go_simp); all_goals (with_reducible rfl)
      try simp only [Act.put, List.setIfInBounds_toArray, List.set_cons_zero, List.set_cons_succ]
      refine wpAnyH_take (i := 1) (oi := { dst := some 50, op := Op.fieldAddr 56 (Operand.tmp 4) 0, type := 0, pos := "ref.go:261", after := #[], guard := none }) (v := ?_) rfl (by kernel_rfl) (by kernel_rfl) (by kernel_rfl) (fun _ _ _ h => h) (Or.inl ⟨by rfl, ?_⟩) (by assumption) ?_
      rotate_left
      · (intro w hSw; (try dsimp only at hSw); go_simp); all_goals (with_reducible rfl)
      try simp only [Act.put, List.setIfInBounds_toArray, List.set_cons_zero, List.set_cons_succ]
      refine wpAnyH_take (i := 2) (oi := { dst := some 51, op := Op.load 9 (Operand.tmp 50), type := 9, pos := "ref.go:261", after := #[{ on := 1, ground := Ground.data }], guard := none }) (v := ?_) rfl (by kernel_rfl) (by kernel_rfl) (by kernel_rfl) (fun _ _ _ h => h) (Or.inl ⟨by rfl, ?_⟩) (by assumption) ?_
      rotate_left
      · (intro w hSw; obtain ⟨b0, -⟩ := box14t hSw; (try dsimp only at hSw); go_simp); all_goals (with_reducible rfl)
      try simp only [Act.put, List.setIfInBounds_toArray, List.set_cons_zero, List.set_cons_succ]
      refine wpAnyH_take (i := 3) (oi := { dst := some 52, op := Op.move (Operand.tmp 2), type := 3, pos := "ref.go:261", after := #[], guard := none }) (v := ?_) rfl (by kernel_rfl) (by kernel_rfl) (by kernel_rfl) (fun _ _ _ h => h) (Or.inl ⟨by rfl, ?_⟩) (by assumption) ?_
      rotate_left
      · (intro w hSw; (try dsimp only at hSw); go_simp); all_goals (with_reducible rfl)
      try simp only [Act.put, List.setIfInBounds_toArray, List.set_cons_zero, List.set_cons_succ]
      refine wpAnyH_take (i := 4) (oi := { dst := some 53, op := Op.fieldAddr 56 (Operand.tmp 4) 1, type := 0, pos := "ref.go:261", after := #[], guard := none }) (v := ?_) rfl (by kernel_rfl) (by kernel_rfl) (by kernel_rfl) (fun _ _ _ h => h) (Or.inl ⟨by rfl, ?_⟩) (by assumption) ?_
      rotate_left
      · (intro w hSw; (try dsimp only at hSw); go_simp); all_goals (with_reducible rfl)
      try simp only [Act.put, List.setIfInBounds_toArray, List.set_cons_zero, List.set_cons_succ]
      refine wpAnyH_take (i := 5) (oi := { dst := some 54, op := Op.load 3 (Operand.tmp 53), type := 3, pos := "ref.go:261", after := #[{ on := 4, ground := Ground.data }], guard := none }) (v := ?_) rfl (by kernel_rfl) (by kernel_rfl) (by kernel_rfl) (fun _ _ _ h => h) (Or.inl ⟨by rfl, ?_⟩) (by assumption) ?_
      rotate_left
      · (intro w hSw; obtain ⟨-, b1, -⟩ := box14t hSw; (try dsimp only at hSw); go_simp); all_goals (with_reducible rfl)
      try simp only [Act.put, List.setIfInBounds_toArray, List.set_cons_zero, List.set_cons_succ]
      refine wpAnyH_take (i := 6) (oi := { dst := some 55, op := Op.binOp BinOp.mul 3 (Operand.tmp 52) (Operand.tmp 54) 3, type := 3, pos := "ref.go:261", after := #[{ on := 3, ground := Ground.data }, { on := 5, ground := Ground.data }], guard := none }) (v := ?_) rfl (by kernel_rfl) (by kernel_rfl) (by kernel_rfl) (fun _ _ _ h => h) (Or.inl ⟨by rfl, ?_⟩) (by assumption) ?_
      rotate_left
      · (intro w hSw; (try dsimp only at hSw); go_simp); all_goals (with_reducible rfl)
      try simp only [Act.put, List.setIfInBounds_toArray, List.set_cons_zero, List.set_cons_succ]
      refine wpAnyH_take (i := 7) (oi := { dst := some 56, op := Op.build 54 #[], type := 54, pos := "ref.go:261", after := #[], guard := none }) (v := ?_) rfl (by kernel_rfl) (by kernel_rfl) (by kernel_rfl) (fun _ _ _ h => h) (Or.inl ⟨by rfl, ?_⟩) (by assumption) ?_
      rotate_left
      · (intro w hSw; (try dsimp only at hSw); go_simp); all_goals (with_reducible rfl)
      try simp only [Act.put, List.setIfInBounds_toArray, List.set_cons_zero, List.set_cons_succ]
      refine wpAnyH_take (i := 8) (oi := { dst := some 57, op := Op.fieldAddr 56 (Operand.tmp 4) 2, type := 0, pos := "ref.go:261", after := #[], guard := none }) (v := ?_) rfl (by kernel_rfl) (by kernel_rfl) (by kernel_rfl) (fun _ _ _ h => h) (Or.inl ⟨by rfl, ?_⟩) (by assumption) ?_
      rotate_left
      · (intro w hSw; (try dsimp only at hSw); go_simp); all_goals (with_reducible rfl)
      try simp only [Act.put, List.setIfInBounds_toArray, List.set_cons_zero, List.set_cons_succ]
      refine wpAnyH_take (i := 9) (oi := { dst := some 58, op := Op.load 54 (Operand.tmp 57), type := 54, pos := "ref.go:261", after := #[{ on := 8, ground := Ground.data }], guard := none }) (v := ?_) rfl (by kernel_rfl) (by kernel_rfl) (by kernel_rfl) (fun _ _ _ h => h) (Or.inl ⟨by rfl, ?_⟩) (by assumption) ?_
      rotate_left
      · (intro w hSw; obtain ⟨-, -, b2, b3, b4, b5, b6, b7, b8, b9, b10, b11, b12, b13⟩ := box14t hSw; (try dsimp only at hSw); go_simp); all_goals (with_reducible rfl)
      try simp only [Act.put, List.setIfInBounds_toArray, List.set_cons_zero, List.set_cons_succ]
      refine wpAnyH_take (i := 10) (oi := { dst := some 59, op := Op.move (Operand.tmp 2), type := 3, pos := "ref.go:261", after := #[], guard := none }) (v := ?_) rfl (by kernel_rfl) (by kernel_rfl) (by kernel_rfl) (fun _ _ _ h => h) (Or.inl ⟨by rfl, ?_⟩) (by assumption) ?_
      rotate_left
      · (intro w hSw; (try dsimp only at hSw); go_simp); all_goals (with_reducible rfl)
      try simp only [Act.put, List.setIfInBounds_toArray, List.set_cons_zero, List.set_cons_succ]
      refine wpAnyH_ready (rs := [11]) (by kernel_rfl) (by simp) ?_
      refine AllReadyH.cons (o := _) rfl (fun K hK => ?_) ?_
      · -- 166
        (go_simp; refine Calls.mono (cA _) ?_; rintro e W ⟨rfl, hk⟩; replace hS := hS.below hk hS.lt; replace hbk := hbk.trans (hk.mono hbk.size); clear hk; obtain ⟨a9, k9, c9, w9, hrun, hA⟩ := run_appendR (ty := 38) HTT.out (W.alloc (.cells ((⟨d.p, s * d.gm, fun i => s * d.c i⟩ : Tot)).arr 56)) base W.heap.size (L.map Tot.cells) (.slice va i vc) ((OwnRow.below HROW.out hbk).below ((Below.refl _ _).alloc (Nat.le_refl _) _)) (by rw [HLM.out]; omega) ((⟨d.p, s * d.gm, fun i => s * d.c i⟩ : Tot)).cells (Tot.len _) (Tot.one _) (by rw [Tot.arr_eq]; exact at_new _ _ _) 1 (Nat.le_trans hbw (Nat.le_trans hbk.size (by simp))); have hbs := run_sliceTR W (⟨d.p, s * d.gm, fun i => s * d.c i⟩ : Tot); have hkA : Keeps base (W.alloc (.cells ((⟨d.p, s * d.gm, fun i => s * d.c i⟩ : Tot)).arr 56)) w9 := fun w0 h0 hb => hA.below w0 h0 hb; unfold Tot.arr at hrun hbs hkA; have hS2 := hS.alloc (.cells ((⟨d.p, s * d.gm, fun i => s * d.c i⟩ : Tot)).arr 56); unfold Tot.arr at hS2; have hS3 := At.grown9 hS2 hgw9 hA.grown)
        refine hK.out _ _ ?_ (fun hHeld => ?_)
        · (try dsimp only)
          exact hS
        clear hK K
        try simp only [Act.put, List.setIfInBounds_toArray, List.set_cons_zero, List.set_cons_succ]
        refine wpAnyH_take (i := 12) (oi := { dst := some 61, op := Op.build 56 #[(0, Operand.tmp 51), (1, Operand.tmp 55), (2, Operand.tmp 60)], type := 56, pos := "ref.go:261", after := #[{ on := 2, ground := Ground.data }, { on := 6, ground := Ground.data }, { on := 11, ground := Ground.data }], guard := none }) (v := ?_) rfl (by kernel_rfl) (by kernel_rfl) (by kernel_rfl) (fun _ _ _ h => h) (Or.inl ⟨by rfl, ?_⟩) (by assumption) ?_
        rotate_left
        · (intro w hSw; (try dsimp only at hSw); go_simp); all_goals (with_reducible rfl)
        try simp only [Act.put, List.setIfInBounds_toArray, List.set_cons_zero, List.set_cons_succ]
        refine wpAnyH_ready (rs := [13]) (by kernel_rfl) (by simp) ?_
        refine AllReadyH.cons (o := { dst := some 62, op := Op.buildSlice 38 1 #[(0, Operand.tmp 61)], type := 38, pos := "ref.go:261", after := #[{ on := 12, ground := Ground.data }], guard := none }) rfl (fun K hK => ?_) ?_
        · -- buildSlice
          (go_simp; replace hS := hS2)
          refine hK.out _ _ ?_ (fun hHeld => ?_)
          · (try dsimp only)
            exact hS
          clear hK K
          try simp only [Act.put, List.setIfInBounds_toArray, List.set_cons_zero, List.set_cons_succ]
          refine wpAnyH_ready (rs := [14]) (by kernel_rfl) (by simp) ?_
          refine AllReadyH.cons (o := { dst := some 63, op := Op.call { callee := Callee.builtin Builtin.append, args := #[Operand.tmp 49, Operand.tmp 62], argTypes := #[38, 38] }, type := 38, pos := "ref.go:261", after := #[{ on := 0, ground := Ground.data }, { on := 13, ground := Ground.data }, { on := 11, ground := Ground.chain }], guard := none }) rfl (fun K hK => ?_) ?_
          · -- append
            (refine app_step rfl (app_run (s := .tmp 49) (x := .tmp 62) rfl rfl rfl rfl hrun) ?_; replace hS := hS3)
            refine hK.out _ _ ?_ (fun hHeld => ?_)
            · (try dsimp only)
              exact hS
            clear hK K
            try simp only [Act.put, List.setIfInBounds_toArray, List.set_cons_zero, List.set_cons_succ]
            refine wpAnyH_take (i := 15) (oi := { dst := some 0, op := Op.assign (Operand.tmp 63), type := 38, pos := "ref.go:261", after := #[{ on := 14, ground := Ground.data }, { on := 14, ground := Ground.chain }, { on := 0, ground := Ground.phase }, { on := 1, ground := Ground.phase }, { on := 2, ground := Ground.phase }, { on := 3, ground := Ground.phase }, { on := 4, ground := Ground.phase }, { on := 5, ground := Ground.phase }, { on := 6, ground := Ground.phase }, { on := 7, ground := Ground.phase }, { on := 8, ground := Ground.phase }, { on := 9, ground := Ground.phase }, { on := 10, ground := Ground.phase }, { on := 11, ground := Ground.phase }, { on := 12, ground := Ground.phase }, { on := 13, ground := Ground.phase }, { on := 14, ground := Ground.phase }], guard := none }) (v := ?_) rfl (by kernel_rfl) (by kernel_rfl) (by kernel_rfl) (fun _ _ _ h => h) (Or.inl ⟨by rfl, ?_⟩) (by assumption) ?_
            rotate_left
            · (intro w hSw; (try dsimp only at hSw); go_simp); all_goals (with_reducible rfl)
            try simp only [Act.put, List.setIfInBounds_toArray, List.set_cons_zero]
            refine wpAnyH_done (by kernel_rfl) ?_ _
            have hk9 : Keeps base w w9 := Keeps.trans (Keeps.trans hkw (Keeps.of hbk hbw)) (Keeps.trans (Keeps.of ((Below.refl W.heap.size W).alloc (Nat.le_refl _) _) (Nat.le_trans hbw hbk.size)) hkA)
            obtain ⟨g9, cap9, e9, hbg9, hcap9⟩ := hA.row.own (i := 0) (by simp)
            rw [List.length_append, HLM.out, List.length_singleton] at e9 hcap9
            simp only [Value.slice.injEq] at e9
            obtain ⟨rfl, rfl, rfl⟩ := e9
            have hrow9 : OwnTots w9 base 56 (.slice (some ⟨g9, 0, none⟩) (i + 1) c9) (L.take i ++ (⟨d.p, s * d.gm, fun i => s * d.c i⟩ : Tot) :: L.drop i) := by
              rw [← HL.out, List.take_length, List.drop_length]
              have := hA.row
              rw [HLM.out] at *
              unfold OwnTots
              rw [List.map_append]
              rw [HL.out]
              exact this
            have i5 : IntKind.i64.wrap ((i : Int) + 1 - 1) = (i : Int) := by rw [IntWalk.i64_in _ (by omega)]; omega
            have HS0 : Hid (∀ j t, i ≤ j → L[j]? = some t → bytesLess d.p t.p = true) := Lib.hid fun j t hj ht => by
              have := (List.getElem?_eq_some_iff.1 ht).1
              rw [HL.out] at this
              omega
            have hbw9 : base ≤ w9.heap.size := Nat.le_trans hbw (Nat.le_trans hbk.size (Nat.le_trans (by simp) hA.size))
            clear hA hkA hrun hbs hbk hdr cA hkw hbw HROW HLM HTT hbx hszq r1 r2
            go_wp2_with fail
            go_loopw [8] (fun t wx => ∃ k : Nat, k ≤ i ∧ t = .int .i64 k ∧ OwnTots wx base 56 (.slice (some ⟨g9, 0, none⟩) (i + 1) c9) (L.take k ++ (⟨d.p, s * d.gm, fun i => s * d.c i⟩ : Tot) :: L.drop k) ∧ Hid (∀ j t, k ≤ j → L[j]? = some t → bytesLess d.p t.p = true) ∧ Keeps base w wx ∧ base ≤ wx.heap.size) (fun t _ => (numOf' t).toNat)
            case atStart => exact ⟨i, Nat.le_refl _, rfl, hrow9, HS0, hk9, hbw9⟩
            case round =>
              clear hrow9 HS0 hk9 hbw9
              obtain ⟨k, hk, rfl, hM, hE, hkp, hbs⟩ := hrel
              have hdr : Below wr.heap.size wr wr.drew := (Below.refl _ _).drew
              rcases Nat.eq_zero_or_pos k with hk0 | hk0
              · have i1 : ¬ (0 : Int) < (k : Int) := by omega
                have HF : Hid (insT s d L = L.take k ++ (⟨d.p, s * d.gm, fun i => s * d.c i⟩ : Tot) :: L.drop k) := Lib.hid (by
                  rw [← HNT.out]
                  exact insT_at (by omega) (fun j t hj => by omega) hE.out)
                clear hk0 hE
                go_wp2_with fail
                refine wp_region_quiet_to (C := (fun W => Below wr.heap.size wr W)) 15 1 #[true, true, true, true, true, true, true, true, true, true, true, true, true, true, true, false] (by kernel_rfl) (by kernel_rfl) ?_ ?_
                · (try dsimp only)
                  exact hdr
                simp only [List.take_succ_cons, List.take_zero]
                with_reducible refine quiet_take (v := ?_) ?_ ?_ ?_
                rotate_left
                · rfl
                · (intro w hbk; (try dsimp only at hbk); go_simp); all_goals (with_reducible rfl)
                try simp only [Act.put, List.setIfInBounds_toArray, List.set_cons_zero, List.set_cons_succ]
                with_reducible refine quiet_take (v := .bool false) ?_ ?_ ?_
                · rfl
                · (intro w hbk; go_simp; first | done | omega | (simp; omega))
                try simp only [Act.put, List.setIfInBounds_toArray, List.set_cons_zero, List.set_cons_succ]
                with_reducible refine quiet_take (v := ?_) ?_ ?_ ?_
                rotate_left
                · rfl
                · (intro w hbk; (try dsimp only at hbk); go_simp); all_goals (with_reducible rfl)
                try simp only [Act.put, List.setIfInBounds_toArray, List.set_cons_zero, List.set_cons_succ]
                with_reducible refine quiet_skip ?_ ?_
                · rfl
                try simp only [Act.put, List.setIfInBounds_toArray, List.set_cons_zero, List.set_cons_succ]
                with_reducible refine quiet_skip ?_ ?_
                · rfl
                try simp only [Act.put, List.setIfInBounds_toArray, List.set_cons_zero, List.set_cons_succ]
                with_reducible refine quiet_skip ?_ ?_
                · rfl
                try simp only [Act.put, List.setIfInBounds_toArray, List.set_cons_zero, List.set_cons_succ]
                with_reducible refine quiet_skip ?_ ?_
                · rfl
                try simp only [Act.put, List.setIfInBounds_toArray, List.set_cons_zero, List.set_cons_succ]
                with_reducible refine quiet_skip ?_ ?_
                · rfl
                try simp only [Act.put, List.setIfInBounds_toArray, List.set_cons_zero, List.set_cons_succ]
                with_reducible refine quiet_skip ?_ ?_
                · rfl
                try simp only [Act.put, List.setIfInBounds_toArray, List.set_cons_zero, List.set_cons_succ]
                with_reducible refine quiet_skip ?_ ?_
                · rfl
                try simp only [Act.put, List.setIfInBounds_toArray, List.set_cons_zero, List.set_cons_succ]
                with_reducible refine quiet_skip ?_ ?_
                · rfl
                try simp only [Act.put, List.setIfInBounds_toArray, List.set_cons_zero, List.set_cons_succ]
                with_reducible refine quiet_skip ?_ ?_
                · rfl
                try simp only [Act.put, List.setIfInBounds_toArray, List.set_cons_zero, List.set_cons_succ]
                with_reducible refine quiet_skip ?_ ?_
                · rfl
                try simp only [Act.put, List.setIfInBounds_toArray, List.set_cons_zero, List.set_cons_succ]
                with_reducible refine quiet_skip ?_ ?_
                · rfl
                try simp only [Act.put, List.setIfInBounds_toArray, List.set_cons_zero, List.set_cons_succ]
                with_reducible refine quiet_skip ?_ ?_
                · rfl
                try simp only [Act.put, List.setIfInBounds_toArray, List.set_cons_zero, List.set_cons_succ]
                refine wpQuiet_nil ?_
                intro W hbk
                refine wpAny_of_held (S := fun _ => True) _ _ _ _ ?_
                refine wpAnyH_ready (rs := [15]) (by kernel_rfl) (by simp) ?_
                refine AllReadyH.cons (o := _) rfl (fun K hK => ?_) ?_
                · -- pick
                  go_simp
                  refine hK.out _ _ trivial (fun _ => ?_)
                  clear hK K
                  try simp only [List.setIfInBounds_toArray, List.set_cons_zero, List.set_cons_succ]
                  refine wpAnyH_done (by kernel_rfl) ?_ _
                  have hM9 := OwnRow.below hM hbk
                  have hkp9 := hkp.trans (Keeps.of hbk hbs)
                  clear hbk
                  go_wp2_with fail
                  go_ret
                  exact ⟨⟨_, rfl, by rw [HF.out]; exact hM9⟩, hkp9⟩
                exact AllReadyH.nil
              · obtain ⟨q, rfl⟩ : ∃ q, k = q + 1 := ⟨k - 1, by omega⟩
                obtain ⟨x, hx⟩ : ∃ x, L[q]? = some x := ⟨_, List.getElem?_eq_getElem (by rw [HL.out]; omega)⟩
                have hM1 : ((L.take (q + 1) ++ (⟨d.p, s * d.gm, fun i => s * d.c i⟩ : Tot) :: L.drop (q + 1)).map Tot.cells)[q + 1]? = some ((⟨d.p, s * d.gm, fun i => s * d.c i⟩ : Tot)).cells := by rw [List.getElem?_map, mid_get (by rw [HL.out]; omega)]; rfl
                have hM0 : ((L.take (q + 1) ++ (⟨d.p, s * d.gm, fun i => s * d.c i⟩ : Tot) :: L.drop (q + 1)).map Tot.cells)[q]? = some x.cells := by rw [List.getElem?_map, mid_low hx]; rfl
                have i1 : (0 : Int) < ((q + 1 : Nat) : Int) := by omega
                have i2 : ((q + 1 : Nat) : Int) - 1 = (q : Int) := by omega
                have i3 : (q : Int) < (i : Int) + 1 := by omega
                have i4 : IntKind.i64.wrap (q : Int) = (q : Int) := IntWalk.i64_in _ (by omega)
                have i6 : IntKind.i64.wrap ((q : Int) + 1 - 1) = (q : Int) := by rw [IntWalk.i64_in _ (by omega)]; omega
                have i7 : (0 : Int) ≤ (q : Int) + 1 := by omega
                have i8 : (q : Int) + 1 < (i : Int) + 1 := by omega
                have i9 : (q : Int) < (i : Int) := by omega
                have lx : (bA x.p).toList = x.p := bA_list _
                obtain ⟨lt, hlt⟩ : ∃ b, bytesLess d.p x.p = b := ⟨_, rfl⟩
                have ld : (bA d.p).toList = d.p := bA_list _
                clear hk0
                cases lt with
                | false =>
                  have HF : Hid (insT s d L = L.take (q + 1) ++ (⟨d.p, s * d.gm, fun i => s * d.c i⟩ : Tot) :: L.drop (q + 1)) := Lib.hid (by
                    rw [← HNT.out]
                    refine insT_at (by rw [HL.out]; omega) (fun j t hj ht => ?_) hE.out
                    have hxd : bytesLess x.p d.p = true := by
                      cases hq : bytesLess x.p d.p with
                      | true => rfl
                      | false => exact absurd (bl_tri hq hlt) (HNE.out q x (by omega) hx)
                    rcases Nat.lt_succ_iff_lt_or_eq.1 hj with hj | rfl
                    · exact bl_trans (sort_lt HS.out ht hx hj) hxd
                    · rw [ht] at hx; cases hx; exact hxd)
                  clear hE
                  go_wp2_with fail
                  refine wp_region_quiet_to (C := (fun W => Below wr.heap.size wr W)) 15 1 #[true, true, true, true, true, true, true, true, true, true, true, true, true, true, true, false] (by kernel_rfl) (by kernel_rfl) ?_ ?_
                  · (try dsimp only)
                    exact hdr
                  simp only [List.take_succ_cons, List.take_zero]
                  with_reducible refine quiet_take (v := ?_) ?_ ?_ ?_
                  rotate_left
                  · rfl
                  · (intro w hbk; (try dsimp only at hbk); go_simp); all_goals (with_reducible rfl)
                  try simp only [Act.put, List.setIfInBounds_toArray, List.set_cons_zero, List.set_cons_succ]
                  with_reducible refine quiet_take (v := .bool true) ?_ ?_ ?_
                  · rfl
                  · (intro w hbk; go_simp; first | done | omega | (simp; omega))
                  try simp only [Act.put, List.setIfInBounds_toArray, List.set_cons_zero, List.set_cons_succ]
                  with_reducible refine quiet_take (v := ?_) ?_ ?_ ?_
                  rotate_left
                  · rfl
                  · (intro w hbk; (try dsimp only at hbk); go_simp); all_goals (with_reducible rfl)
                  try simp only [Act.put, List.setIfInBounds_toArray, List.set_cons_zero, List.set_cons_succ]
                  with_reducible refine quiet_take (v := ?_) ?_ ?_ ?_
                  rotate_left
                  · rfl
                  · (intro w hbk; (try dsimp only at hbk); go_simp); all_goals (with_reducible rfl)
                  try simp only [Act.put, List.setIfInBounds_toArray, List.set_cons_zero, List.set_cons_succ]
                  with_reducible refine quiet_take (v := ?_) ?_ ?_ ?_
                  rotate_left
                  · rfl
                  · (intro w hbk; (try dsimp only at hbk); go_simp); all_goals (with_reducible rfl)
                  try simp only [Act.put, List.setIfInBounds_toArray, List.set_cons_zero, List.set_cons_succ]
                  with_reducible refine quiet_take (v := ?_) ?_ ?_ ?_
                  rotate_left
                  · rfl
                  · (intro w hbk; (try dsimp only at hbk); go_simp); all_goals (with_reducible rfl)
                  try simp only [Act.put, List.setIfInBounds_toArray, List.set_cons_zero, List.set_cons_succ]
                  with_reducible refine quiet_take (v := ?_) ?_ ?_ ?_
                  rotate_left
                  · rfl
                  · (intro w hbk; (try dsimp only at hbk); go_simp); all_goals (with_reducible rfl)
                  try simp only [Act.put, List.setIfInBounds_toArray, List.set_cons_zero, List.set_cons_succ]
                  with_reducible refine quiet_take (v := ?_) ?_ ?_ ?_
                  rotate_left
                  · rfl
                  · (intro w hbk; have q1 := (OwnRow.cell (OwnRow.below hM hbk) hM1 (j := 0) (u := .string (bA d.p)) rfl).1; rw [Nat.add_zero] at q1; (try dsimp only at hbk); go_simp); all_goals (with_reducible rfl)
                  try simp only [Act.put, List.setIfInBounds_toArray, List.set_cons_zero, List.set_cons_succ]
                  with_reducible refine quiet_take (v := ?_) ?_ ?_ ?_
                  rotate_left
                  · rfl
                  · (intro w hbk; (try dsimp only at hbk); go_simp); all_goals (with_reducible rfl)
                  try simp only [Act.put, List.setIfInBounds_toArray, List.set_cons_zero, List.set_cons_succ]
                  with_reducible refine quiet_take (v := ?_) ?_ ?_ ?_
                  rotate_left
                  · rfl
                  · (intro w hbk; (try dsimp only at hbk); go_simp); all_goals (with_reducible rfl)
                  try simp only [Act.put, List.setIfInBounds_toArray, List.set_cons_zero, List.set_cons_succ]
                  with_reducible refine quiet_take (v := ?_) ?_ ?_ ?_
                  rotate_left
                  · rfl
                  · (intro w hbk; (try dsimp only at hbk); go_simp); all_goals (with_reducible rfl)
                  try simp only [Act.put, List.setIfInBounds_toArray, List.set_cons_zero, List.set_cons_succ]
                  with_reducible refine quiet_take (v := ?_) ?_ ?_ ?_
                  rotate_left
                  · rfl
                  · (intro w hbk; (try dsimp only at hbk); go_simp); all_goals (with_reducible rfl)
                  try simp only [Act.put, List.setIfInBounds_toArray, List.set_cons_zero, List.set_cons_succ]
                  with_reducible refine quiet_take (v := ?_) ?_ ?_ ?_
                  rotate_left
                  · rfl
                  · (intro w hbk; (try dsimp only at hbk); go_simp); all_goals (with_reducible rfl)
                  try simp only [Act.put, List.setIfInBounds_toArray, List.set_cons_zero, List.set_cons_succ]
                  with_reducible refine quiet_take (v := ?_) ?_ ?_ ?_
                  rotate_left
                  · rfl
                  · (intro w hbk; have q2 := (OwnRow.cell (OwnRow.below hM hbk) hM0 (j := 0) (u := .string (bA x.p)) rfl).1; rw [Nat.add_zero] at q2; (try dsimp only at hbk); go_simp); all_goals (with_reducible rfl)
                  try simp only [Act.put, List.setIfInBounds_toArray, List.set_cons_zero, List.set_cons_succ]
                  with_reducible refine quiet_take (v := ?_) ?_ ?_ ?_
                  rotate_left
                  · rfl
                  · (intro w hbk; (try dsimp only at hbk); go_simp); all_goals (with_reducible rfl)
                  try simp only [Act.put, List.setIfInBounds_toArray, List.set_cons_zero, List.set_cons_succ]
                  refine wpQuiet_nil ?_
                  intro W hbk
                  refine wpAny_of_held (S := fun _ => True) _ _ _ _ ?_
                  refine wpAnyH_ready (rs := [15]) (by kernel_rfl) (by simp) ?_
                  refine AllReadyH.cons (o := _) rfl (fun K hK => ?_) ?_
                  · -- pick
                    go_simp
                    refine hK.out _ _ trivial (fun _ => ?_)
                    clear hK K
                    try simp only [List.setIfInBounds_toArray, List.set_cons_zero, List.set_cons_succ]
                    refine wpAnyH_done (by kernel_rfl) ?_ _
                    have hM9 := OwnRow.below hM hbk
                    have hkp9 := hkp.trans (Keeps.of hbk hbs)
                    clear hbk
                    go_wp2_with fail
                    go_ret
                    exact ⟨⟨_, rfl, by rw [HF.out]; exact hM9⟩, hkp9⟩
                  exact AllReadyH.nil
                | true =>
                  have hE2 : Hid (∀ j t, q ≤ j → L[j]? = some t → bytesLess d.p t.p = true) := Lib.hid fun j t hj ht => by
                    rcases Nat.lt_or_ge q j with h | h
                    · exact hE.out j t h ht
                    · obtain rfl : j = q := by omega
                      rw [ht] at hx; cases hx; exact hlt
                  clear hE
                  go_wp2_with fail
                  refine wp_region_quiet_to (C := (fun W => Below wr.heap.size wr W)) 15 1 #[true, true, true, true, true, true, true, true, true, true, true, true, true, true, true, false] (by kernel_rfl) (by kernel_rfl) ?_ ?_
                  · (try dsimp only)
                    exact hdr
                  simp only [List.take_succ_cons, List.take_zero]
                  with_reducible refine quiet_take (v := ?_) ?_ ?_ ?_
                  rotate_left
                  · rfl
                  · (intro w hbk; (try dsimp only at hbk); go_simp); all_goals (with_reducible rfl)
                  try simp only [Act.put, List.setIfInBounds_toArray, List.set_cons_zero, List.set_cons_succ]
                  with_reducible refine quiet_take (v := .bool true) ?_ ?_ ?_
                  · rfl
                  · (intro w hbk; go_simp; first | done | omega | (simp; omega))
                  try simp only [Act.put, List.setIfInBounds_toArray, List.set_cons_zero, List.set_cons_succ]
                  with_reducible refine quiet_take (v := ?_) ?_ ?_ ?_
                  rotate_left
                  · rfl
                  · (intro w hbk; (try dsimp only at hbk); go_simp); all_goals (with_reducible rfl)
                  try simp only [Act.put, List.setIfInBounds_toArray, List.set_cons_zero, List.set_cons_succ]
                  with_reducible refine quiet_take (v := ?_) ?_ ?_ ?_
                  rotate_left
                  · rfl
                  · (intro w hbk; (try dsimp only at hbk); go_simp); all_goals (with_reducible rfl)
                  try simp only [Act.put, List.setIfInBounds_toArray, List.set_cons_zero, List.set_cons_succ]
                  with_reducible refine quiet_take (v := ?_) ?_ ?_ ?_
                  rotate_left
                  · rfl
                  · (intro w hbk; (try dsimp only at hbk); go_simp); all_goals (with_reducible rfl)
                  try simp only [Act.put, List.setIfInBounds_toArray, List.set_cons_zero, List.set_cons_succ]
                  with_reducible refine quiet_take (v := ?_) ?_ ?_ ?_
                  rotate_left
                  · rfl
                  · (intro w hbk; (try dsimp only at hbk); go_simp); all_goals (with_reducible rfl)
                  try simp only [Act.put, List.setIfInBounds_toArray, List.set_cons_zero, List.set_cons_succ]
                  with_reducible refine quiet_take (v := ?_) ?_ ?_ ?_
                  rotate_left
                  · rfl
                  · (intro w hbk; (try dsimp only at hbk); go_simp); all_goals (with_reducible rfl)
                  try simp only [Act.put, List.setIfInBounds_toArray, List.set_cons_zero, List.set_cons_succ]
                  with_reducible refine quiet_take (v := ?_) ?_ ?_ ?_
                  rotate_left
                  · rfl
                  · (intro w hbk; have q1 := (OwnRow.cell (OwnRow.below hM hbk) hM1 (j := 0) (u := .string (bA d.p)) rfl).1; rw [Nat.add_zero] at q1; (try dsimp only at hbk); go_simp); all_goals (with_reducible rfl)
                  try simp only [Act.put, List.setIfInBounds_toArray, List.set_cons_zero, List.set_cons_succ]
                  with_reducible refine quiet_take (v := ?_) ?_ ?_ ?_
                  rotate_left
                  · rfl
                  · (intro w hbk; (try dsimp only at hbk); go_simp); all_goals (with_reducible rfl)
                  try simp only [Act.put, List.setIfInBounds_toArray, List.set_cons_zero, List.set_cons_succ]
                  with_reducible refine quiet_take (v := ?_) ?_ ?_ ?_
                  rotate_left
                  · rfl
                  · (intro w hbk; (try dsimp only at hbk); go_simp); all_goals (with_reducible rfl)
                  try simp only [Act.put, List.setIfInBounds_toArray, List.set_cons_zero, List.set_cons_succ]
                  with_reducible refine quiet_take (v := ?_) ?_ ?_ ?_
                  rotate_left
                  · rfl
                  · (intro w hbk; (try dsimp only at hbk); go_simp); all_goals (with_reducible rfl)
                  try simp only [Act.put, List.setIfInBounds_toArray, List.set_cons_zero, List.set_cons_succ]
                  with_reducible refine quiet_take (v := ?_) ?_ ?_ ?_
                  rotate_left
                  · rfl
                  · (intro w hbk; (try dsimp only at hbk); go_simp); all_goals (with_reducible rfl)
                  try simp only [Act.put, List.setIfInBounds_toArray, List.set_cons_zero, List.set_cons_succ]
                  with_reducible refine quiet_take (v := ?_) ?_ ?_ ?_
                  rotate_left
                  · rfl
                  · (intro w hbk; (try dsimp only at hbk); go_simp); all_goals (with_reducible rfl)
                  try simp only [Act.put, List.setIfInBounds_toArray, List.set_cons_zero, List.set_cons_succ]
                  with_reducible refine quiet_take (v := ?_) ?_ ?_ ?_
                  rotate_left
                  · rfl
                  · (intro w hbk; have q2 := (OwnRow.cell (OwnRow.below hM hbk) hM0 (j := 0) (u := .string (bA x.p)) rfl).1; rw [Nat.add_zero] at q2; (try dsimp only at hbk); go_simp); all_goals (with_reducible rfl)
                  try simp only [Act.put, List.setIfInBounds_toArray, List.set_cons_zero, List.set_cons_succ]
                  with_reducible refine quiet_take (v := ?_) ?_ ?_ ?_
                  rotate_left
                  · rfl
                  · (intro w hbk; (try dsimp only at hbk); go_simp); all_goals (with_reducible rfl)
                  try simp only [Act.put, List.setIfInBounds_toArray, List.set_cons_zero, List.set_cons_succ]
                  refine wpQuiet_nil ?_
                  intro W hbk
                  refine wpAny_of_held (S := fun _ => True) _ _ _ _ ?_
                  refine wpAnyH_ready (rs := [15]) (by kernel_rfl) (by simp) ?_
                  refine AllReadyH.cons (o := _) rfl (fun K hK => ?_) ?_
                  · -- pick
                    go_simp
                    refine hK.out _ _ trivial (fun _ => ?_)
                    clear hK K
                    try simp only [List.setIfInBounds_toArray, List.set_cons_zero, List.set_cons_succ]
                    refine wpAnyH_done (by kernel_rfl) ?_ _
                    have hM2 := OwnRow.below hM hbk
                    have hkp2 := hkp.trans (Keeps.of hbk hbs)
                    have hbs2 := Nat.le_trans hbs hbk.size
                    clear hbk hdr hM hkp
                    generalize W = wr2 at hM2 hkp2 hbs2 ⊢
                    have hdr : Below wr2.heap.size wr2 wr2.drew := (Below.refl _ _).drew
                    go_wp2_with fail
                    refine wp_region_held_drew (S := (fun _ => True)) (by kernel_rfl) ?_ (fun hHeld => ?_)
                    · (try dsimp only)
                      try trivial
                    have hMW := OwnRow.below hM2 hdr
                    have hkW := Keeps.trans hkp2 (Keeps.of hdr hbs2)
                    have hbW : base ≤ wr2.drew.heap.size := hbs2
                    generalize wr2.drew = W at hMW hkW hbW ⊢
                    obtain ⟨a0, e0⟩ := OwnRow.cell hMW hM0 (j := 0) (u := .string (bA x.p)) rfl
                    obtain ⟨a1, e1⟩ := OwnRow.cell hMW hM0 (j := 1) (u := .int .i64 x.gm) rfl
                    obtain ⟨a2, e2⟩ := OwnRow.cell hMW hM0 (j := 2) (u := .int .i64 (x.c 0)) rfl
                    obtain ⟨a3, e3⟩ := OwnRow.cell hMW hM0 (j := 3) (u := .int .i64 (x.c 1)) rfl
                    obtain ⟨a4, e4⟩ := OwnRow.cell hMW hM0 (j := 4) (u := .int .i64 (x.c 2)) rfl
                    obtain ⟨a5, e5⟩ := OwnRow.cell hMW hM0 (j := 5) (u := .int .i64 (x.c 3)) rfl
                    obtain ⟨a6, e6⟩ := OwnRow.cell hMW hM0 (j := 6) (u := .int .i64 (x.c 4)) rfl
                    obtain ⟨a7, e7⟩ := OwnRow.cell hMW hM0 (j := 7) (u := .int .i64 (x.c 5)) rfl
                    obtain ⟨a8, e8⟩ := OwnRow.cell hMW hM0 (j := 8) (u := .int .i64 (x.c 6)) rfl
                    obtain ⟨a9, e9⟩ := OwnRow.cell hMW hM0 (j := 9) (u := .int .i64 (x.c 7)) rfl
                    obtain ⟨a10, e10⟩ := OwnRow.cell hMW hM0 (j := 10) (u := .int .i64 (x.c 8)) rfl
                    obtain ⟨a11, e11⟩ := OwnRow.cell hMW hM0 (j := 11) (u := .int .i64 (x.c 9)) rfl
                    obtain ⟨a12, e12⟩ := OwnRow.cell hMW hM0 (j := 12) (u := .int .i64 (x.c 10)) rfl
                    obtain ⟨a13, e13⟩ := OwnRow.cell hMW hM0 (j := 13) (u := .int .i64 (x.c 11)) rfl
                    rw [Nat.add_zero] at a0 e0
                    obtain ⟨b0, f0⟩ := OwnRow.cell hMW hM1 (j := 0) (u := .string (bA d.p)) rfl
                    obtain ⟨b1, f1⟩ := OwnRow.cell hMW hM1 (j := 1) (u := .int .i64 (s * d.gm)) rfl
                    obtain ⟨b2, f2⟩ := OwnRow.cell hMW hM1 (j := 2) (u := .int .i64 (s * d.c 0)) rfl
                    obtain ⟨b3, f3⟩ := OwnRow.cell hMW hM1 (j := 3) (u := .int .i64 (s * d.c 1)) rfl
                    obtain ⟨b4, f4⟩ := OwnRow.cell hMW hM1 (j := 4) (u := .int .i64 (s * d.c 2)) rfl
                    obtain ⟨b5, f5⟩ := OwnRow.cell hMW hM1 (j := 5) (u := .int .i64 (s * d.c 3)) rfl
                    obtain ⟨b6, f6⟩ := OwnRow.cell hMW hM1 (j := 6) (u := .int .i64 (s * d.c 4)) rfl
                    obtain ⟨b7, f7⟩ := OwnRow.cell hMW hM1 (j := 7) (u := .int .i64 (s * d.c 5)) rfl
                    obtain ⟨b8, f8⟩ := OwnRow.cell hMW hM1 (j := 8) (u := .int .i64 (s * d.c 6)) rfl
                    obtain ⟨b9, f9⟩ := OwnRow.cell hMW hM1 (j := 9) (u := .int .i64 (s * d.c 7)) rfl
                    obtain ⟨b10, f10⟩ := OwnRow.cell hMW hM1 (j := 10) (u := .int .i64 (s * d.c 8)) rfl
                    obtain ⟨b11, f11⟩ := OwnRow.cell hMW hM1 (j := 11) (u := .int .i64 (s * d.c 9)) rfl
                    obtain ⟨b12, f12⟩ := OwnRow.cell hMW hM1 (j := 12) (u := .int .i64 (s * d.c 10)) rfl
                    obtain ⟨b13, f13⟩ := OwnRow.cell hMW hM1 (j := 13) (u := .int .i64 (s * d.c 11)) rfl
                    rw [Nat.add_zero] at b0 f0
                    refine wpAnyH_take (i := 0) (oi := { dst := some 85, op := Op.move (Operand.tmp 0), type := 38, pos := "ref.go:263", after := #[], guard := none }) (v := ?_) rfl (by kernel_rfl) (by kernel_rfl) (by kernel_rfl) (fun _ _ _ h => h) (Or.inl ⟨by rfl, ?_⟩) (by assumption) ?_
                    rotate_left
                    · (intro w hbk; (try dsimp only at hbk); go_simp); all_goals (with_reducible rfl)
                    try simp only [Act.put, List.setIfInBounds_toArray, List.set_cons_zero, List.set_cons_succ]
                    refine wpAnyH_take (i := 1) (oi := { dst := some 86, op := Op.move (Operand.tmp 8), type := 3, pos := "ref.go:263", after := #[], guard := none }) (v := ?_) rfl (by kernel_rfl) (by kernel_rfl) (by kernel_rfl) (fun _ _ _ h => h) (Or.inl ⟨by rfl, ?_⟩) (by assumption) ?_
                    rotate_left
                    · (intro w hbk; (try dsimp only at hbk); go_simp); all_goals (with_reducible rfl)
                    try simp only [Act.put, List.setIfInBounds_toArray, List.set_cons_zero, List.set_cons_succ]
                    refine wpAnyH_take (i := 2) (oi := { dst := some 87, op := Op.move (Operand.tmp 0), type := 38, pos := "ref.go:263", after := #[{ on := 15, ground := Ground.gcOnly Departure.lateStores }], guard := none }) (v := ?_) rfl (by kernel_rfl) (by kernel_rfl) (by kernel_rfl) (fun _ _ _ h => h) (Or.inl ⟨by rfl, ?_⟩) (by assumption) ?_
                    rotate_left
                    · (intro w hbk; (try dsimp only at hbk); go_simp); all_goals (with_reducible rfl)
                    try simp only [Act.put, List.setIfInBounds_toArray, List.set_cons_zero, List.set_cons_succ]
                    refine wpAnyH_take (i := 3) (oi := { dst := some 88, op := Op.move (Operand.tmp 8), type := 3, pos := "ref.go:263", after := #[{ on := 15, ground := Ground.gcOnly Departure.lateStores }], guard := none }) (v := ?_) rfl (by kernel_rfl) (by kernel_rfl) (by kernel_rfl) (fun _ _ _ h => h) (Or.inl ⟨by rfl, ?_⟩) (by assumption) ?_
                    rotate_left
                    · (intro w hbk; (try dsimp only at hbk); go_simp); all_goals (with_reducible rfl)
                    try simp only [Act.put, List.setIfInBounds_toArray, List.set_cons_zero, List.set_cons_succ]
                    refine wpAnyH_take (i := 4) (oi := { dst := some 89, op := Op.binOp BinOp.sub 3 (Operand.tmp 88) (Operand.const (Value.int IntKind.i64 1)) 3, type := 3, pos := "ref.go:263", after := #[{ on := 3, ground := Ground.data }, { on := 15, ground := Ground.gcOnly Departure.lateStores }], guard := none }) (v := ?_) rfl (by kernel_rfl) (by kernel_rfl) (by kernel_rfl) (fun _ _ _ h => h) (Or.inl ⟨by rfl, ?_⟩) (by assumption) ?_
                    rotate_left
                    · (intro w hbk; (try dsimp only at hbk); go_simp); all_goals (with_reducible rfl)
                    try simp only [Act.put, List.setIfInBounds_toArray, List.set_cons_zero, List.set_cons_succ]
                    refine wpAnyH_take (i := 5) (oi := { dst := some 90, op := Op.move (Operand.tmp 0), type := 38, pos := "ref.go:263", after := #[], guard := none }) (v := ?_) rfl (by kernel_rfl) (by kernel_rfl) (by kernel_rfl) (fun _ _ _ h => h) (Or.inl ⟨by rfl, ?_⟩) (by assumption) ?_
                    rotate_left
                    · (intro w hbk; (try dsimp only at hbk); go_simp); all_goals (with_reducible rfl)
                    try simp only [Act.put, List.setIfInBounds_toArray, List.set_cons_zero, List.set_cons_succ]
                    refine wpAnyH_take (i := 6) (oi := { dst := some 91, op := Op.move (Operand.tmp 8), type := 3, pos := "ref.go:263", after := #[], guard := none }) (v := ?_) rfl (by kernel_rfl) (by kernel_rfl) (by kernel_rfl) (fun _ _ _ h => h) (Or.inl ⟨by rfl, ?_⟩) (by assumption) ?_
                    rotate_left
                    · (intro w hbk; (try dsimp only at hbk); go_simp); all_goals (with_reducible rfl)
                    try simp only [Act.put, List.setIfInBounds_toArray, List.set_cons_zero, List.set_cons_succ]
                    refine wpAnyH_take (i := 7) (oi := { dst := some 92, op := Op.binOp BinOp.sub 3 (Operand.tmp 91) (Operand.const (Value.int IntKind.i64 1)) 3, type := 3, pos := "ref.go:263", after := #[{ on := 6, ground := Ground.data }], guard := none }) (v := ?_) rfl (by kernel_rfl) (by kernel_rfl) (by kernel_rfl) (fun _ _ _ h => h) (Or.inl ⟨by rfl, ?_⟩) (by assumption) ?_
                    rotate_left
                    · (intro w hbk; (try dsimp only at hbk); go_simp); all_goals (with_reducible rfl)
                    try simp only [Act.put, List.setIfInBounds_toArray, List.set_cons_zero, List.set_cons_succ]
                    refine wpAnyH_take (i := 8) (oi := { dst := some 93, op := Op.indexAddr 38 (Operand.tmp 90) (Operand.tmp 92), type := 0, pos := "ref.go:263", after := #[{ on := 5, ground := Ground.data }, { on := 7, ground := Ground.data }], guard := none }) (v := ?_) rfl (by kernel_rfl) (by kernel_rfl) (by kernel_rfl) (fun _ _ _ h => h) (Or.inl ⟨by rfl, ?_⟩) (by assumption) ?_
                    rotate_left
                    · (intro w hbk; (try dsimp only at hbk); go_simp); all_goals (with_reducible rfl)
                    try simp only [Act.put, List.setIfInBounds_toArray, List.set_cons_zero, List.set_cons_succ]
                    refine wpAnyH_take (i := 10) (oi := { dst := some 95, op := Op.move (Operand.tmp 0), type := 38, pos := "ref.go:263", after := #[], guard := none }) (v := ?_) rfl (by kernel_rfl) (by kernel_rfl) (by kernel_rfl) (fun _ _ _ h => h) (Or.inl ⟨by rfl, ?_⟩) (by assumption) ?_
                    rotate_left
                    · (intro w hbk; (try dsimp only at hbk); go_simp); all_goals (with_reducible rfl)
                    try simp only [Act.put, List.setIfInBounds_toArray, List.set_cons_zero, List.set_cons_succ]
                    refine wpAnyH_take (i := 11) (oi := { dst := some 96, op := Op.move (Operand.tmp 8), type := 3, pos := "ref.go:263", after := #[], guard := none }) (v := ?_) rfl (by kernel_rfl) (by kernel_rfl) (by kernel_rfl) (fun _ _ _ h => h) (Or.inl ⟨by rfl, ?_⟩) (by assumption) ?_
                    rotate_left
                    · (intro w hbk; (try dsimp only at hbk); go_simp); all_goals (with_reducible rfl)
                    try simp only [Act.put, List.setIfInBounds_toArray, List.set_cons_zero, List.set_cons_succ]
                    refine wpAnyH_take (i := 12) (oi := { dst := some 97, op := Op.indexAddr 38 (Operand.tmp 95) (Operand.tmp 96), type := 0, pos := "ref.go:263", after := #[{ on := 10, ground := Ground.data }, { on := 11, ground := Ground.data }], guard := none }) (v := ?_) rfl (by kernel_rfl) (by kernel_rfl) (by kernel_rfl) (fun _ _ _ h => h) (Or.inl ⟨by rfl, ?_⟩) (by assumption) ?_
                    rotate_left
                    · (intro w hbk; (try dsimp only at hbk); go_simp); all_goals (with_reducible rfl)
                    try simp only [Act.put, List.setIfInBounds_toArray, List.set_cons_zero, List.set_cons_succ]
                    refine wpAnyH_ready (rs := [9, 13]) (by kernel_rfl) (by simp) ?_
                    refine AllReadyH.cons (o := _) rfl (fun K hK => ?_) ?_
                    · -- load
                      go_simp
                      refine hK.out _ _ ?_ (fun hHeld => ?_)
                      · (try dsimp only)
                        try trivial
                      clear hK K
                      try simp only [Act.put, List.setIfInBounds_toArray, List.set_cons_zero, List.set_cons_succ]
                      refine wpAnyH_ready (rs := [13]) (by kernel_rfl) (by simp) ?_
                      refine AllReadyH.cons (o := _) rfl (fun K hK => ?_) ?_
                      · -- load
                        go_simp
                        refine hK.out _ _ ?_ (fun hHeld => ?_)
                        · (try dsimp only)
                          try trivial
                        clear hK K
                        try simp only [Act.put, List.setIfInBounds_toArray, List.set_cons_zero, List.set_cons_succ]
                        refine wpAnyH_take (i := 14) (oi := { dst := some 99, op := Op.indexAddr 38 (Operand.tmp 85) (Operand.tmp 86), type := 0, pos := "ref.go:263", after := #[{ on := 0, ground := Ground.data }, { on := 1, ground := Ground.data }, { on := 0, ground := Ground.phase }, { on := 1, ground := Ground.phase }, { on := 2, ground := Ground.textOnly Departure.lateStores }, { on := 3, ground := Ground.textOnly Departure.lateStores }, { on := 4, ground := Ground.textOnly Departure.lateStores }, { on := 5, ground := Ground.phase }, { on := 6, ground := Ground.phase }, { on := 7, ground := Ground.phase }, { on := 8, ground := Ground.phase }, { on := 9, ground := Ground.phase }, { on := 10, ground := Ground.textOnly Departure.lateStores }, { on := 11, ground := Ground.textOnly Departure.lateStores }, { on := 12, ground := Ground.textOnly Departure.lateStoresUnsure }, { on := 13, ground := Ground.phase }], guard := none }) (v := ?_) rfl (by kernel_rfl) (by kernel_rfl) (by kernel_rfl) (fun _ _ _ h => h) (Or.inl ⟨by rfl, ?_⟩) (by assumption) ?_
                        rotate_left
                        · (intro w hbk; (try dsimp only at hbk); go_simp); all_goals (with_reducible rfl)
                        try simp only [Act.put, List.setIfInBounds_toArray, List.set_cons_zero, List.set_cons_succ]
                        refine wpAnyH_ready (rs := [15]) (by kernel_rfl) (by simp) ?_
                        refine AllReadyH.cons (o := _) rfl (fun K hK => ?_) ?_
                        · -- store
                          go_simp
                          refine hK.out _ _ ?_ (fun hHeld => ?_)
                          · (try dsimp only)
                            try trivial
                          clear hK K
                          try simp only [Act.put, List.setIfInBounds_toArray, List.set_cons_zero, List.set_cons_succ]
                          have hr1 : OwnRow (setN W g9 ((q + 1) * 14) x.cells) base 56 14 (.slice (some ⟨g9, 0, none⟩) (i + 1) c9) (((L.take (q + 1) ++ (⟨d.p, s * d.gm, fun i => s * d.c i⟩ : Tot) :: L.drop (q + 1)).map Tot.cells).set (q + 1) x.cells) := OwnRow.writes (vs := x.cells) (j := 0) hMW hM1 (Nat.le_refl _)
                          have hM0' : (((L.take (q + 1) ++ (⟨d.p, s * d.gm, fun i => s * d.c i⟩ : Tot) :: L.drop (q + 1)).map Tot.cells).set (q + 1) x.cells)[q]? = some x.cells := by rw [List.getElem?_set_ne (by omega)]; exact hM0
                          have hk1 : Keeps base w (setN W g9 ((q + 1) * 14) x.cells) := Keeps.trans hkW (keeps_setN hbg9)
                          have hz1 : base ≤ (setN W g9 ((q + 1) * 14) x.cells).heap.size := Nat.le_trans hbW (Nat.le_of_eq (setN_size _ _ _ _).symm)
                          refine castW (P := fun w => wpAnyH _ _ _ _ _ _ _ _ w) (w' := setN W g9 ((q + 1) * 14) x.cells) rfl ?_
                          clear a0 e0 a1 e1 a2 e2 a3 e3 a4 e4 a5 e5 a6 e6 a7 e7 a8 e8 a9 e9 a10 e10 a11 e11 a12 e12 a13 e13 b0 f0 b1 f1 b2 f2 b3 f3 b4 f4 b5 f5 b6 f6 b7 f7 b8 f8 b9 f9 b10 f10 b11 f11 b12 f12 b13 f13
                          generalize setN W g9 ((q + 1) * 14) x.cells = W9 at hr1 hk1 hz1 ⊢
                          obtain ⟨a0, f0⟩ := OwnRow.cell hr1 hM0' (j := 0) (u := .string (bA x.p)) rfl
                          obtain ⟨a1, f1⟩ := OwnRow.cell hr1 hM0' (j := 1) (u := .int .i64 x.gm) rfl
                          obtain ⟨a2, f2⟩ := OwnRow.cell hr1 hM0' (j := 2) (u := .int .i64 (x.c 0)) rfl
                          obtain ⟨a3, f3⟩ := OwnRow.cell hr1 hM0' (j := 3) (u := .int .i64 (x.c 1)) rfl
                          obtain ⟨a4, f4⟩ := OwnRow.cell hr1 hM0' (j := 4) (u := .int .i64 (x.c 2)) rfl
                          obtain ⟨a5, f5⟩ := OwnRow.cell hr1 hM0' (j := 5) (u := .int .i64 (x.c 3)) rfl
                          obtain ⟨a6, f6⟩ := OwnRow.cell hr1 hM0' (j := 6) (u := .int .i64 (x.c 4)) rfl
                          obtain ⟨a7, f7⟩ := OwnRow.cell hr1 hM0' (j := 7) (u := .int .i64 (x.c 5)) rfl
                          obtain ⟨a8, f8⟩ := OwnRow.cell hr1 hM0' (j := 8) (u := .int .i64 (x.c 6)) rfl
                          obtain ⟨a9, f9⟩ := OwnRow.cell hr1 hM0' (j := 9) (u := .int .i64 (x.c 7)) rfl
                          obtain ⟨a10, f10⟩ := OwnRow.cell hr1 hM0' (j := 10) (u := .int .i64 (x.c 8)) rfl
                          obtain ⟨a11, f11⟩ := OwnRow.cell hr1 hM0' (j := 11) (u := .int .i64 (x.c 9)) rfl
                          obtain ⟨a12, f12⟩ := OwnRow.cell hr1 hM0' (j := 12) (u := .int .i64 (x.c 10)) rfl
                          obtain ⟨a13, f13⟩ := OwnRow.cell hr1 hM0' (j := 13) (u := .int .i64 (x.c 11)) rfl
                          rw [Nat.add_zero] at a0 f0
                          refine wpAnyH_take (i := 16) (oi := { dst := some 100, op := Op.indexAddr 38 (Operand.tmp 87) (Operand.tmp 89), type := 0, pos := "ref.go:263", after := #[{ on := 2, ground := Ground.data }, { on := 4, ground := Ground.data }, { on := 0, ground := Ground.phase }, { on := 1, ground := Ground.phase }, { on := 2, ground := Ground.phase }, { on := 3, ground := Ground.phase }, { on := 4, ground := Ground.phase }, { on := 5, ground := Ground.phase }, { on := 6, ground := Ground.phase }, { on := 7, ground := Ground.phase }, { on := 8, ground := Ground.phase }, { on := 9, ground := Ground.phase }, { on := 10, ground := Ground.phase }, { on := 11, ground := Ground.phase }, { on := 12, ground := Ground.phase }, { on := 13, ground := Ground.phase }, { on := 14, ground := Ground.phase }, { on := 15, ground := Ground.phase }], guard := none }) (v := ?_) rfl (by kernel_rfl) (by kernel_rfl) (by kernel_rfl) (fun _ _ _ h => h) (Or.inl ⟨by rfl, ?_⟩) (by assumption) ?_
                          rotate_left
                          · (intro w hbk; (try dsimp only at hbk); go_simp); all_goals (with_reducible rfl)
                          try simp only [Act.put, List.setIfInBounds_toArray, List.set_cons_zero, List.set_cons_succ]
                          refine wpAnyH_ready (rs := [17]) (by kernel_rfl) (by simp) ?_
                          refine AllReadyH.cons (o := _) rfl (fun K hK => ?_) ?_
                          · -- store
                            go_simp
                            refine hK.out _ _ ?_ (fun hHeld => ?_)
                            · (try dsimp only)
                              try trivial
                            clear hK K
                            try simp only [Act.put, List.setIfInBounds_toArray, List.set_cons_zero, List.set_cons_succ]
                            refine wpAnyH_done (by kernel_rfl) ?_ _
                            have hr2 : OwnRow (setN W9 g9 (q * 14) ((⟨d.p, s * d.gm, fun i => s * d.c i⟩ : Tot)).cells) base 56 14 (.slice (some ⟨g9, 0, none⟩) (i + 1) c9) ((((L.take (q + 1) ++ (⟨d.p, s * d.gm, fun i => s * d.c i⟩ : Tot) :: L.drop (q + 1)).map Tot.cells).set (q + 1) x.cells).set q ((⟨d.p, s * d.gm, fun i => s * d.c i⟩ : Tot)).cells) := OwnRow.writes (vs := ((⟨d.p, s * d.gm, fun i => s * d.c i⟩ : Tot)).cells) (j := 0) hr1 hM0' (Nat.le_refl _)
                            have hfin : OwnTots (setN W9 g9 (q * 14) ((⟨d.p, s * d.gm, fun i => s * d.c i⟩ : Tot)).cells) base 56 (.slice (some ⟨g9, 0, none⟩) (i + 1) c9) (L.take q ++ (⟨d.p, s * d.gm, fun i => s * d.c i⟩ : Tot) :: L.drop q) := by
                              unfold OwnTots
                              rw [← swap_list hx, List.map_set, List.map_set]
                              exact hr2
                            have hk2 : Keeps base w (setN W9 g9 (q * 14) ((⟨d.p, s * d.gm, fun i => s * d.c i⟩ : Tot)).cells) := Keeps.trans hk1 (keeps_setN hbg9)
                            have hz2 : base ≤ (setN W9 g9 (q * 14) ((⟨d.p, s * d.gm, fun i => s * d.c i⟩ : Tot)).cells).heap.size := Nat.le_trans hz1 (Nat.le_of_eq (setN_size _ _ _ _).symm)
                            clear a0 f0 a1 f1 a2 f2 a3 f3 a4 f4 a5 f5 a6 f6 a7 f7 a8 f8 a9 f9 a10 f10 a11 f11 a12 f12 a13 f13 hr1 hr2
                            go_wp2_with fail
                            go_roundw
                            case rel => exact ⟨q, by omega, by go_num, hfin, hE2, hk2, hz2⟩
                            case measure => simp [numOf'] <;> omega
                          exact AllReadyH.nil
                        exact AllReadyH.nil
                      exact AllReadyH.nil
                    refine AllReadyH.cons (o := _) rfl (fun K hK => ?_) ?_
                    · -- load
                      go_simp
                      refine hK.out _ _ ?_ (fun hHeld => ?_)
                      · (try dsimp only)
                        try trivial
                      clear hK K
                      try simp only [Act.put, List.setIfInBounds_toArray, List.set_cons_zero, List.set_cons_succ]
                      refine wpAnyH_ready (rs := [9]) (by kernel_rfl) (by simp) ?_
                      refine AllReadyH.cons (o := _) rfl (fun K hK => ?_) ?_
                      · -- load
                        go_simp
                        refine hK.out _ _ ?_ (fun hHeld => ?_)
                        · (try dsimp only)
                          try trivial
                        clear hK K
                        try simp only [Act.put, List.setIfInBounds_toArray, List.set_cons_zero, List.set_cons_succ]
                        refine wpAnyH_take (i := 14) (oi := { dst := some 99, op := Op.indexAddr 38 (Operand.tmp 85) (Operand.tmp 86), type := 0, pos := "ref.go:263", after := #[{ on := 0, ground := Ground.data }, { on := 1, ground := Ground.data }, { on := 0, ground := Ground.phase }, { on := 1, ground := Ground.phase }, { on := 2, ground := Ground.textOnly Departure.lateStores }, { on := 3, ground := Ground.textOnly Departure.lateStores }, { on := 4, ground := Ground.textOnly Departure.lateStores }, { on := 5, ground := Ground.phase }, { on := 6, ground := Ground.phase }, { on := 7, ground := Ground.phase }, { on := 8, ground := Ground.phase }, { on := 9, ground := Ground.phase }, { on := 10, ground := Ground.textOnly Departure.lateStores }, { on := 11, ground := Ground.textOnly Departure.lateStores }, { on := 12, ground := Ground.textOnly Departure.lateStoresUnsure }, { on := 13, ground := Ground.phase }], guard := none }) (v := ?_) rfl (by kernel_rfl) (by kernel_rfl) (by kernel_rfl) (fun _ _ _ h => h) (Or.inl ⟨by rfl, ?_⟩) (by assumption) ?_
                        rotate_left
                        · (intro w hbk; (try dsimp only at hbk); go_simp); all_goals (with_reducible rfl)
                        try simp only [Act.put, List.setIfInBounds_toArray, List.set_cons_zero, List.set_cons_succ]
                        refine wpAnyH_ready (rs := [15]) (by kernel_rfl) (by simp) ?_
                        refine AllReadyH.cons (o := _) rfl (fun K hK => ?_) ?_
                        · -- store
                          go_simp
                          refine hK.out _ _ ?_ (fun hHeld => ?_)
                          · (try dsimp only)
                            try trivial
                          clear hK K
                          try simp only [Act.put, List.setIfInBounds_toArray, List.set_cons_zero, List.set_cons_succ]
                          have hr1 : OwnRow (setN W g9 ((q + 1) * 14) x.cells) base 56 14 (.slice (some ⟨g9, 0, none⟩) (i + 1) c9) (((L.take (q + 1) ++ (⟨d.p, s * d.gm, fun i => s * d.c i⟩ : Tot) :: L.drop (q + 1)).map Tot.cells).set (q + 1) x.cells) := OwnRow.writes (vs := x.cells) (j := 0) hMW hM1 (Nat.le_refl _)
                          have hM0' : (((L.take (q + 1) ++ (⟨d.p, s * d.gm, fun i => s * d.c i⟩ : Tot) :: L.drop (q + 1)).map Tot.cells).set (q + 1) x.cells)[q]? = some x.cells := by rw [List.getElem?_set_ne (by omega)]; exact hM0
                          have hk1 : Keeps base w (setN W g9 ((q + 1) * 14) x.cells) := Keeps.trans hkW (keeps_setN hbg9)
                          have hz1 : base ≤ (setN W g9 ((q + 1) * 14) x.cells).heap.size := Nat.le_trans hbW (Nat.le_of_eq (setN_size _ _ _ _).symm)
                          refine castW (P := fun w => wpAnyH _ _ _ _ _ _ _ _ w) (w' := setN W g9 ((q + 1) * 14) x.cells) rfl ?_
                          clear a0 e0 a1 e1 a2 e2 a3 e3 a4 e4 a5 e5 a6 e6 a7 e7 a8 e8 a9 e9 a10 e10 a11 e11 a12 e12 a13 e13 b0 f0 b1 f1 b2 f2 b3 f3 b4 f4 b5 f5 b6 f6 b7 f7 b8 f8 b9 f9 b10 f10 b11 f11 b12 f12 b13 f13
                          generalize setN W g9 ((q + 1) * 14) x.cells = W9 at hr1 hk1 hz1 ⊢
                          obtain ⟨a0, f0⟩ := OwnRow.cell hr1 hM0' (j := 0) (u := .string (bA x.p)) rfl
                          obtain ⟨a1, f1⟩ := OwnRow.cell hr1 hM0' (j := 1) (u := .int .i64 x.gm) rfl
                          obtain ⟨a2, f2⟩ := OwnRow.cell hr1 hM0' (j := 2) (u := .int .i64 (x.c 0)) rfl
                          obtain ⟨a3, f3⟩ := OwnRow.cell hr1 hM0' (j := 3) (u := .int .i64 (x.c 1)) rfl
                          obtain ⟨a4, f4⟩ := OwnRow.cell hr1 hM0' (j := 4) (u := .int .i64 (x.c 2)) rfl
                          obtain ⟨a5, f5⟩ := OwnRow.cell hr1 hM0' (j := 5) (u := .int .i64 (x.c 3)) rfl
                          obtain ⟨a6, f6⟩ := OwnRow.cell hr1 hM0' (j := 6) (u := .int .i64 (x.c 4)) rfl
                          obtain ⟨a7, f7⟩ := OwnRow.cell hr1 hM0' (j := 7) (u := .int .i64 (x.c 5)) rfl
                          obtain ⟨a8, f8⟩ := OwnRow.cell hr1 hM0' (j := 8) (u := .int .i64 (x.c 6)) rfl
                          obtain ⟨a9, f9⟩ := OwnRow.cell hr1 hM0' (j := 9) (u := .int .i64 (x.c 7)) rfl
                          obtain ⟨a10, f10⟩ := OwnRow.cell hr1 hM0' (j := 10) (u := .int .i64 (x.c 8)) rfl
                          obtain ⟨a11, f11⟩ := OwnRow.cell hr1 hM0' (j := 11) (u := .int .i64 (x.c 9)) rfl
                          obtain ⟨a12, f12⟩ := OwnRow.cell hr1 hM0' (j := 12) (u := .int .i64 (x.c 10)) rfl
                          obtain ⟨a13, f13⟩ := OwnRow.cell hr1 hM0' (j := 13) (u := .int .i64 (x.c 11)) rfl
                          rw [Nat.add_zero] at a0 f0
                          refine wpAnyH_take (i := 16) (oi := { dst := some 100, op := Op.indexAddr 38 (Operand.tmp 87) (Operand.tmp 89), type := 0, pos := "ref.go:263", after := #[{ on := 2, ground := Ground.data }, { on := 4, ground := Ground.data }, { on := 0, ground := Ground.phase }, { on := 1, ground := Ground.phase }, { on := 2, ground := Ground.phase }, { on := 3, ground := Ground.phase }, { on := 4, ground := Ground.phase }, { on := 5, ground := Ground.phase }, { on := 6, ground := Ground.phase }, { on := 7, ground := Ground.phase }, { on := 8, ground := Ground.phase }, { on := 9, ground := Ground.phase }, { on := 10, ground := Ground.phase }, { on := 11, ground := Ground.phase }, { on := 12, ground := Ground.phase }, { on := 13, ground := Ground.phase }, { on := 14, ground := Ground.phase }, { on := 15, ground := Ground.phase }], guard := none }) (v := ?_) rfl (by kernel_rfl) (by kernel_rfl) (by kernel_rfl) (fun _ _ _ h => h) (Or.inl ⟨by rfl, ?_⟩) (by assumption) ?_
                          rotate_left
                          · (intro w hbk; (try dsimp only at hbk); go_simp); all_goals (with_reducible rfl)
                          try simp only [Act.put, List.setIfInBounds_toArray, List.set_cons_zero, List.set_cons_succ]
                          refine wpAnyH_ready (rs := [17]) (by kernel_rfl) (by simp) ?_
                          refine AllReadyH.cons (o := _) rfl (fun K hK => ?_) ?_
                          · -- store
                            go_simp
                            refine hK.out _ _ ?_ (fun hHeld => ?_)
                            · (try dsimp only)
                              try trivial
                            clear hK K
                            try simp only [Act.put, List.setIfInBounds_toArray, List.set_cons_zero, List.set_cons_succ]
                            refine wpAnyH_done (by kernel_rfl) ?_ _
                            have hr2 : OwnRow (setN W9 g9 (q * 14) ((⟨d.p, s * d.gm, fun i => s * d.c i⟩ : Tot)).cells) base 56 14 (.slice (some ⟨g9, 0, none⟩) (i + 1) c9) ((((L.take (q + 1) ++ (⟨d.p, s * d.gm, fun i => s * d.c i⟩ : Tot) :: L.drop (q + 1)).map Tot.cells).set (q + 1) x.cells).set q ((⟨d.p, s * d.gm, fun i => s * d.c i⟩ : Tot)).cells) := OwnRow.writes (vs := ((⟨d.p, s * d.gm, fun i => s * d.c i⟩ : Tot)).cells) (j := 0) hr1 hM0' (Nat.le_refl _)
                            have hfin : OwnTots (setN W9 g9 (q * 14) ((⟨d.p, s * d.gm, fun i => s * d.c i⟩ : Tot)).cells) base 56 (.slice (some ⟨g9, 0, none⟩) (i + 1) c9) (L.take q ++ (⟨d.p, s * d.gm, fun i => s * d.c i⟩ : Tot) :: L.drop q) := by
                              unfold OwnTots
                              rw [← swap_list hx, List.map_set, List.map_set]
                              exact hr2
                            have hk2 : Keeps base w (setN W9 g9 (q * 14) ((⟨d.p, s * d.gm, fun i => s * d.c i⟩ : Tot)).cells) := Keeps.trans hk1 (keeps_setN hbg9)
                            have hz2 : base ≤ (setN W9 g9 (q * 14) ((⟨d.p, s * d.gm, fun i => s * d.c i⟩ : Tot)).cells).heap.size := Nat.le_trans hz1 (Nat.le_of_eq (setN_size _ _ _ _).symm)
                            clear a0 f0 a1 f1 a2 f2 a3 f3 a4 f4 a5 f5 a6 f6 a7 f7 a8 f8 a9 f9 a10 f10 a11 f11 a12 f12 a13 f13 hr1 hr2
                            go_wp2_with fail
                            go_roundw
                            case rel => exact ⟨q, by omega, by go_num, hfin, hE2, hk2, hz2⟩
                            case measure => simp [numOf'] <;> omega
                          exact AllReadyH.nil
                        exact AllReadyH.nil
                      exact AllReadyH.nil
                    exact AllReadyH.nil
                  exact AllReadyH.nil
          exact AllReadyH.nil
        exact AllReadyH.nil
      exact AllReadyH.nil
end Go.Proofs.Tryz
