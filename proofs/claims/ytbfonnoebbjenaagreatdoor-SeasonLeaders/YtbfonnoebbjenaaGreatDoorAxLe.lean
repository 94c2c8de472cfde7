/- The closures of the season's leaders: by the kit's walk. -/
import Derived.Test.YtbfonnoebbjenaaGreatDoorAxLd
import Derived.Test.YtbfonnoebbjenaaGreatDoorAxD
import Derived.Sort.Grow
namespace Go.Proofs.Tryz
open Go Go.Am Go.RowKit Go.Op
set_option maxRecDepth 100000

/-- So many draws on, these blocks behind. -/
def Grn (w W : World) : Prop := ∃ q os, W = Go.Sort.grow (w.drewN q) os
theorem Grn.refl (w : World) : Grn w w := ⟨0, #[], by rw [Go.Sort.grow_empty]; rfl⟩
theorem Grn.drew {w W : World} (h : Grn w W) : Grn w W.drew := by
  obtain ⟨q, os, rfl⟩ := h
  exact ⟨q + 1, os, by rw [Go.Sort.drew_grow]; show Go.Sort.grow ((w.drewN q).drewN 1) os = _; rw [World.drewN_drewN]⟩
theorem Grn.alloc {w W : World} (h : Grn w W) (o : Obj) : Grn w (W.alloc o) := by
  obtain ⟨q, os, rfl⟩ := h
  exact ⟨q, os ++ #[o], by rw [Go.Sort.alloc_eq_grow, Go.Sort.grow_grow]⟩
theorem Grn.trans {w W U : World} (h : Grn w W) (k : Grn W U) : Grn w U := by
  obtain ⟨q, os, rfl⟩ := h
  obtain ⟨r, os', rfl⟩ := k
  exact ⟨q + r, os ++ os', by show Go.Sort.grow (Go.Sort.grow ((w.drewN q).drewN r) os) os' = _; rw [Go.Sort.grow_grow, World.drewN_drewN]⟩
theorem Grn.heap {w W : World} (h : Grn w W) {b : Nat} (hb : b < w.heap.size) : W.heap[b]? = w.heap[b]? := by
  obtain ⟨q, os, rfl⟩ := h
  exact Go.Sort.heap_grow_old _ _ hb
theorem Grn.cell {w W : World} (h : Grn w W) {b o : Nat} {v : Value} (hv : w.cell? ⟨b, o, none⟩ = some v) : W.cell? ⟨b, o, none⟩ = some v := by
  have := h.heap (cell_under hv)
  simp only [World.cell?] at hv ⊢
  rw [this]
  exact hv
theorem Grn.at {w W : World} (h : Grn w W) {b : Nat} {cs : Array Value} {e : TypeId} (hv : At w b cs e) : At W b cs e := (h.heap hv.lt).trans hv
theorem Grn.below {w W : World} (h : Grn w W) : Below w.heap.size w W := by
  obtain ⟨q, os, rfl⟩ := h
  exact ⟨rfl, rfl, rfl, by simp, fun i hi => Go.Sort.heap_grow_old _ _ hi⟩

/-- A number of a total in its box. -/
theorem cell14v {w : World} {b : Nat} {x : Tot} {e : TypeId} (h : At w b x.arr e) {i : Nat} (hi : i < 12) : w.cell? ⟨b, 2 + i, none⟩ = some (.int .i64 (x.c i)) := cell14t h hi

set_option maxHeartbeats 1600000 in
theorem clo96 (x : Tot) (i k : Nat) (hi : i < 12) (hk : k < 12) {a b : Nat} (W : World) (ha : W.cell? ⟨a, 0, none⟩ = some (.int .i64 i)) (hb : W.cell? ⟨b, 0, none⟩ = some (.int .i64 k)) :
    Calls prog 96 #[.agg #[.string (bA x.p), .int .i64 x.gm, .int .i64 (x.c 0), .int .i64 (x.c 1), .int .i64 (x.c 2), .int .i64 (x.c 3), .int .i64 (x.c 4), .int .i64 (x.c 5), .int .i64 (x.c 6), .int .i64 (x.c 7), .int .i64 (x.c 8), .int .i64 (x.c 9), .int .i64 (x.c 10), .int .i64 (x.c 11)], .pointer (some ⟨a, 0, none⟩), .pointer (some ⟨b, 0, none⟩)] W fun e w' => e = .returned (.bool (decide (x.c i < 0) || decide (x.c k < 0))) ∧ Below W.heap.size W w' := by
  have hx := at_new W x.arr 66
  have hal : Below W.heap.size W (W.alloc (.cells x.arr 66)) := (Below.refl _ _).alloc (Nat.le_refl _) _
  have ha := (hal.cell (cell_under ha)).trans ha
  have hb := (hal.cell (cell_under hb)).trans hb
  obtain ⟨W1, hW1⟩ : ∃ W1, W.alloc (.cells x.arr 66) = W1 := ⟨_, rfl⟩
  rw [hW1] at hx hal ha hb
  unfold Tot.arr at hW1
  have xi := cell14v hx hi
  have xk := cell14v hx hk
  have i1 : (i : Int) < 12 := by omega
  have k1 : (k : Int) < 12 := by omega
  obtain ⟨m, hm⟩ : ∃ m, x.c i = m := ⟨_, rfl⟩
  obtain ⟨n, hn⟩ : ∃ m, x.c k = m := ⟨_, rfl⟩
  rw [hm] at xi ⊢
  rw [hn] at xk ⊢
  clear hm hn hi hk hx
  by_cases h0 : m < 0
  · go_enter func96, ntmps96
    go_wp2_with fail
    try rw [hW1]
    go_wp2_with fail
    go_ret
    exact ⟨by simp [h0], hal⟩
  · by_cases h2 : n < 0
    · go_enter func96, ntmps96
      go_wp2_with fail
      try rw [hW1]
      go_wp2_with fail
      go_ret
      exact ⟨by simp, hal⟩
    · go_enter func96, ntmps96
      go_wp2_with fail
      try rw [hW1]
      go_wp2_with fail
      go_ret
      exact ⟨by simp [h0, h2], hal⟩
set_option maxHeartbeats 1600000 in
theorem clo99 (x : Tot) (k : Nat) (least : Int) (hk : k < 12) {a b : Nat} (W : World) (ha : W.cell? ⟨a, 0, none⟩ = some (.int .i64 k)) (hb : W.cell? ⟨b, 0, none⟩ = some (.int .i64 least)) :
    Calls prog 99 #[.agg #[.string (bA x.p), .int .i64 x.gm, .int .i64 (x.c 0), .int .i64 (x.c 1), .int .i64 (x.c 2), .int .i64 (x.c 3), .int .i64 (x.c 4), .int .i64 (x.c 5), .int .i64 (x.c 6), .int .i64 (x.c 7), .int .i64 (x.c 8), .int .i64 (x.c 9), .int .i64 (x.c 10), .int .i64 (x.c 11)], .pointer (some ⟨a, 0, none⟩), .pointer (some ⟨b, 0, none⟩)] W fun e w' => e = .returned (.bool (decide (x.c k < max least 1))) ∧ Below W.heap.size W w' := by
  have hx := at_new W x.arr 66
  have hal : Below W.heap.size W (W.alloc (.cells x.arr 66)) := (Below.refl _ _).alloc (Nat.le_refl _) _
  have ha := (hal.cell (cell_under ha)).trans ha
  have hb := (hal.cell (cell_under hb)).trans hb
  obtain ⟨W1, hW1⟩ : ∃ W1, W.alloc (.cells x.arr 66) = W1 := ⟨_, rfl⟩
  rw [hW1] at hx hal ha hb
  unfold Tot.arr at hW1
  have xk := cell14v hx hk
  have k1 : (k : Int) < 12 := by omega
  obtain ⟨n, hn⟩ : ∃ m, x.c k = m := ⟨_, rfl⟩
  rw [hn] at xk ⊢
  clear hn hk hx
  go_enter func99, ntmps99
  go_wp2_with fail
  try rw [hW1]
  go_quiet (fail)
  have hbn := belowN hal nq
  go_wp2_with fail
  go_ret
  exact ⟨rfl, hbn⟩
set_option maxHeartbeats 3200000 in
theorem clo100 (x y : Tot) (i k : Nat) (hi : i < 12) (hk : k < 12) {a b : Nat} (W : World) (ha : W.cell? ⟨a, 0, none⟩ = some (.int .i64 i)) (hb : W.cell? ⟨b, 0, none⟩ = some (.int .i64 k))
    (h1 : inI (y.c i * x.c k)) (h2 : inI (x.c i * y.c k)) :
    Calls prog 100 #[.agg #[.string (bA x.p), .int .i64 x.gm, .int .i64 (x.c 0), .int .i64 (x.c 1), .int .i64 (x.c 2), .int .i64 (x.c 3), .int .i64 (x.c 4), .int .i64 (x.c 5), .int .i64 (x.c 6), .int .i64 (x.c 7), .int .i64 (x.c 8), .int .i64 (x.c 9), .int .i64 (x.c 10), .int .i64 (x.c 11)], .agg #[.string (bA y.p), .int .i64 y.gm, .int .i64 (y.c 0), .int .i64 (y.c 1), .int .i64 (y.c 2), .int .i64 (y.c 3), .int .i64 (y.c 4), .int .i64 (y.c 5), .int .i64 (y.c 6), .int .i64 (y.c 7), .int .i64 (y.c 8), .int .i64 (y.c 9), .int .i64 (y.c 10), .int .i64 (y.c 11)], .pointer (some ⟨a, 0, none⟩), .pointer (some ⟨b, 0, none⟩)] W fun e w' => e = .returned (.int .i64 (cmpI (y.c i * x.c k) (x.c i * y.c k))) ∧ Grn W w' := by
  have cC := cmpI_w (y.c i * x.c k) (x.c i * y.c k)
  obtain ⟨r1, r2⟩ := inI_wrap h1
  obtain ⟨r3, r4⟩ := inI_wrap h2
  obtain ⟨K, hK⟩ : ∃ K, cmpI (y.c i * x.c k) (x.c i * y.c k) = K := ⟨_, rfl⟩
  rw [hK] at cC ⊢
  have hx := (at_new W x.arr 66).alloc (.cells y.arr 66)
  have hy : At ((W.alloc (.cells x.arr 66)).alloc (.cells y.arr 66)) (W.heap.size + 1) y.arr 66 := by
    have := at_new (W.alloc (.cells x.arr 66)) y.arr 66
    simpa using this
  have hgr : Grn W ((W.alloc (.cells x.arr 66)).alloc (.cells y.arr 66)) := ((Grn.refl W).alloc _).alloc _
  have ha := hgr.cell ha
  have hb := hgr.cell hb
  obtain ⟨W1, hW1⟩ : ∃ W1, (W.alloc (.cells x.arr 66)).alloc (.cells y.arr 66) = W1 := ⟨_, rfl⟩
  rw [hW1] at hx hy hgr ha hb
  unfold Tot.arr at hW1
  have xi := cell14v hx hi
  have xk := cell14v hx hk
  have yi := cell14v hy hi
  have yk := cell14v hy hk
  have i1 : (i : Int) < 12 := by omega
  have k1 : (k : Int) < 12 := by omega
  obtain ⟨xn, h1⟩ : ∃ m, x.c i = m := ⟨_, rfl⟩
  obtain ⟨xd, h2⟩ : ∃ m, x.c k = m := ⟨_, rfl⟩
  obtain ⟨yn, h3⟩ : ∃ m, y.c i = m := ⟨_, rfl⟩
  obtain ⟨yd, h4⟩ : ∃ m, y.c k = m := ⟨_, rfl⟩
  rw [h1] at xi cC r3 r4
  rw [h2] at xk cC r1 r2
  rw [h3] at yi cC r1 r2
  rw [h4] at yk cC r3 r4
  have hg1 : Grn W1 W1.drew := (Grn.refl W1).drew
  clear hx hy h1 h2 h3 h4 hK hi hk
  go_enter func100, ntmps100
  go_wp2_with fail
  try rw [hW1]
  clear hW1
  refine wp_region_quiet_to (C := (fun W => Grn W1 W)) 18 2 #[true, true, true, true, true, true, true, true, true, true, true, true, true, true, true, true, true, true, false, false] (by kernel_rfl) (by kernel_rfl) ?_ ?_
  · (try dsimp only)
    exact hg1
  simp only [List.take_succ_cons, List.take_zero]
  with_reducible refine quiet_take (v := ?_) ?_ ?_ ?_
  rotate_left
  · rfl
  · (intro w hSw; have ha2 := Grn.cell hSw ha; have hb2 := Grn.cell hSw hb; have y1 := Grn.cell hSw yi; have y2 := Grn.cell hSw yk; have x1 := Grn.cell hSw xi; have x2 := Grn.cell hSw xk; (try dsimp only at hSw); go_simp); all_goals (with_reducible rfl)
  try simp only [Act.put, List.setIfInBounds_toArray, List.set_cons_zero, List.set_cons_succ]
  with_reducible refine quiet_take (v := ?_) ?_ ?_ ?_
  rotate_left
  · rfl
  · (intro w hSw; (try dsimp only at hSw); go_simp); all_goals (with_reducible rfl)
  try simp only [Act.put, List.setIfInBounds_toArray, List.set_cons_zero, List.set_cons_succ]
  with_reducible refine quiet_take (v := ?_) ?_ ?_ ?_
  rotate_left
  · rfl
  · (intro w hSw; (try dsimp only at hSw); go_simp); all_goals (with_reducible rfl)
  try simp only [Act.put, List.setIfInBounds_toArray, List.set_cons_zero, List.set_cons_succ]
  with_reducible refine quiet_take (v := ?_) ?_ ?_ ?_
  rotate_left
  · rfl
  · (intro w hSw; have ha2 := Grn.cell hSw ha; have hb2 := Grn.cell hSw hb; have y1 := Grn.cell hSw yi; have y2 := Grn.cell hSw yk; have x1 := Grn.cell hSw xi; have x2 := Grn.cell hSw xk; (try dsimp only at hSw); go_simp); all_goals (with_reducible rfl)
  try simp only [Act.put, List.setIfInBounds_toArray, List.set_cons_zero, List.set_cons_succ]
  with_reducible refine quiet_take (v := ?_) ?_ ?_ ?_
  rotate_left
  · rfl
  · (intro w hSw; have ha2 := Grn.cell hSw ha; have hb2 := Grn.cell hSw hb; have y1 := Grn.cell hSw yi; have y2 := Grn.cell hSw yk; have x1 := Grn.cell hSw xi; have x2 := Grn.cell hSw xk; (try dsimp only at hSw); go_simp); all_goals (with_reducible rfl)
  try simp only [Act.put, List.setIfInBounds_toArray, List.set_cons_zero, List.set_cons_succ]
  with_reducible refine quiet_take (v := ?_) ?_ ?_ ?_
  rotate_left
  · rfl
  · (intro w hSw; (try dsimp only at hSw); go_simp); all_goals (with_reducible rfl)
  try simp only [Act.put, List.setIfInBounds_toArray, List.set_cons_zero, List.set_cons_succ]
  with_reducible refine quiet_take (v := ?_) ?_ ?_ ?_
  rotate_left
  · rfl
  · (intro w hSw; (try dsimp only at hSw); go_simp); all_goals (with_reducible rfl)
  try simp only [Act.put, List.setIfInBounds_toArray, List.set_cons_zero, List.set_cons_succ]
  with_reducible refine quiet_take (v := ?_) ?_ ?_ ?_
  rotate_left
  · rfl
  · (intro w hSw; have ha2 := Grn.cell hSw ha; have hb2 := Grn.cell hSw hb; have y1 := Grn.cell hSw yi; have y2 := Grn.cell hSw yk; have x1 := Grn.cell hSw xi; have x2 := Grn.cell hSw xk; (try dsimp only at hSw); go_simp); all_goals (with_reducible rfl)
  try simp only [Act.put, List.setIfInBounds_toArray, List.set_cons_zero, List.set_cons_succ]
  with_reducible refine quiet_take (v := ?_) ?_ ?_ ?_
  rotate_left
  · rfl
  · (intro w hSw; (try dsimp only at hSw); go_simp); all_goals (with_reducible rfl)
  try simp only [Act.put, List.setIfInBounds_toArray, List.set_cons_zero, List.set_cons_succ]
  with_reducible refine quiet_take (v := ?_) ?_ ?_ ?_
  rotate_left
  · rfl
  · (intro w hSw; have ha2 := Grn.cell hSw ha; have hb2 := Grn.cell hSw hb; have y1 := Grn.cell hSw yi; have y2 := Grn.cell hSw yk; have x1 := Grn.cell hSw xi; have x2 := Grn.cell hSw xk; (try dsimp only at hSw); go_simp); all_goals (with_reducible rfl)
  try simp only [Act.put, List.setIfInBounds_toArray, List.set_cons_zero, List.set_cons_succ]
  with_reducible refine quiet_take (v := ?_) ?_ ?_ ?_
  rotate_left
  · rfl
  · (intro w hSw; (try dsimp only at hSw); go_simp); all_goals (with_reducible rfl)
  try simp only [Act.put, List.setIfInBounds_toArray, List.set_cons_zero, List.set_cons_succ]
  with_reducible refine quiet_take (v := ?_) ?_ ?_ ?_
  rotate_left
  · rfl
  · (intro w hSw; (try dsimp only at hSw); go_simp); all_goals (with_reducible rfl)
  try simp only [Act.put, List.setIfInBounds_toArray, List.set_cons_zero, List.set_cons_succ]
  with_reducible refine quiet_take (v := ?_) ?_ ?_ ?_
  rotate_left
  · rfl
  · (intro w hSw; have ha2 := Grn.cell hSw ha; have hb2 := Grn.cell hSw hb; have y1 := Grn.cell hSw yi; have y2 := Grn.cell hSw yk; have x1 := Grn.cell hSw xi; have x2 := Grn.cell hSw xk; (try dsimp only at hSw); go_simp); all_goals (with_reducible rfl)
  try simp only [Act.put, List.setIfInBounds_toArray, List.set_cons_zero, List.set_cons_succ]
  with_reducible refine quiet_take (v := ?_) ?_ ?_ ?_
  rotate_left
  · rfl
  · (intro w hSw; have ha2 := Grn.cell hSw ha; have hb2 := Grn.cell hSw hb; have y1 := Grn.cell hSw yi; have y2 := Grn.cell hSw yk; have x1 := Grn.cell hSw xi; have x2 := Grn.cell hSw xk; (try dsimp only at hSw); go_simp); all_goals (with_reducible rfl)
  try simp only [Act.put, List.setIfInBounds_toArray, List.set_cons_zero, List.set_cons_succ]
  with_reducible refine quiet_take (v := ?_) ?_ ?_ ?_
  rotate_left
  · rfl
  · (intro w hSw; (try dsimp only at hSw); go_simp); all_goals (with_reducible rfl)
  try simp only [Act.put, List.setIfInBounds_toArray, List.set_cons_zero, List.set_cons_succ]
  with_reducible refine quiet_take (v := ?_) ?_ ?_ ?_
  rotate_left
  · rfl
  · (intro w hSw; (try dsimp only at hSw); go_simp); all_goals (with_reducible rfl)
  try simp only [Act.put, List.setIfInBounds_toArray, List.set_cons_zero, List.set_cons_succ]
  with_reducible refine quiet_take (v := ?_) ?_ ?_ ?_
  rotate_left
  · rfl
  · (intro w hSw; have ha2 := Grn.cell hSw ha; have hb2 := Grn.cell hSw hb; have y1 := Grn.cell hSw yi; have y2 := Grn.cell hSw yk; have x1 := Grn.cell hSw xi; have x2 := Grn.cell hSw xk; (try dsimp only at hSw); go_simp); all_goals (with_reducible rfl)
  try simp only [Act.put, List.setIfInBounds_toArray, List.set_cons_zero, List.set_cons_succ]
  with_reducible refine quiet_take (v := ?_) ?_ ?_ ?_
  rotate_left
  · rfl
  · (intro w hSw; (try dsimp only at hSw); go_simp); all_goals (with_reducible rfl)
  try simp only [Act.put, List.setIfInBounds_toArray, List.set_cons_zero, List.set_cons_succ]
  refine wpQuiet_nil ?_
  intro W hSw
  refine wpAny_of_held (S := fun _ => True) _ _ _ _ ?_
  refine wpAnyH_ready (rs := [18]) (by kernel_rfl) (by simp) ?_
  refine AllReadyH.cons (o := _) rfl (fun K hK => ?_) ?_
  · -- 101
    go_simp
    refine (cC _).mono ?_; rintro e w' ⟨rfl, rfl⟩
    refine hK.out _ _ trivial (fun _ => ?_)
    clear hK K
    try simp only [List.setIfInBounds_toArray, List.set_cons_zero, List.set_cons_succ]
    refine wpAnyH_ready (rs := [19]) (by kernel_rfl) (by simp) ?_
    refine AllReadyH.cons (o := _) rfl (fun K hK => ?_) ?_
    · -- assign
      go_simp
      refine hK.out _ _ trivial (fun _ => ?_)
      clear hK K
      try simp only [List.setIfInBounds_toArray, List.set_cons_zero, List.set_cons_succ]
      refine wpAnyH_done (by kernel_rfl) ?_ _
      go_wp2_with fail
      go_ret
      exact ⟨rfl, hgr.trans hSw⟩
    exact AllReadyH.nil
  exact AllReadyH.nil
set_option maxHeartbeats 3200000 in
theorem clo103 (x y : Tot) (i k : Nat) (hi : i < 12) (hk : k < 12) {a b c : Nat} (W : World) (ha : W.cell? ⟨a, 0, none⟩ = some (.int .i64 i)) (hb : W.cell? ⟨b, 0, none⟩ = some (.int .i64 k))
    (hc : W.cell? ⟨c, 0, none⟩ = some (.func (.func 100) #[] #[.pointer (some ⟨a, 0, none⟩), .pointer (some ⟨b, 0, none⟩)])) (h1 : inI (y.c i * x.c k)) (h2 : inI (x.c i * y.c k)) :
    Calls prog 103 #[.agg #[.string (bA x.p), .int .i64 x.gm, .int .i64 (x.c 0), .int .i64 (x.c 1), .int .i64 (x.c 2), .int .i64 (x.c 3), .int .i64 (x.c 4), .int .i64 (x.c 5), .int .i64 (x.c 6), .int .i64 (x.c 7), .int .i64 (x.c 8), .int .i64 (x.c 9), .int .i64 (x.c 10), .int .i64 (x.c 11)], .agg #[.string (bA y.p), .int .i64 y.gm, .int .i64 (y.c 0), .int .i64 (y.c 1), .int .i64 (y.c 2), .int .i64 (y.c 3), .int .i64 (y.c 4), .int .i64 (y.c 5), .int .i64 (y.c 6), .int .i64 (y.c 7), .int .i64 (y.c 8), .int .i64 (y.c 9), .int .i64 (y.c 10), .int .i64 (y.c 11)], .pointer (some ⟨c, 0, none⟩)] W fun e w' => e = .returned (.int .i64 (fstE [cmpI (y.c i * x.c k) (x.c i * y.c k), cmpS x.p y.p])) ∧ Grn W w' := by
  have cR0 := fun W (ha : W.cell? ⟨a, 0, none⟩ = some (.int .i64 i)) (hb : W.cell? ⟨b, 0, none⟩ = some (.int .i64 k)) => clo100 x y i k hi hk W ha hb h1 h2
  have cS := cmpS_w x.p y.p
  generalize cmpI (y.c i * x.c k) (x.c i * y.c k) = R at cR0 ⊢
  generalize cmpS x.p y.p = S at cS ⊢
  have cO := or2_w R S
  generalize fstE [R, S] = K at cO ⊢
  have hx := (at_new W x.arr 66).alloc (.cells y.arr 66)
  have hy : At ((W.alloc (.cells x.arr 66)).alloc (.cells y.arr 66)) (W.heap.size + 1) y.arr 66 := by
    have := at_new (W.alloc (.cells x.arr 66)) y.arr 66
    simpa using this
  have hgr : Grn W ((W.alloc (.cells x.arr 66)).alloc (.cells y.arr 66)) := ((Grn.refl W).alloc _).alloc _
  have ha := hgr.cell ha
  have hb := hgr.cell hb
  have hc := hgr.cell hc
  obtain ⟨W1, hW1⟩ : ∃ W1, (W.alloc (.cells x.arr 66)).alloc (.cells y.arr 66) = W1 := ⟨_, rfl⟩
  rw [hW1] at hx hy hgr ha hb hc
  unfold Tot.arr at hW1
  have hg1 : Grn W1 W1.drew := (Grn.refl W1).drew
  have cR : ∀ W, Grn W1 W → Calls prog 100 _ W _ := fun W h => cR0 W (h.cell ha) (h.cell hb)
  clear cR0 hi hk h1 h2 ha hb
  go_enter func103, ntmps103
  go_wp2_with fail
  try rw [hW1]
  clear hW1
  refine wp_region_quiet_to (C := (fun W => Grn W1 W)) 9 3 #[true, true, true, true, true, true, true, true, true, false, false, false] (by kernel_rfl) (by kernel_rfl) ?_ ?_
  · (try dsimp only)
    exact hg1
  simp only [List.take_succ_cons, List.take_zero]
  with_reducible refine quiet_take (v := ?_) ?_ ?_ ?_
  rotate_left
  · rfl
  · (intro w hSw; have hx2 := Grn.at hSw hx; have hy2 := Grn.at hSw hy; have hc2 := Grn.cell hSw hc; obtain ⟨x0, x1, x2, x3, x4, x5, x6, x7, x8, x9, x10, x11, x12, x13⟩ := box14t hx2; obtain ⟨y0, y1, y2, y3, y4, y5, y6, y7, y8, y9, y10, y11, y12, y13⟩ := box14t hy2; (try dsimp only at hSw); go_simp); all_goals (with_reducible rfl)
  try simp only [Act.put, List.setIfInBounds_toArray, List.set_cons_zero, List.set_cons_succ]
  with_reducible refine quiet_take (v := ?_) ?_ ?_ ?_
  rotate_left
  · rfl
  · (intro w hSw; have hx2 := Grn.at hSw hx; have hy2 := Grn.at hSw hy; have hc2 := Grn.cell hSw hc; obtain ⟨x0, x1, x2, x3, x4, x5, x6, x7, x8, x9, x10, x11, x12, x13⟩ := box14t hx2; obtain ⟨y0, y1, y2, y3, y4, y5, y6, y7, y8, y9, y10, y11, y12, y13⟩ := box14t hy2; (try dsimp only at hSw); go_simp); all_goals (with_reducible rfl)
  try simp only [Act.put, List.setIfInBounds_toArray, List.set_cons_zero, List.set_cons_succ]
  with_reducible refine quiet_take (v := ?_) ?_ ?_ ?_
  rotate_left
  · rfl
  · (intro w hSw; have hx2 := Grn.at hSw hx; have hy2 := Grn.at hSw hy; have hc2 := Grn.cell hSw hc; obtain ⟨x0, x1, x2, x3, x4, x5, x6, x7, x8, x9, x10, x11, x12, x13⟩ := box14t hx2; obtain ⟨y0, y1, y2, y3, y4, y5, y6, y7, y8, y9, y10, y11, y12, y13⟩ := box14t hy2; (try dsimp only at hSw); go_simp); all_goals (with_reducible rfl)
  try simp only [Act.put, List.setIfInBounds_toArray, List.set_cons_zero, List.set_cons_succ]
  with_reducible refine quiet_call (f := 100) (args := ?_) (v := .int .i64 R) ?_ ?_ ?_ ?_
  rotate_left
  · rfl
  · (intro w hSw; (try dsimp only at hSw); go_simp); all_goals (with_reducible rfl)
  · (intro W hSw); exact (cR W hSw).mono fun e w' ⟨h1, h2⟩ => ⟨h1, hSw.trans h2⟩
  try simp only [Act.put, List.setIfInBounds_toArray, List.set_cons_zero, List.set_cons_succ]
  with_reducible refine quiet_take (v := ?_) ?_ ?_ ?_
  rotate_left
  · rfl
  · (intro w hSw; (try dsimp only at hSw); go_simp); all_goals (with_reducible rfl)
  try simp only [Act.put, List.setIfInBounds_toArray, List.set_cons_zero, List.set_cons_succ]
  with_reducible refine quiet_take (v := ?_) ?_ ?_ ?_
  rotate_left
  · rfl
  · (intro w hSw; have hx2 := Grn.at hSw hx; have hy2 := Grn.at hSw hy; have hc2 := Grn.cell hSw hc; obtain ⟨x0, x1, x2, x3, x4, x5, x6, x7, x8, x9, x10, x11, x12, x13⟩ := box14t hx2; obtain ⟨y0, y1, y2, y3, y4, y5, y6, y7, y8, y9, y10, y11, y12, y13⟩ := box14t hy2; (try dsimp only at hSw); go_simp); all_goals (with_reducible rfl)
  try simp only [Act.put, List.setIfInBounds_toArray, List.set_cons_zero, List.set_cons_succ]
  with_reducible refine quiet_take (v := ?_) ?_ ?_ ?_
  rotate_left
  · rfl
  · (intro w hSw; (try dsimp only at hSw); go_simp); all_goals (with_reducible rfl)
  try simp only [Act.put, List.setIfInBounds_toArray, List.set_cons_zero, List.set_cons_succ]
  with_reducible refine quiet_take (v := ?_) ?_ ?_ ?_
  rotate_left
  · rfl
  · (intro w hSw; have hx2 := Grn.at hSw hx; have hy2 := Grn.at hSw hy; have hc2 := Grn.cell hSw hc; obtain ⟨x0, x1, x2, x3, x4, x5, x6, x7, x8, x9, x10, x11, x12, x13⟩ := box14t hx2; obtain ⟨y0, y1, y2, y3, y4, y5, y6, y7, y8, y9, y10, y11, y12, y13⟩ := box14t hy2; (try dsimp only at hSw); go_simp); all_goals (with_reducible rfl)
  try simp only [Act.put, List.setIfInBounds_toArray, List.set_cons_zero, List.set_cons_succ]
  with_reducible refine quiet_call (f := 105) (args := ?_) (v := .int .i64 S) ?_ ?_ ?_ ?_
  rotate_left
  · rfl
  · (intro w hSw; (try dsimp only at hSw); go_simp); all_goals (with_reducible rfl)
  · (intro W hSw); exact (cS W).mono fun e w' ⟨h1, h2⟩ => ⟨h1, by rw [h2]; exact hSw⟩
  try simp only [Act.put, List.setIfInBounds_toArray, List.set_cons_zero, List.set_cons_succ]
  refine wpQuiet_nil ?_
  intro W hSw
  refine wpAny_of_held (S := fun _ => True) _ _ _ _ ?_
  refine wpAnyH_ready (rs := [9]) (by kernel_rfl) (by simp) ?_
  refine AllReadyH.cons (o := _) rfl (fun K hK => ?_) ?_
  · -- buildSlice
    go_simp
    refine hK.out _ _ trivial (fun _ => ?_)
    clear hK K
    try simp only [List.setIfInBounds_toArray, List.set_cons_zero, List.set_cons_succ]
    refine wpAnyH_ready (rs := [10]) (by kernel_rfl) (by simp) ?_
    refine AllReadyH.cons (o := _) rfl (fun K hK => ?_) ?_
    · -- 104
      go_simp
      refine (cO _ _ _ (by simp) (by simp)).mono ?_; rintro e w' ⟨rfl, rfl⟩
      refine hK.out _ _ trivial (fun _ => ?_)
      clear hK K
      try simp only [List.setIfInBounds_toArray, List.set_cons_zero, List.set_cons_succ]
      refine wpAnyH_ready (rs := [11]) (by kernel_rfl) (by simp) ?_
      refine AllReadyH.cons (o := _) rfl (fun K hK => ?_) ?_
      · -- assign
        go_simp
        refine hK.out _ _ trivial (fun _ => ?_)
        clear hK K
        try simp only [List.setIfInBounds_toArray, List.set_cons_zero, List.set_cons_succ]
        refine wpAnyH_done (by kernel_rfl) ?_ _
        go_wp2_with fail
        go_ret
        exact ⟨rfl, hgr.trans (hSw.alloc _)⟩
      exact AllReadyH.nil
    exact AllReadyH.nil
  exact AllReadyH.nil
end Go.Proofs.Tryz
