/- Counts added, by the reference: by the kit's walk. A row of the call's own written in place. -/
import Derived.Test.YtbfonnoebbjenaaGreatDoorAxUc
import Derived.Test.YtbfonnoebbjenaaGreatDoorAxTb
namespace Go.Proofs.Tryz
open Go Go.Am Go.RowKit Go.Op
set_option maxRecDepth 100000

/-- A number of int's. -/
def inI (x : Int) : Prop := -9223372036854775808 ≤ x ∧ x ≤ 9223372036854775807
theorem inI_wrap {x : Int} (h : inI x) : IntKind.i64.wrap x = x ∧ wrap64 x = x := by
  obtain ⟨h1, h2⟩ := h
  have e : IntKind.i64.wrap x = x := IntWalk.i64_in _ (by omega)
  exact ⟨e, by simp only [wrap64] at *; omega⟩
theorem ints_set (f : Nat → Int) {j : Nat} (hj : j < 12) (x : Int) : (ints 12 f).toArray.setIfInBounds j (.int .i64 x) = (ints 12 fun i => if i = j then x else f i).toArray := by
  apply Array.ext'
  simp only [List.setIfInBounds_toArray, List.toList_toArray]
  apply List.ext_getElem?
  intro i
  by_cases hi : i < 12
  · rw [ints_get hi]
    by_cases h : i = j
    · subst h; rw [List.getElem?_set_self (by rw [ints_len]; exact hi)]; simp
    · rw [List.getElem?_set_ne (fun e => h e.symm), ints_get hi]; simp [h]
  · rw [List.getElem?_eq_none (by rw [List.length_set, ints_len]; omega), List.getElem?_eq_none (by rw [ints_len]; omega)]
theorem ints_congr {f g : Nat → Int} (h : ∀ i, i < 12 → f i = g i) : ints 12 f = ints 12 g := by
  unfold ints
  exact List.map_congr_left fun i hi => by rw [h i (List.mem_range.1 hi)]
theorem atc {w : World} {b : Nat} {f : Nat → Int} (h : At w b (ints 12 f).toArray 54) {j : Nat} (hj : j < 12) : w.cell? ⟨b, j, none⟩ = some (.int .i64 (f j)) ∧ w.frozen? ⟨b, j, none⟩ = false := by
  unfold At at h
  constructor
  · unfold World.cell?
    rw [h]
    simpa using ints_get hj
  · unfold World.frozen?
    rw [h]
    simp
def put12 (w : World) (b : Nat) (v0 v1 v2 v3 v4 v5 v6 v7 v8 v9 v10 v11 : Value) : World := (((((((((((w.setCell ⟨b, 0, none⟩ v0).setCell ⟨b, 1, none⟩ v1).setCell ⟨b, 2, none⟩ v2).setCell ⟨b, 3, none⟩ v3).setCell ⟨b, 4, none⟩ v4).setCell ⟨b, 5, none⟩ v5).setCell ⟨b, 6, none⟩ v6).setCell ⟨b, 7, none⟩ v7).setCell ⟨b, 8, none⟩ v8).setCell ⟨b, 9, none⟩ v9).setCell ⟨b, 10, none⟩ v10).setCell ⟨b, 11, none⟩ v11
theorem At.put12 {w : World} {b : Nat} {e : TypeId} {c0 c1 c2 c3 c4 c5 c6 c7 c8 c9 c10 c11 : Value} (h : At w b #[c0, c1, c2, c3, c4, c5, c6, c7, c8, c9, c10, c11] e) (v0 v1 v2 v3 v4 v5 v6 v7 v8 v9 v10 v11 : Value) : At (put12 w b v0 v1 v2 v3 v4 v5 v6 v7 v8 v9 v10 v11) b #[v0, v1, v2, v3, v4, v5, v6, v7, v8, v9, v10, v11] e := by
  unfold Go.Proofs.Tryz.put12
  have a1 : At _ b #[v0, c1, c2, c3, c4, c5, c6, c7, c8, c9, c10, c11] e := h.set 0 v0
  have a2 : At _ b #[v0, v1, c2, c3, c4, c5, c6, c7, c8, c9, c10, c11] e := a1.set 1 v1
  have a3 : At _ b #[v0, v1, v2, c3, c4, c5, c6, c7, c8, c9, c10, c11] e := a2.set 2 v2
  have a4 : At _ b #[v0, v1, v2, v3, c4, c5, c6, c7, c8, c9, c10, c11] e := a3.set 3 v3
  have a5 : At _ b #[v0, v1, v2, v3, v4, c5, c6, c7, c8, c9, c10, c11] e := a4.set 4 v4
  have a6 : At _ b #[v0, v1, v2, v3, v4, v5, c6, c7, c8, c9, c10, c11] e := a5.set 5 v5
  have a7 : At _ b #[v0, v1, v2, v3, v4, v5, v6, c7, c8, c9, c10, c11] e := a6.set 6 v6
  have a8 : At _ b #[v0, v1, v2, v3, v4, v5, v6, v7, c8, c9, c10, c11] e := a7.set 7 v7
  have a9 : At _ b #[v0, v1, v2, v3, v4, v5, v6, v7, v8, c9, c10, c11] e := a8.set 8 v8
  have a10 : At _ b #[v0, v1, v2, v3, v4, v5, v6, v7, v8, v9, c10, c11] e := a9.set 9 v9
  have a11 : At _ b #[v0, v1, v2, v3, v4, v5, v6, v7, v8, v9, v10, c11] e := a10.set 10 v10
  have a12 : At _ b #[v0, v1, v2, v3, v4, v5, v6, v7, v8, v9, v10, v11] e := a11.set 11 v11
  exact a12
theorem below_put12 {w W : World} {B b : Nat} (h : Below B w W) (hb : B ≤ b) (v0 v1 v2 v3 v4 v5 v6 v7 v8 v9 v10 v11 : Value) : Below B w (put12 W b v0 v1 v2 v3 v4 v5 v6 v7 v8 v9 v10 v11) := by
  unfold put12
  exact ((((((((((((h).setCell (p := ⟨b, 0, none⟩) hb _).setCell (p := ⟨b, 1, none⟩) hb _).setCell (p := ⟨b, 2, none⟩) hb _).setCell (p := ⟨b, 3, none⟩) hb _).setCell (p := ⟨b, 4, none⟩) hb _).setCell (p := ⟨b, 5, none⟩) hb _).setCell (p := ⟨b, 6, none⟩) hb _).setCell (p := ⟨b, 7, none⟩) hb _).setCell (p := ⟨b, 8, none⟩) hb _).setCell (p := ⟨b, 9, none⟩) hb _).setCell (p := ⟨b, 10, none⟩) hb _).setCell (p := ⟨b, 11, none⟩) hb _
theorem box12 {w : World} {b : Nat} {c0 c1 c2 c3 c4 c5 c6 c7 c8 c9 c10 c11 : Value} {e : TypeId} (h : At w b #[c0, c1, c2, c3, c4, c5, c6, c7, c8, c9, c10, c11] e) : (w.cell? ⟨b, 0, none⟩ = some c0 ∧ w.cell? ⟨b, 1, none⟩ = some c1 ∧ w.cell? ⟨b, 2, none⟩ = some c2 ∧ w.cell? ⟨b, 3, none⟩ = some c3 ∧ w.cell? ⟨b, 4, none⟩ = some c4 ∧ w.cell? ⟨b, 5, none⟩ = some c5 ∧ w.cell? ⟨b, 6, none⟩ = some c6 ∧ w.cell? ⟨b, 7, none⟩ = some c7 ∧ w.cell? ⟨b, 8, none⟩ = some c8 ∧ w.cell? ⟨b, 9, none⟩ = some c9 ∧ w.cell? ⟨b, 10, none⟩ = some c10 ∧ w.cell? ⟨b, 11, none⟩ = some c11) ∧ (w.frozen? ⟨b, 0, none⟩ = false ∧ w.frozen? ⟨b, 1, none⟩ = false ∧ w.frozen? ⟨b, 2, none⟩ = false ∧ w.frozen? ⟨b, 3, none⟩ = false ∧ w.frozen? ⟨b, 4, none⟩ = false ∧ w.frozen? ⟨b, 5, none⟩ = false ∧ w.frozen? ⟨b, 6, none⟩ = false ∧ w.frozen? ⟨b, 7, none⟩ = false ∧ w.frozen? ⟨b, 8, none⟩ = false ∧ w.frozen? ⟨b, 9, none⟩ = false ∧ w.frozen? ⟨b, 10, none⟩ = false ∧ w.frozen? ⟨b, 11, none⟩ = false) := by
  unfold At at h
  refine ⟨⟨?_, ?_, ?_, ?_, ?_, ?_, ?_, ?_, ?_, ?_, ?_, ?_⟩, ?_, ?_, ?_, ?_, ?_, ?_, ?_, ?_, ?_, ?_, ?_, ?_⟩ <;> simp only [World.cell?, World.frozen?, h] <;> rfl
theorem results_cell1 {fn : Func} {p : Tmp} {ty : TypeId} (h : fn.results = #[.cell p ty]) (tmps : Array Value) (P : Program) (w : World) :
    (results fn tmps).run P w = ((asAddr (tmps.getD p undef)).run P w).andThen fun a w₁ => (loadVar ty a).run P w₁ := by
  simp only [results, h]
  simp [Sem.run_bind, Result.andThen]
theorem res166 {tmps : Array Value} {W : World} {b : Nat} {c0 c1 c2 c3 c4 c5 c6 c7 c8 c9 c10 c11 : Value} (hp : tmps.getD 6 undef = .pointer (some ⟨b, 0, none⟩)) (hz : At W b #[c0, c1, c2, c3, c4, c5, c6, c7, c8, c9, c10, c11] 54) : (results f166 tmps).run prog W = .ok (.agg #[c0, c1, c2, c3, c4, c5, c6, c7, c8, c9, c10, c11]) W := by
  obtain ⟨⟨y0, y1, y2, y3, y4, y5, y6, y7, y8, y9, y10, y11⟩, -⟩ := box12 hz
  rw [results_cell1 (show f166.results = #[.cell 6 54] from rfl), hp]
  simp [go_sem, y0, y1, y2, y3, y4, y5, y6, y7, y8, y9, y10, y11]
set_option maxHeartbeats 3200000 in
theorem added_w (a b : Nat → Int) (s : Int) (hr : ∀ i, i < 12 → inI (s * b i) ∧ inI (a i + s * b i)) (w : World) :
    Calls prog 166 #[.agg #[.int .i64 (a 0), .int .i64 (a 1), .int .i64 (a 2), .int .i64 (a 3), .int .i64 (a 4), .int .i64 (a 5), .int .i64 (a 6), .int .i64 (a 7), .int .i64 (a 8), .int .i64 (a 9), .int .i64 (a 10), .int .i64 (a 11)], .agg #[.int .i64 (b 0), .int .i64 (b 1), .int .i64 (b 2), .int .i64 (b 3), .int .i64 (b 4), .int .i64 (b 5), .int .i64 (b 6), .int .i64 (b 7), .int .i64 (b 8), .int .i64 (b 9), .int .i64 (b 10), .int .i64 (b 11)], .int .i64 s] w fun e w' => e = .returned (.agg #[.int .i64 (a 0 + s * b 0), .int .i64 (a 1 + s * b 1), .int .i64 (a 2 + s * b 2), .int .i64 (a 3 + s * b 3), .int .i64 (a 4 + s * b 4), .int .i64 (a 5 + s * b 5), .int .i64 (a 6 + s * b 6), .int .i64 (a 7 + s * b 7), .int .i64 (a 8 + s * b 8), .int .i64 (a 9 + s * b 9), .int .i64 (a 10 + s * b 10), .int .i64 (a 11 + s * b 11)]) ∧ Below w.heap.size w w' := by
  have hx := at_new w (ints 12 a).toArray 54
  have hb1 : Below w.heap.size w (w.alloc (.cells (ints 12 a).toArray 54)) := (Below.refl _ _).alloc (Nat.le_refl _) _
  have hy : At ((w.alloc (.cells (ints 12 a).toArray 54)).alloc (.cells (ints 12 b).toArray 54)) (w.heap.size + 1) (ints 12 b).toArray 54 := by
    have := at_new (w.alloc (.cells (ints 12 a).toArray 54)) (ints 12 b).toArray 54
    simpa using this
  have hx := hx.alloc (.cells (ints 12 b).toArray 54)
  have hb2 := hb1.alloc hb1.size (.cells (ints 12 b).toArray 54)
  have hz : At (((w.alloc (.cells (ints 12 a).toArray 54)).alloc (.cells (ints 12 b).toArray 54)).alloc (.cells (ints 12 fun _ => 0).toArray 54)) (w.heap.size + 2) (ints 12 fun _ => 0).toArray 54 := by
    have := at_new ((w.alloc (.cells (ints 12 a).toArray 54)).alloc (.cells (ints 12 b).toArray 54)) (ints 12 fun _ => 0).toArray 54
    simpa using this
  have hx := hx.alloc (.cells (ints 12 fun _ => 0).toArray 54)
  have hy := hy.alloc (.cells (ints 12 fun _ => 0).toArray 54)
  have hb3 := hb2.alloc hb2.size (.cells (ints 12 fun _ => 0).toArray 54)
  obtain ⟨W3, hW⟩ : ∃ W3, ((w.alloc (.cells (ints 12 a).toArray 54)).alloc (.cells (ints 12 b).toArray 54)).alloc (.cells (ints 12 fun _ => 0).toArray 54) = W3 := ⟨_, rfl⟩
  rw [hW] at hx hy hz hb3
  rw [show (ints 12 a).toArray = #[.int .i64 (a 0), .int .i64 (a 1), .int .i64 (a 2), .int .i64 (a 3), .int .i64 (a 4), .int .i64 (a 5), .int .i64 (a 6), .int .i64 (a 7), .int .i64 (a 8), .int .i64 (a 9), .int .i64 (a 10), .int .i64 (a 11)] from rfl, show (ints 12 b).toArray = #[.int .i64 (b 0), .int .i64 (b 1), .int .i64 (b 2), .int .i64 (b 3), .int .i64 (b 4), .int .i64 (b 5), .int .i64 (b 6), .int .i64 (b 7), .int .i64 (b 8), .int .i64 (b 9), .int .i64 (b 10), .int .i64 (b 11)] from rfl, show (ints 12 fun _ => 0).toArray = #[.int .i64 0, .int .i64 0, .int .i64 0, .int .i64 0, .int .i64 0, .int .i64 0, .int .i64 0, .int .i64 0, .int .i64 0, .int .i64 0, .int .i64 0, .int .i64 0] from rfl] at hW
  have hx0 : At W3 w.heap.size (ints 12 fun i => if i < 0 then a i + s * b i else a i).toArray 54 := by
    rw [ints_congr (g := a) (fun i _ => by rw [if_neg (Nat.not_lt_zero _)])]; exact hx
  have HR := Lib.hid hr
  clear hx hb1 hb2 hr
  go_enter func166, ntmps166
  go_wp2_with fail
  try rw [hW]
  clear hW
  go_loopw [7] (fun t wr => ∃ j : Nat, j ≤ 12 ∧ t = .int .i64 j ∧ At wr w.heap.size (ints 12 fun i => if i < j then a i + s * b i else a i).toArray 54 ∧ At wr (w.heap.size + 1) (ints 12 b).toArray 54 ∧ At wr (w.heap.size + 2) (ints 12 fun _ => 0).toArray 54 ∧ Below w.heap.size w wr) (fun t _ => 12 - (numOf' t).toNat)
  case atStart => exact ⟨0, Nat.zero_le _, rfl, hx0, hy, hz, hb3⟩
  case round =>
    clear hx0 hy hz hb3
    obtain ⟨j, hj, rfl, hx, hy, hz, hb⟩ := hrel
    by_cases hj12 : j < 12
    · obtain ⟨x0, f0⟩ := atc hx hj12
      obtain ⟨y0, -⟩ := atc hy hj12
      rw [if_neg (Nat.lt_irrefl _)] at x0
      obtain ⟨r1, r2⟩ := inI_wrap (HR.out j hj12).1
      obtain ⟨r3, r4⟩ := inI_wrap (HR.out j hj12).2
      have hjj : (j : Int) < 12 := by omega
      have hdr : At wr.drew w.heap.size (ints 12 fun i => if i < j then a i + s * b i else a i).toArray 54 ∧ At wr.drew (w.heap.size + 1) (ints 12 b).toArray 54 ∧ At wr.drew (w.heap.size + 2) (ints 12 fun _ => 0).toArray 54 ∧ Below w.heap.size w wr.drew := ⟨hx.drew, hy.drew, hz.drew, hb.drew⟩
      clear hx hy hz hb
      clear x0 f0 y0
      go_wp2_with fail
      refine wp_region_quiet_to (C := (fun W => At W w.heap.size (ints 12 fun i => if i < j then a i + s * b i else a i).toArray 54 ∧ At W (w.heap.size + 1) (ints 12 b).toArray 54 ∧ At W (w.heap.size + 2) (ints 12 fun _ => 0).toArray 54 ∧ Below w.heap.size w W)) 10 1 #[true, true, true, true, true, true, true, true, true, true, false] (by kernel_rfl) (by kernel_rfl) ?_ ?_
      · (try dsimp only)
        exact hdr
      simp only [List.take_succ_cons, List.take_zero]
      with_reducible refine quiet_take (v := ?_) ?_ ?_ ?_
      rotate_left
      · rfl
      · (intro w hSw; (try dsimp only at hSw); go_simp); all_goals (with_reducible rfl)
      try simp only [Act.put, List.setIfInBounds_toArray, List.set_cons_zero, List.set_cons_succ]
      with_reducible refine quiet_take (v := ?_) ?_ ?_ ?_
      rotate_left
      · rfl
      · (intro w hSw; (try dsimp only at hSw); go_simp); all_goals (with_reducible rfl)
      try simp only [Act.put, List.setIfInBounds_toArray, List.set_cons_zero, List.set_cons_succ]
      with_reducible refine quiet_take (v := ?_) ?_ ?_ ?_
      rotate_left
      · rfl
      · (intro w hSw; have hx0 := (atc hSw.1 hj12).1; rw [if_neg (Nat.lt_irrefl _)] at hx0; (try dsimp only at hSw); go_simp); all_goals (with_reducible rfl)
      try simp only [Act.put, List.setIfInBounds_toArray, List.set_cons_zero, List.set_cons_succ]
      with_reducible refine quiet_take (v := ?_) ?_ ?_ ?_
      rotate_left
      · rfl
      · (intro w hSw; (try dsimp only at hSw); go_simp); all_goals (with_reducible rfl)
      try simp only [Act.put, List.setIfInBounds_toArray, List.set_cons_zero, List.set_cons_succ]
      with_reducible refine quiet_take (v := ?_) ?_ ?_ ?_
      rotate_left
      · rfl
      · (intro w hSw; (try dsimp only at hSw); go_simp); all_goals (with_reducible rfl)
      try simp only [Act.put, List.setIfInBounds_toArray, List.set_cons_zero, List.set_cons_succ]
      with_reducible refine quiet_take (v := ?_) ?_ ?_ ?_
      rotate_left
      · rfl
      · (intro w hSw; (try dsimp only at hSw); go_simp); all_goals (with_reducible rfl)
      try simp only [Act.put, List.setIfInBounds_toArray, List.set_cons_zero, List.set_cons_succ]
      with_reducible refine quiet_take (v := ?_) ?_ ?_ ?_
      rotate_left
      · rfl
      · (intro w hSw; have hy0 := (atc hSw.2.1 hj12).1; (try dsimp only at hSw); go_simp); all_goals (with_reducible rfl)
      try simp only [Act.put, List.setIfInBounds_toArray, List.set_cons_zero, List.set_cons_succ]
      with_reducible refine quiet_take (v := ?_) ?_ ?_ ?_
      rotate_left
      · rfl
      · (intro w hSw; (try dsimp only at hSw); go_simp); all_goals (with_reducible rfl)
      try simp only [Act.put, List.setIfInBounds_toArray, List.set_cons_zero, List.set_cons_succ]
      with_reducible refine quiet_take (v := ?_) ?_ ?_ ?_
      rotate_left
      · rfl
      · (intro w hSw; (try dsimp only at hSw); go_simp); all_goals (with_reducible rfl)
      try simp only [Act.put, List.setIfInBounds_toArray, List.set_cons_zero, List.set_cons_succ]
      with_reducible refine quiet_take (v := ?_) ?_ ?_ ?_
      rotate_left
      · rfl
      · (intro w hSw; (try dsimp only at hSw); go_simp); all_goals (with_reducible rfl)
      try simp only [Act.put, List.setIfInBounds_toArray, List.set_cons_zero, List.set_cons_succ]
      refine wpQuiet_nil ?_
      intro W hSw
      obtain ⟨x0, f0⟩ := atc hSw.1 hj12
      rw [if_neg (Nat.lt_irrefl _)] at x0
      refine wpAny_of_held (S := fun _ => True) _ _ _ _ ?_
      refine wpAnyH_ready (rs := [10]) (by kernel_rfl) (by simp) ?_
      refine AllReadyH.cons (o := _) rfl (fun K hK => ?_) ?_
      · -- store
        go_simp
        refine hK.out _ _ trivial (fun _ => ?_)
        clear hK K
        try simp only [List.setIfInBounds_toArray, List.set_cons_zero, List.set_cons_succ]
        refine wpAnyH_done (by kernel_rfl) ?_ _
        have hx9 : At (W.setCell ⟨w.heap.size, j, none⟩ (.int .i64 (a j + s * b j))) w.heap.size (ints 12 fun i => if i < j + 1 then a i + s * b i else a i).toArray 54 := by
          have := hSw.1.set j (.int .i64 (a j + s * b j))
          rw [ints_set _ hj12] at this
          rw [ints_congr (g := fun i => if i = j then a j + s * b j else if i < j then a i + s * b i else a i) (fun i _ => by
            by_cases h : i = j
            · subst h; rw [if_pos (Nat.lt_succ_self _), if_pos rfl]
            · rw [if_neg h]
              by_cases h2 : i < j
              · rw [if_pos (by omega), if_pos h2]
              · rw [if_neg (by omega), if_neg h2])]
          exact this
        have hy9 := fun u => hSw.2.1.setCell (a := ⟨w.heap.size, j, none⟩) (by simp) u
        have hz9 := fun u => hSw.2.2.1.setCell (a := ⟨w.heap.size, j, none⟩) (by simp) u
        have hb9 := fun u => hSw.2.2.2.setCell (p := ⟨w.heap.size, j, none⟩) (Nat.le_refl _) u
        go_wp2_with fail
        go_roundw
        case rel => exact ⟨j + 1, by omega, by go_num, hx9, hy9 _, hz9 _, hb9 _⟩
        case measure => simp [numOf'] <;> omega
      exact AllReadyH.nil
    · obtain rfl : j = 12 := by omega
      rw [ints_congr (g := fun i => a i + s * b i) (fun i hi => by rw [if_pos hi])] at hx
      have hx1 : At wr w.heap.size #[.int .i64 (a 0 + s * b 0), .int .i64 (a 1 + s * b 1), .int .i64 (a 2 + s * b 2), .int .i64 (a 3 + s * b 3), .int .i64 (a 4 + s * b 4), .int .i64 (a 5 + s * b 5), .int .i64 (a 6 + s * b 6), .int .i64 (a 7 + s * b 7), .int .i64 (a 8 + s * b 8), .int .i64 (a 9 + s * b 9), .int .i64 (a 10 + s * b 10), .int .i64 (a 11 + s * b 11)] 54 := hx
      have hz1 : At wr (w.heap.size + 2) #[.int .i64 0, .int .i64 0, .int .i64 0, .int .i64 0, .int .i64 0, .int .i64 0, .int .i64 0, .int .i64 0, .int .i64 0, .int .i64 0, .int .i64 0, .int .i64 0] 54 := hz
      obtain ⟨⟨x0, x1, x2, x3, x4, x5, x6, x7, x8, x9, x10, x11⟩, -⟩ := box12 hx1
      obtain ⟨⟨z0, z1, z2, z3, z4, z5, z6, z7, z8, z9, z10, z11⟩, ⟨f0, f1, f2, f3, f4, f5, f6, f7, f8, f9, f10, f11⟩⟩ := box12 hz1
      have hz2 := hz1.put12 (.int .i64 (a 0 + s * b 0)) (.int .i64 (a 1 + s * b 1)) (.int .i64 (a 2 + s * b 2)) (.int .i64 (a 3 + s * b 3)) (.int .i64 (a 4 + s * b 4)) (.int .i64 (a 5 + s * b 5)) (.int .i64 (a 6 + s * b 6)) (.int .i64 (a 7 + s * b 7)) (.int .i64 (a 8 + s * b 8)) (.int .i64 (a 9 + s * b 9)) (.int .i64 (a 10 + s * b 10)) (.int .i64 (a 11 + s * b 11))
      have hb2 := below_put12 hb (Nat.le_add_right _ _ : w.heap.size ≤ w.heap.size + 2) (.int .i64 (a 0 + s * b 0)) (.int .i64 (a 1 + s * b 1)) (.int .i64 (a 2 + s * b 2)) (.int .i64 (a 3 + s * b 3)) (.int .i64 (a 4 + s * b 4)) (.int .i64 (a 5 + s * b 5)) (.int .i64 (a 6 + s * b 6)) (.int .i64 (a 7 + s * b 7)) (.int .i64 (a 8 + s * b 8)) (.int .i64 (a 9 + s * b 9)) (.int .i64 (a 10 + s * b 10)) (.int .i64 (a 11 + s * b 11))
      unfold Go.Proofs.Tryz.put12 at hz2 hb2
      clear hx hy hz hb hx1 hz1 HR
      go_wp2_with fail
      refine bodyPost_ret (res166 rfl hz2) rfl ⟨rfl, hb2⟩
end Go.Proofs.Tryz

namespace Go.Proofs.Tryz
open Go Go.Am Go.RowKit Go.Op
set_option maxRecDepth 100000

theorem flatR_set {m : Nat} : ∀ {l : List (List Value)} {i j : Nat} {x : List Value} {u : Value}, (∀ y ∈ l, y.length = m) → l[i]? = some x → j < m → flatR (l.set i (x.set j u)) = (flatR l).set (i * m + j) u
  | [], _, _, _, _, _, h, _ => by simp at h
  | y :: l, 0, j, x, u, hm, h, hj => by
    simp only [List.getElem?_cons_zero, Option.some.injEq] at h
    subst h
    have hy := hm y (by simp)
    rw [List.set_cons_zero, Nat.zero_mul, Nat.zero_add]
    show (y.set j u ++ l.flatten) = (y ++ l.flatten).set j u
    rw [List.set_append_left _ _ (by omega)]
  | y :: l, i + 1, j, x, u, hm, h, hj => by
    simp only [List.getElem?_cons_succ] at h
    have ih := flatR_set (u := u) (fun z hz => hm z (by simp [hz])) h hj
    have hy := hm y (by simp)
    rw [List.set_cons_succ]
    show y ++ (l.set i (x.set j u)).flatten = (y ++ l.flatten).set ((i + 1) * m + j) u
    have e : (i + 1) * m + j = y.length + (i * m + j) := by rw [hy, Nat.add_mul]; omega
    rw [e, List.set_append_right _ _ (by omega), Nat.add_sub_cancel_left]
    exact congrArg _ ih
theorem OwnRow.own {w : World} {base e m : Nat} {v : Value} {l : List (List Value)} (h : OwnRow w base e m v l) {i : Nat} (hi : i < l.length) : ∃ g cap, v = .slice (some ⟨g, 0, none⟩) l.length cap ∧ base ≤ g ∧ l.length ≤ cap := by
  rcases h.1.2 with ⟨rfl, h0⟩ | ⟨g, cap, cur, rfl, h1, h2, h3, h4⟩
  · omega
  · exact ⟨g, cap, rfl, h1, h3⟩
theorem OwnRow.cell {w : World} {base e m g n cap : Nat} {l : List (List Value)} (h : OwnRow w base e m (.slice (some ⟨g, 0, none⟩) n cap) l) {i j : Nat} {x : List Value} {u : Value} (hx : l[i]? = some x) (hu : x[j]? = some u) : w.cell? ⟨g, i * m + j, none⟩ = some u ∧ w.frozen? ⟨g, i * m + j, none⟩ = false := by
  rcases h.1.2 with ⟨e0, h0⟩ | ⟨g', cap', cur, e0, h1, h2, h3, h4, h5, h6⟩
  · cases e0
  · simp only [Value.slice.injEq, Option.some.injEq, Addr.mk.injEq, and_true] at e0
    obtain ⟨rfl, rfl, rfl⟩ := e0
    have hq := flatR_get h.2 hx hu
    have hlt := (List.getElem?_eq_some_iff.1 hq).1
    have hc := h.1.cellAt (i * m + j) (by rw [← h.1.1]; exact hlt)
    refine ⟨hc.trans hq, ?_⟩
    unfold World.frozen?
    rw [h2]
    simp
theorem OwnRow.write {w : World} {base e m g n cap : Nat} {l : List (List Value)} (h : OwnRow w base e m (.slice (some ⟨g, 0, none⟩) n cap) l) {i j : Nat} {x : List Value} (hx : l[i]? = some x) (hj : j < m) (u : Value) : OwnRow (w.setCell ⟨g, i * m + j, none⟩ u) base e m (.slice (some ⟨g, 0, none⟩) n cap) (l.set i (x.set j u)) := by
  have hm := h.2
  have hxm : x.length = m := hm x (List.mem_of_getElem? hx)
  rcases h.1.2 with ⟨e0, h0⟩ | ⟨g', cap', cur, e0, h1, h2, h3, h4, h5, h6⟩
  · cases e0
  · simp only [Value.slice.injEq, Option.some.injEq, Addr.mk.injEq, and_true] at e0
    obtain ⟨rfl, rfl, rfl⟩ := e0
    refine ⟨⟨?_, .inr ⟨g, cap, cur.setIfInBounds (i * m + j) u, by rw [List.length_set], h1, ?_, by rw [List.length_set]; exact h3, h4, by simpa using h5, ?_⟩⟩, fun y hy => ?_⟩
    · rw [flatR_set hm hx hj, List.length_set, List.length_set]; exact h.1.1
    · simp only [World.setCell, Array.getElem?_modify, h2]
      simp
    · rw [flatR_set hm hx hj, ← h6, Array.toList_setIfInBounds, List.length_set, List.take_set]
    · rcases List.mem_or_eq_of_mem_set hy with hy | rfl
      · exact hm y hy
      · rw [List.length_set]; exact hxm
/-- Cells written one behind the other. -/
def setN (w : World) (b : Nat) : Nat → List Value → World
  | _, [] => w
  | o, v :: r => setN (w.setCell ⟨b, o, none⟩ v) b (o + 1) r
def splice (x : List Value) : Nat → List Value → List Value
  | _, [] => x
  | j, v :: r => splice (x.set j v) (j + 1) r
theorem OwnRow.writes {base e m g n cap i : Nat} : ∀ {vs : List Value} {w : World} {l : List (List Value)} {x : List Value} {j : Nat}, OwnRow w base e m (.slice (some ⟨g, 0, none⟩) n cap) l → l[i]? = some x → j + vs.length ≤ m →
    OwnRow (setN w g (i * m + j) vs) base e m (.slice (some ⟨g, 0, none⟩) n cap) (l.set i (splice x j vs))
  | [], w, l, x, j, h, hx, _ => by
    have hi := (List.getElem?_eq_some_iff.1 hx).1
    have e : l.set i x = l := by
      apply List.ext_getElem?
      intro k
      by_cases hk : k = i
      · subst hk; rw [List.getElem?_set_self hi, hx]
      · rw [List.getElem?_set_ne (fun q => hk q.symm)]
    unfold splice setN
    rw [e]; exact h
  | v :: r, w, l, x, j, h, hx, hj => by
    simp only [List.length_cons] at hj
    have h2 := h.write hx (j := j) (by omega) v
    have hi := (List.getElem?_eq_some_iff.1 hx).1
    have h3 := OwnRow.writes (vs := r) (j := j + 1) h2 (x := x.set j v) (by rw [List.getElem?_set_self hi]) (by omega)
    unfold splice setN
    rw [List.set_set] at h3
    exact h3
theorem setN_size' (b : Nat) : ∀ (vs : List Value) (w : World) (o : Nat), (setN w b o vs).heap.size = w.heap.size
  | [], _, _ => rfl
  | _ :: r, w, o => by rw [setN, setN_size' b r]; simp
theorem setN_size (w : World) (b o : Nat) (vs : List Value) : (setN w b o vs).heap.size = w.heap.size := setN_size' b vs w o
theorem Below.setN {B : Nat} {w0 : World} {b : Nat} (hb : B ≤ b) : ∀ {vs : List Value} {w : World} {o : Nat}, Below B w0 w → Below B w0 (Go.Proofs.Tryz.setN w b o vs)
  | [], _, _, h => h
  | _ :: r, _, _, h => Below.setN hb (vs := r) (h.setCell hb _)
theorem At.setN {c e : Nat} {cs : Array Value} {b : Nat} (hb : c ≠ b) : ∀ {vs : List Value} {w : World} {o : Nat}, At w c cs e → At (Go.Proofs.Tryz.setN w b o vs) c cs e
  | [], _, _, h => h
  | _ :: r, _, _, h => At.setN hb (vs := r) (h.setCell hb _)
end Go.Proofs.Tryz
