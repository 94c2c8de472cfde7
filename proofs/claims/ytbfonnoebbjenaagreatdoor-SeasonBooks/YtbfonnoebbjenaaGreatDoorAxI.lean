/- A game checked by the season: by the kit's walk. -/
import Derived.Test.YtbfonnoebbjenaaGreatDoorAxH
import Derived.Test.YtbfonnoebbjenaaGreatDoorAxQ
namespace Go.Proofs.Tryz
open Go Go.Am Go.RowKit Go.Op
set_option maxRecDepth 100000

theorem first9_w (e0 e1 e2 e3 e4 e5 e6 e7 e8 : Int) (b : Nat) (W : World) (h0 : W.cell? ⟨b, 0, none⟩ = some (.int .i64 e0)) (h1 : W.cell? ⟨b, 1, none⟩ = some (.int .i64 e1)) (h2 : W.cell? ⟨b, 2, none⟩ = some (.int .i64 e2)) (h3 : W.cell? ⟨b, 3, none⟩ = some (.int .i64 e3)) (h4 : W.cell? ⟨b, 4, none⟩ = some (.int .i64 e4)) (h5 : W.cell? ⟨b, 5, none⟩ = some (.int .i64 e5)) (h6 : W.cell? ⟨b, 6, none⟩ = some (.int .i64 e6)) (h7 : W.cell? ⟨b, 7, none⟩ = some (.int .i64 e7)) (h8 : W.cell? ⟨b, 8, none⟩ = some (.int .i64 e8)) :
    Calls prog 88 #[.slice (some ⟨b, 0, none⟩) 9 9] W fun e w' => e = .returned (.int .i64 (fstE [e0, e1, e2, e3, e4, e5, e6, e7, e8])) ∧ w' = W :=
  first_w [e0, e1, e2, e3, e4, e5, e6, e7, e8] b 9 W (by simp) fun j z h => by
    match j, h with
    | 0, h => simp at h; subst h; exact h0
    | 1, h => simp at h; subst h; exact h1
    | 2, h => simp at h; subst h; exact h2
    | 3, h => simp at h; subst h; exact h3
    | 4, h => simp at h; subst h; exact h4
    | 5, h => simp at h; subst h; exact h5
    | 6, h => simp at h; subst h; exact h6
    | 7, h => simp at h; subst h; exact h7
    | 8, h => simp at h; subst h; exact h8
    | j + 9, h => simp at h

set_option maxHeartbeats 6400000 in
theorem game_w {g : GmD} {ad : Option Addr} {kc : Nat} {w : World} (hl : IsLines w (.slice ad g.k kc) g.l g.k) (hk : g.k ≤ 100000) :
    Calls prog 55 #[g.val (.slice ad g.k kc)] w fun e w' => e = .returned (.int .i64 (gmE g)) ∧ Below w.heap.size w w' := by
  have hB : Below w.heap.size w (w.alloc (.cells (g.arr (.slice ad g.k kc)) 110)) := (Below.refl _ _).alloc (Nat.le_refl _) _
  have hx := at_new w (g.arr (.slice ad g.k kc)) 110
  have hlB := hl.below hB
  obtain ⟨W2, hW⟩ : ∃ W2, w.alloc (.cells (g.arr (.slice ad g.k kc)) 110) = W2 := ⟨_, rfl⟩
  rw [hW] at hB hx hlB
  unfold GmD.arr at hW hx
  unfold GmD.val
  obtain ⟨⟨x0, x1, x2, x3, x4, x5, x6, x7⟩, -⟩ := box8 hx
  have hpres : ∀ W W' : World, ((W.cell? ⟨w.heap.size, 0, none⟩ = some (.string (bA g.nm)) ∧ W.cell? ⟨w.heap.size, 1, none⟩ = some (.int .i64 g.ver) ∧ W.cell? ⟨w.heap.size, 2, none⟩ = some (.int .i64 g.day) ∧ W.cell? ⟨w.heap.size, 3, none⟩ = some (.string (bA g.t0)) ∧ W.cell? ⟨w.heap.size, 4, none⟩ = some (.string (bA g.t1)) ∧ W.cell? ⟨w.heap.size, 5, none⟩ = some (.int .i64 g.s0) ∧ W.cell? ⟨w.heap.size, 6, none⟩ = some (.int .i64 g.s1) ∧ W.cell? ⟨w.heap.size, 7, none⟩ = some (.slice ad g.k kc)) ∧ Below W2.heap.size W2 W) → Below W.heap.size W W' → ((W'.cell? ⟨w.heap.size, 0, none⟩ = some (.string (bA g.nm)) ∧ W'.cell? ⟨w.heap.size, 1, none⟩ = some (.int .i64 g.ver) ∧ W'.cell? ⟨w.heap.size, 2, none⟩ = some (.int .i64 g.day) ∧ W'.cell? ⟨w.heap.size, 3, none⟩ = some (.string (bA g.t0)) ∧ W'.cell? ⟨w.heap.size, 4, none⟩ = some (.string (bA g.t1)) ∧ W'.cell? ⟨w.heap.size, 5, none⟩ = some (.int .i64 g.s0) ∧ W'.cell? ⟨w.heap.size, 6, none⟩ = some (.int .i64 g.s1) ∧ W'.cell? ⟨w.heap.size, 7, none⟩ = some (.slice ad g.k kc)) ∧ Below W2.heap.size W2 W') := fun W W' hW hk => by
    have hbk : Below W2.heap.size W2 W' := hW.2.trans (hk.mono hW.2.size)
    obtain ⟨⟨x0, x1, x2, x3, x4, x5, x6, x7⟩, -⟩ := box8 (hx.below hbk hx.lt)
    exact ⟨⟨x0, x1, x2, x3, x4, x5, x6, x7⟩, hbk⟩
  have hdr : Below W2.heap.size W2 W2.drew := (Below.refl _ _).drew
  have cN := named_w g.nm
  have cN0 := named_w g.t0
  have cN1 := named_w g.t1
  have cV := within_w g.ver 1 999999999
  have cD := within_w g.day 0 99999
  have cS0 := within_w g.s0 0 999
  have cS1 := within_w g.s1 0 999
  have cE := when_w (g.t0 == g.t1) 9
  have cL := when_w (decide (60 < (g.k : Int))) 5
  have hhead : headL g = [nmE g.nm, inE g.ver 1 999999999, inE g.day 0 99999, nmE g.t0, nmE g.t1, if (g.t0 == g.t1) = true then 9 else 0, inE g.s0 0 999, inE g.s1 0 999, if decide (60 < (g.k : Int)) = true then 5 else 0] := by
    unfold headL
    have e1 : (60 < (g.k : Int)) = (60 < g.k) := by apply propext; omega
    simp [e1]
  have HH := Lib.hid hhead
  clear hhead
  obtain ⟨en, hen⟩ : ∃ x, nmE g.nm = x := ⟨_, rfl⟩
  obtain ⟨en0, hen0⟩ : ∃ x, nmE g.t0 = x := ⟨_, rfl⟩
  obtain ⟨en1, hen1⟩ : ∃ x, nmE g.t1 = x := ⟨_, rfl⟩
  obtain ⟨ev, hev⟩ : ∃ x, inE g.ver 1 999999999 = x := ⟨_, rfl⟩
  obtain ⟨ed, hed⟩ : ∃ x, inE g.day 0 99999 = x := ⟨_, rfl⟩
  obtain ⟨es0, hes0⟩ : ∃ x, inE g.s0 0 999 = x := ⟨_, rfl⟩
  obtain ⟨es1, hes1⟩ : ∃ x, inE g.s1 0 999 = x := ⟨_, rfl⟩
  obtain ⟨ee, hee⟩ : ∃ x : Int, (if (g.t0 == g.t1) = true then 9 else 0) = x := ⟨_, rfl⟩
  obtain ⟨el, hel⟩ : ∃ x : Int, (if decide (60 < (g.k : Int)) = true then 5 else 0) = x := ⟨_, rfl⟩
  rw [hen, hen0, hen1, hev, hed, hes0, hes1, hee, hel] at HH
  rw [hen] at cN
  rw [hen0] at cN0
  rw [hen1] at cN1
  rw [hev] at cV
  rw [hed] at cD
  rw [hes0] at cS0
  rw [hes1] at cS1
  rw [hee] at cE
  rw [hel] at cL
  have HL : Hid (el = if 60 < g.k then 5 else 0) := Lib.hid (by
    have e1 : (60 < (g.k : Int)) = (60 < g.k) := by apply propext; omega
    rw [← hel]; simp [e1])
  clear hen hen0 hen1 hev hed hes0 hes1 hee hel
  have cF := first9_w en ev ed en0 en1 ee es0 es1 el
  have l2 : (bA g.t0).toList = g.t0 := bA_list _
  have l3 : (bA g.t1).toList = g.t1 := bA_list _
  obtain ⟨R, hR⟩ : ∃ R, gmE g = R := ⟨_, rfl⟩
  have HR := Lib.hid hR
  rw [hR]
  clear hR
  go_enter func55, ntmps55
  go_wp2_with fail
  try rw [hW]
  clear hW
  go_cut [3] (fun s3 wx => s3 = .int .i64 (fstE [en, ev, ed, en0, en1, ee, es0, es1, el]) ∧ Below W2.heap.size W2 wx)
  case first =>
    clear HH HL HR
    refine wp_region_quiet_to (C := (fun W => ((W.cell? ⟨w.heap.size, 0, none⟩ = some (.string (bA g.nm)) ∧ W.cell? ⟨w.heap.size, 1, none⟩ = some (.int .i64 g.ver) ∧ W.cell? ⟨w.heap.size, 2, none⟩ = some (.int .i64 g.day) ∧ W.cell? ⟨w.heap.size, 3, none⟩ = some (.string (bA g.t0)) ∧ W.cell? ⟨w.heap.size, 4, none⟩ = some (.string (bA g.t1)) ∧ W.cell? ⟨w.heap.size, 5, none⟩ = some (.int .i64 g.s0) ∧ W.cell? ⟨w.heap.size, 6, none⟩ = some (.int .i64 g.s1) ∧ W.cell? ⟨w.heap.size, 7, none⟩ = some (.slice ad g.k kc)) ∧ Below W2.heap.size W2 W))) 38 3 #[true, true, true, true, true, true, true, true, true, true, true, true, true, true, true, true, true, true, true, true, true, true, true, true, true, true, true, true, true, true, true, true, true, true, true, true, true, true, false, false, false] (by kernel_rfl) (by kernel_rfl) ?_ ?_
    · (try dsimp only)
      exact ⟨⟨x0, x1, x2, x3, x4, x5, x6, x7⟩, hdr⟩
    simp only [List.take_succ_cons, List.take_zero]
    refine quiet_take (v := ?_) (by rfl) ?_ ?_
    rotate_left
    · (intro w hSw; (try dsimp only at hSw); go_simp); all_goals (with_reducible rfl)
    try simp only [Act.put, List.setIfInBounds_toArray, List.set_cons_zero, List.set_cons_succ]
    refine quiet_take (v := ?_) (by rfl) ?_ ?_
    rotate_left
    · (intro w hSw; (try dsimp only at hSw); go_simp); all_goals (with_reducible rfl)
    try simp only [Act.put, List.setIfInBounds_toArray, List.set_cons_zero, List.set_cons_succ]
    refine quiet_call (f := 117) (args := ?_) (v := .int .i64 en) (by rfl) ?_ ?_ ?_
    rotate_left
    · (intro w hSw; (try dsimp only at hSw); go_simp); all_goals (with_reducible rfl)
    · (intro W hSw); refine (cN W).mono ?_; rintro e W' ⟨rfl, hk⟩; exact ⟨rfl, hpres W W' hSw hk⟩
    try simp only [Act.put, List.setIfInBounds_toArray, List.set_cons_zero, List.set_cons_succ]
    refine quiet_take (v := ?_) (by rfl) ?_ ?_
    rotate_left
    · (intro w hSw; (try dsimp only at hSw); go_simp); all_goals (with_reducible rfl)
    try simp only [Act.put, List.setIfInBounds_toArray, List.set_cons_zero, List.set_cons_succ]
    refine quiet_take (v := ?_) (by rfl) ?_ ?_
    rotate_left
    · (intro w hSw; (try dsimp only at hSw); go_simp); all_goals (with_reducible rfl)
    try simp only [Act.put, List.setIfInBounds_toArray, List.set_cons_zero, List.set_cons_succ]
    refine quiet_call (f := 94) (args := ?_) (v := .int .i64 ev) (by rfl) ?_ ?_ ?_
    rotate_left
    · (intro w hSw; (try dsimp only at hSw); go_simp); all_goals (with_reducible rfl)
    · (intro W hSw); refine (cV W).mono ?_; rintro e W' ⟨rfl, rfl⟩; exact ⟨rfl, hSw⟩
    try simp only [Act.put, List.setIfInBounds_toArray, List.set_cons_zero, List.set_cons_succ]
    refine quiet_take (v := ?_) (by rfl) ?_ ?_
    rotate_left
    · (intro w hSw; (try dsimp only at hSw); go_simp); all_goals (with_reducible rfl)
    try simp only [Act.put, List.setIfInBounds_toArray, List.set_cons_zero, List.set_cons_succ]
    refine quiet_take (v := ?_) (by rfl) ?_ ?_
    rotate_left
    · (intro w hSw; (try dsimp only at hSw); go_simp); all_goals (with_reducible rfl)
    try simp only [Act.put, List.setIfInBounds_toArray, List.set_cons_zero, List.set_cons_succ]
    refine quiet_call (f := 94) (args := ?_) (v := .int .i64 ed) (by rfl) ?_ ?_ ?_
    rotate_left
    · (intro w hSw; (try dsimp only at hSw); go_simp); all_goals (with_reducible rfl)
    · (intro W hSw); refine (cD W).mono ?_; rintro e W' ⟨rfl, rfl⟩; exact ⟨rfl, hSw⟩
    try simp only [Act.put, List.setIfInBounds_toArray, List.set_cons_zero, List.set_cons_succ]
    refine quiet_take (v := ?_) (by rfl) ?_ ?_
    rotate_left
    · (intro w hSw; (try dsimp only at hSw); go_simp); all_goals (with_reducible rfl)
    try simp only [Act.put, List.setIfInBounds_toArray, List.set_cons_zero, List.set_cons_succ]
    refine quiet_take (v := ?_) (by rfl) ?_ ?_
    rotate_left
    · (intro w hSw; (try dsimp only at hSw); go_simp); all_goals (with_reducible rfl)
    try simp only [Act.put, List.setIfInBounds_toArray, List.set_cons_zero, List.set_cons_succ]
    refine quiet_take (v := ?_) (by rfl) ?_ ?_
    rotate_left
    · (intro w hSw; (try dsimp only at hSw); go_simp); all_goals (with_reducible rfl)
    try simp only [Act.put, List.setIfInBounds_toArray, List.set_cons_zero, List.set_cons_succ]
    refine quiet_call (f := 117) (args := ?_) (v := .int .i64 en0) (by rfl) ?_ ?_ ?_
    rotate_left
    · (intro w hSw; (try dsimp only at hSw); go_simp); all_goals (with_reducible rfl)
    · (intro W hSw); refine (cN0 W).mono ?_; rintro e W' ⟨rfl, hk⟩; exact ⟨rfl, hpres W W' hSw hk⟩
    try simp only [Act.put, List.setIfInBounds_toArray, List.set_cons_zero, List.set_cons_succ]
    refine quiet_take (v := ?_) (by rfl) ?_ ?_
    rotate_left
    · (intro w hSw; (try dsimp only at hSw); go_simp); all_goals (with_reducible rfl)
    try simp only [Act.put, List.setIfInBounds_toArray, List.set_cons_zero, List.set_cons_succ]
    refine quiet_take (v := ?_) (by rfl) ?_ ?_
    rotate_left
    · (intro w hSw; (try dsimp only at hSw); go_simp); all_goals (with_reducible rfl)
    try simp only [Act.put, List.setIfInBounds_toArray, List.set_cons_zero, List.set_cons_succ]
    refine quiet_take (v := ?_) (by rfl) ?_ ?_
    rotate_left
    · (intro w hSw; (try dsimp only at hSw); go_simp); all_goals (with_reducible rfl)
    try simp only [Act.put, List.setIfInBounds_toArray, List.set_cons_zero, List.set_cons_succ]
    refine quiet_call (f := 117) (args := ?_) (v := .int .i64 en1) (by rfl) ?_ ?_ ?_
    rotate_left
    · (intro w hSw; (try dsimp only at hSw); go_simp); all_goals (with_reducible rfl)
    · (intro W hSw); refine (cN1 W).mono ?_; rintro e W' ⟨rfl, hk⟩; exact ⟨rfl, hpres W W' hSw hk⟩
    try simp only [Act.put, List.setIfInBounds_toArray, List.set_cons_zero, List.set_cons_succ]
    refine quiet_take (v := ?_) (by rfl) ?_ ?_
    rotate_left
    · (intro w hSw; (try dsimp only at hSw); go_simp); all_goals (with_reducible rfl)
    try simp only [Act.put, List.setIfInBounds_toArray, List.set_cons_zero, List.set_cons_succ]
    refine quiet_take (v := ?_) (by rfl) ?_ ?_
    rotate_left
    · (intro w hSw; (try dsimp only at hSw); go_simp); all_goals (with_reducible rfl)
    try simp only [Act.put, List.setIfInBounds_toArray, List.set_cons_zero, List.set_cons_succ]
    refine quiet_take (v := ?_) (by rfl) ?_ ?_
    rotate_left
    · (intro w hSw; (try dsimp only at hSw); go_simp); all_goals (with_reducible rfl)
    try simp only [Act.put, List.setIfInBounds_toArray, List.set_cons_zero, List.set_cons_succ]
    refine quiet_take (v := ?_) (by rfl) ?_ ?_
    rotate_left
    · (intro w hSw; (try dsimp only at hSw); go_simp); all_goals (with_reducible rfl)
    try simp only [Act.put, List.setIfInBounds_toArray, List.set_cons_zero, List.set_cons_succ]
    refine quiet_take (v := ?_) (by rfl) ?_ ?_
    rotate_left
    · (intro w hSw; (try dsimp only at hSw); go_simp); all_goals (with_reducible rfl)
    try simp only [Act.put, List.setIfInBounds_toArray, List.set_cons_zero, List.set_cons_succ]
    refine quiet_take (v := ?_) (by rfl) ?_ ?_
    rotate_left
    · (intro w hSw; (try dsimp only at hSw); go_simp); all_goals (with_reducible rfl)
    try simp only [Act.put, List.setIfInBounds_toArray, List.set_cons_zero, List.set_cons_succ]
    refine quiet_take (v := ?_) (by rfl) ?_ ?_
    rotate_left
    · (intro w hSw; (try dsimp only at hSw); go_simp); all_goals (with_reducible rfl)
    try simp only [Act.put, List.setIfInBounds_toArray, List.set_cons_zero, List.set_cons_succ]
    refine quiet_call (f := 113) (args := ?_) (v := .int .i64 ee) (by rfl) ?_ ?_ ?_
    rotate_left
    · (intro w hSw; (try dsimp only at hSw); go_simp); all_goals (with_reducible rfl)
    · (intro W hSw); refine (cE W).mono ?_; rintro e W' ⟨rfl, rfl⟩; exact ⟨rfl, hSw⟩
    try simp only [Act.put, List.setIfInBounds_toArray, List.set_cons_zero, List.set_cons_succ]
    refine quiet_take (v := ?_) (by rfl) ?_ ?_
    rotate_left
    · (intro w hSw; (try dsimp only at hSw); go_simp); all_goals (with_reducible rfl)
    try simp only [Act.put, List.setIfInBounds_toArray, List.set_cons_zero, List.set_cons_succ]
    refine quiet_take (v := ?_) (by rfl) ?_ ?_
    rotate_left
    · (intro w hSw; (try dsimp only at hSw); go_simp); all_goals (with_reducible rfl)
    try simp only [Act.put, List.setIfInBounds_toArray, List.set_cons_zero, List.set_cons_succ]
    refine quiet_take (v := ?_) (by rfl) ?_ ?_
    rotate_left
    · (intro w hSw; (try dsimp only at hSw); go_simp); all_goals (with_reducible rfl)
    try simp only [Act.put, List.setIfInBounds_toArray, List.set_cons_zero, List.set_cons_succ]
    refine quiet_call (f := 94) (args := ?_) (v := .int .i64 es0) (by rfl) ?_ ?_ ?_
    rotate_left
    · (intro w hSw; (try dsimp only at hSw); go_simp); all_goals (with_reducible rfl)
    · (intro W hSw); refine (cS0 W).mono ?_; rintro e W' ⟨rfl, rfl⟩; exact ⟨rfl, hSw⟩
    try simp only [Act.put, List.setIfInBounds_toArray, List.set_cons_zero, List.set_cons_succ]
    refine quiet_take (v := ?_) (by rfl) ?_ ?_
    rotate_left
    · (intro w hSw; (try dsimp only at hSw); go_simp); all_goals (with_reducible rfl)
    try simp only [Act.put, List.setIfInBounds_toArray, List.set_cons_zero, List.set_cons_succ]
    refine quiet_take (v := ?_) (by rfl) ?_ ?_
    rotate_left
    · (intro w hSw; (try dsimp only at hSw); go_simp); all_goals (with_reducible rfl)
    try simp only [Act.put, List.setIfInBounds_toArray, List.set_cons_zero, List.set_cons_succ]
    refine quiet_take (v := ?_) (by rfl) ?_ ?_
    rotate_left
    · (intro w hSw; (try dsimp only at hSw); go_simp); all_goals (with_reducible rfl)
    try simp only [Act.put, List.setIfInBounds_toArray, List.set_cons_zero, List.set_cons_succ]
    refine quiet_call (f := 94) (args := ?_) (v := .int .i64 es1) (by rfl) ?_ ?_ ?_
    rotate_left
    · (intro w hSw; (try dsimp only at hSw); go_simp); all_goals (with_reducible rfl)
    · (intro W hSw); refine (cS1 W).mono ?_; rintro e W' ⟨rfl, rfl⟩; exact ⟨rfl, hSw⟩
    try simp only [Act.put, List.setIfInBounds_toArray, List.set_cons_zero, List.set_cons_succ]
    refine quiet_take (v := ?_) (by rfl) ?_ ?_
    rotate_left
    · (intro w hSw; (try dsimp only at hSw); go_simp); all_goals (with_reducible rfl)
    try simp only [Act.put, List.setIfInBounds_toArray, List.set_cons_zero, List.set_cons_succ]
    refine quiet_take (v := ?_) (by rfl) ?_ ?_
    rotate_left
    · (intro w hSw; (try dsimp only at hSw); go_simp); all_goals (with_reducible rfl)
    try simp only [Act.put, List.setIfInBounds_toArray, List.set_cons_zero, List.set_cons_succ]
    refine quiet_take (v := ?_) (by rfl) ?_ ?_
    rotate_left
    · (intro w hSw; (try dsimp only at hSw); go_simp); all_goals (with_reducible rfl)
    try simp only [Act.put, List.setIfInBounds_toArray, List.set_cons_zero, List.set_cons_succ]
    refine quiet_take (v := ?_) (by rfl) ?_ ?_
    rotate_left
    · (intro w hSw; (try dsimp only at hSw); go_simp); all_goals (with_reducible rfl)
    try simp only [Act.put, List.setIfInBounds_toArray, List.set_cons_zero, List.set_cons_succ]
    refine quiet_call (f := 113) (args := ?_) (v := .int .i64 el) (by rfl) ?_ ?_ ?_
    rotate_left
    · (intro w hSw; (try dsimp only at hSw); go_simp); all_goals (with_reducible rfl)
    · (intro W hSw); refine (cL W).mono ?_; rintro e W' ⟨rfl, rfl⟩; exact ⟨rfl, hSw⟩
    try simp only [Act.put, List.setIfInBounds_toArray, List.set_cons_zero, List.set_cons_succ]
    refine wpQuiet_nil ?_
    intro W hSw
    refine wpAny_of_held (S := fun _ => True) _ _ _ _ ?_
    refine wpAnyH_ready (rs := [38]) (by kernel_rfl) (by simp) ?_
    refine AllReadyH.cons (o := _) rfl (fun K hK => ?_) ?_
    · -- buildSlice
      go_simp
      refine hK.out _ _ trivial (fun _ => ?_)
      clear hK K
      try simp only [List.setIfInBounds_toArray, List.set_cons_zero, List.set_cons_succ]
      refine wpAnyH_ready (rs := [39]) (by kernel_rfl) (by simp) ?_
      refine AllReadyH.cons (o := _) rfl (fun K hK => ?_) ?_
      · -- 88
        go_simp
        refine Calls.mono (cF _ _ (by simp) (by simp) (by simp) (by simp) (by simp) (by simp) (by simp) (by simp) (by simp)) ?_; rintro e w' ⟨rfl, rfl⟩
        refine hK.out _ _ trivial (fun _ => ?_)
        clear hK K
        try simp only [List.setIfInBounds_toArray, List.set_cons_zero, List.set_cons_succ]
        refine wpAnyH_ready (rs := [40]) (by kernel_rfl) (by simp) ?_
        refine AllReadyH.cons (o := _) rfl (fun K hK => ?_) ?_
        · -- assign
          go_simp
          refine hK.out _ _ trivial (fun _ => ?_)
          clear hK K
          try simp only [List.setIfInBounds_toArray, List.set_cons_zero, List.set_cons_succ]
          refine wpAnyH_done (by kernel_rfl) ?_ _
          go_wp2_with fail
          go_meet
          exact ⟨rfl, hSw.2.alloc hSw.2.size _⟩
        exact AllReadyH.nil
      exact AllReadyH.nil
    exact AllReadyH.nil
  case rest =>
    obtain ⟨rfl, hbA⟩ := hcut
    have hB3 : Below w.heap.size w wc := hB.trans (hbA.mono hB.size)
    clear cN cN0 cN1 cV cD cS0 cS1 cE cL cF x0 x1 x2 x3 x4 x5 x6 x7 hdr hpres HL
    obtain ⟨v1, hv1⟩ : ∃ v1, fstE [en, ev, ed, en0, en1, ee, es0, es1, el] = v1 := ⟨_, rfl⟩
    have HV : Hid (fstE (headL g) = v1) := Lib.hid (by rw [HH.out, hv1])
    rw [hv1]
    clear hv1 HH
    by_cases h0 : v1 = 0
    · subst h0
      have HS : Hid (R = linesE g.t0 g.t1 g.l 0 (g.k - 0)) := Lib.hid (by rw [← HR.out]; unfold gmE; rw [HV.out, if_pos rfl]; rfl)
      clear HV HR
      obtain ⟨-, -, -, -, -, -, -, z7⟩ := (box8 (hx.below hbA hx.lt)).1
      go_wp2_with fail
      go_loopw [54] (fun s wr => ∃ i : Nat, i ≤ g.k ∧ s = .int .i64 i ∧ Hid (R = linesE g.t0 g.t1 g.l i (g.k - i)) ∧ Below W2.heap.size W2 wr) (fun s _ => g.k - (numOf' s).toNat)
      case atStart => exact ⟨0, Nat.zero_le _, rfl, HS, hbA⟩
      case round =>
        try clear HS
        clear z7 hbA hB3
        obtain ⟨i, hi, rfl, hE, hb⟩ := hrel
        by_cases hik : i < g.k
        · obtain ⟨⟨z0, z1, z2, z3, z4, z5, z6, z7⟩, -⟩ := box8 (hx.below hb hx.lt)
          obtain ⟨b, off, c, e, hkc, p0, p1, pc⟩ := (hlB.below hb).at hik
          simp only [Value.slice.injEq, true_and] at e
          obtain ⟨rfl, rfl⟩ := e
          have hc0 := pc 0 (by omega)
          have hc1 := pc 1 (by omega)
          have hc2 := pc 2 (by omega)
          have hc3 := pc 3 (by omega)
          have hc4 := pc 4 (by omega)
          have hc5 := pc 5 (by omega)
          have hc6 := pc 6 (by omega)
          have hc7 := pc 7 (by omega)
          have hc8 := pc 8 (by omega)
          have hc9 := pc 9 (by omega)
          have hc10 := pc 10 (by omega)
          have hc11 := pc 11 (by omega)
          simp only [Nat.reduceAdd] at hc0 hc1 hc2 hc3 hc4 hc5 hc6 hc7 hc8 hc9 hc10 hc11
          have hii : (i : Int) < (g.k : Int) := by omega
          have hbn : Below W2.heap.size W2 (wr.alloc (.cells (g.l i).arr 132)) := hb.alloc hb.size _
          have hy := at_new wr (g.l i).arr 132
          obtain ⟨W5, hW5⟩ : ∃ W5, wr.alloc (.cells (g.l i).arr 132) = W5 := ⟨_, rfl⟩
          rw [hW5] at hbn hy
          unfold LnD.arr at hW5
          clear pc
          obtain ⟨late, hlate⟩ : ∃ b, lateB g.l i = b := ⟨_, rfl⟩
          have hs : linesE g.t0 g.t1 g.l i (g.k - i) = if lineE g.t0 g.t1 (g.l i) = 0 then (if late = true then 11 else linesE g.t0 g.t1 g.l (i + 1) (g.k - (i + 1))) else lineE g.t0 g.t1 (g.l i) := by
            rw [show g.k - i = (g.k - (i + 1)) + 1 by omega, linesE, hlate]
          have HE2 := Lib.hid (hE.out.trans hs)
          clear hE hs
          go_wp2_with fail
          try rw [hW5]
          clear hW5 p0 p1 hc0 hc1 hc2 hc3 hc4 hc5 hc6 hc7 hc8 hc9 hc10 hc11 z0 z1 z2 z3 z4 z5 z6 z7
          obtain ⟨⟨z0, z1, z2, z3, z4, z5, z6, z7⟩, -⟩ := box8 (hx.below hbn hx.lt)
          obtain ⟨y0, y1, y2, y3, y4, y5, y6, y7, y8, y9, y10, y11, y12, y13⟩ := box14 hy
          go_cut [6] (fun s6 wx => s6 = .bool late ∧ ∃ n, wx = W5.drewN n)
          case first =>
            match i, hik with
            | 0, _ =>
              obtain rfl : false = late := hlate
              go_quiet (fail)
              go_wp2_with fail
              go_meet
              exact ⟨rfl, _, rfl⟩
            | j + 1, hj1 =>
              obtain ⟨b', off', c', e', -, p0, -⟩ := (hlB.below hbn).at (show j < g.k by omega)
              simp only [Value.slice.injEq, true_and, Option.some.injEq, Addr.mk.injEq, and_true] at e'
              obtain ⟨⟨rfl, rfl⟩, rfl⟩ := e'
              have i1 : (0:Int) < ((j + 1 : Nat) : Int) := by omega
              have i2 : ((j + 1 : Nat) : Int) - 1 = (j : Int) := by omega
              have i3 : (j : Int) < (g.k : Int) := by omega
              have i4 : IntKind.i64.wrap (j : Int) = (j : Int) := IntWalk.i64_in _ (by omega)
              have i5 : IntKind.i64.wrap ((j : Int) + 1 - 1) = (j : Int) := by rw [IntWalk.i64_in _ (by omega)]; omega
              have i7 : max (0 : Int) (j : Int) = (j : Int) := by omega
              have i8 : (0 : Int) ≤ (j : Int) := by omega
              have l1 : (bA (g.l (j + 1)).p).toList = (g.l (j + 1)).p := bA_list _
              have l2 : (bA (g.l j).p).toList = (g.l j).p := bA_list _
              have hlt : (bytesLess (g.l (j + 1)).p (g.l j).p || (g.l (j + 1)).p == (g.l j).p) = late := by
                rw [← hlate]; unfold lateB; rw [decide_eq_true (by omega : 0 < j + 1), Bool.true_and]; rfl
              clear hlate HE2
              cases late with
              | true =>
                go_quiet (fail)
                go_wp2_with fail
                go_meet
                exact ⟨rfl, _, rfl⟩
              | false =>
                go_quiet (fail)
                go_wp2_with fail
                go_meet
                exact ⟨rfl, _, rfl⟩
          case rest =>
            obtain ⟨rfl, nq, rfl⟩ := hcut
            have hb6 : Below W2.heap.size W2 (W5.drewN nq) := belowN hbn nq
            have hy6 : At (W5.drewN nq) wr.heap.size (g.l i).arr 132 := hy
            have hx6 : At (W5.drewN nq) w.heap.size #[.string (bA g.nm), .int .i64 g.ver, .int .i64 g.day, .string (bA g.t0), .string (bA g.t1), .int .i64 g.s0, .int .i64 g.s1, .slice (some ⟨b, off, none⟩) g.k kc] 110 := hx.below hb6 hx.lt
            clear z0 z1 z2 z3 z4 z5 z6 z7 y0 y1 y2 y3 y4 y5 y6 y7 y8 y9 y10 y11 y12 y13 hlate
            generalize W5.drewN nq = W6 at hb6 hy6 hx6 ⊢
            obtain ⟨⟨z0, z1, z2, z3, z4, z5, z6, z7⟩, -⟩ := box8 hx6
            obtain ⟨y0, y1, y2, y3, y4, y5, y6, y7, y8, y9, y10, y11, y12, y13⟩ := box14 hy6
            have cLn := line_w g (g.l i) (.slice (some ⟨b, off, none⟩) g.k kc)
            unfold GmD.val LnD.val at cLn
            have cW := when_w late 11
            obtain ⟨L, hL⟩ : ∃ L, lineE g.t0 g.t1 (g.l i) = L := ⟨_, rfl⟩
            obtain ⟨lt, hlt⟩ : ∃ lt : Int, (if late = true then 11 else 0) = lt := ⟨_, rfl⟩
            rw [hL] at cLn HE2
            rw [hlt] at cW
            have cF := first2_w L lt
            obtain ⟨v, hv⟩ : ∃ v, fstE [L, lt] = v := ⟨_, rfl⟩
            rw [hv] at cF
            have HZ : Hid ((v = 0 → R = linesE g.t0 g.t1 g.l (i + 1) (g.k - (i + 1))) ∧ (v ≠ 0 → R = v)) := Lib.hid (by
              rw [HE2.out, ← hv, ← hlt]
              unfold fstE fstE fstE
              by_cases hL0 : L = 0
              · simp only [hL0, if_true]
                cases late with
                | true => simp
                | false => simp
              · simp [hL0])
            clear hL hlt hv HE2 hx6 hy6 hy hbn hb
            go_wp2_with fail
            refine (cLn _).mono ?_
            rintro e W7 ⟨rfl, hk6⟩
            have hb7 : Below W2.heap.size W2 W7 := hb6.trans (hk6.mono hb6.size)
            clear z0 z1 z2 z3 z4 z5 z6 z7 y0 y1 y2 y3 y4 y5 y6 y7 y8 y9 y10 y11 y12 y13 hk6 hb6 cLn
            go_wp2_with fail
            refine (cW _).mono ?_
            rintro e w' ⟨rfl, rfl⟩
            go_wp2_with fail
            refine (cF _ _ (by simp) (by simp)).mono ?_
            rintro e w' ⟨rfl, rfl⟩
            have hb8 := fun o => hb7.alloc hb7.size o
            by_cases hv0 : v = 0
            · have HR2 := Lib.hid (HZ.out.1 hv0)
              subst hv0
              clear HZ
              go_wp2_with fail
              go_roundw
              case rel => exact ⟨i + 1, by omega, by go_num, HR2, hb8 _⟩
              case measure => simp [numOf'] <;> omega
            · have HR2 := Lib.hid (HZ.out.2 hv0)
              have hv' : (v != 0) = true := by simpa using hv0
              have hb9 := fun o => hB.trans ((hb8 o).mono hB.size)
              clear HZ
              go_wp2_with fail
              go_ret
              exact ⟨by rw [HR2.out]; try rfl, hb9 _⟩
        · obtain rfl : i = g.k := by omega
          have hE2 : Hid (R = 0) := Lib.hid (by rw [hE.out, Nat.sub_self, linesE])
          have hB4 : Below w.heap.size w wr := hB.trans (hb.mono hB.size)
          clear hE
          go_wp2_with fail
          go_ret
          exact ⟨by rw [hE2.out]; try rfl, hB4⟩
    · have h0' : (v1 != 0) = true := by simpa using h0
      have hE2 : Hid (R = v1) := Lib.hid (by rw [← HR.out]; unfold gmE; rw [HV.out, if_neg h0])
      clear HV HR
      go_wp2_with fail
      go_ret
      exact ⟨by rw [hE2.out]; try rfl, hB3⟩
end Go.Proofs.Tryz
