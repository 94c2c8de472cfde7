/- A game checked by the reference: by the kit's walk. -/
import Derived.Test.YtbfonnoebbjenaaGreatDoorAxI
namespace Go.Proofs.Tryz
open Go Go.Am Go.RowKit Go.Op
set_option maxRecDepth 100000

theorem firstR5_w (e0 e1 e2 e3 e4 : Int) (b : Nat) (W : World) (h0 : W.cell? ⟨b, 0, none⟩ = some (.int .i64 e0)) (h1 : W.cell? ⟨b, 1, none⟩ = some (.int .i64 e1)) (h2 : W.cell? ⟨b, 2, none⟩ = some (.int .i64 e2)) (h3 : W.cell? ⟨b, 3, none⟩ = some (.int .i64 e3)) (h4 : W.cell? ⟨b, 4, none⟩ = some (.int .i64 e4)) :
    Calls prog 22 #[.slice (some ⟨b, 0, none⟩) 5 5] W fun e w' => e = .returned (.int .i64 (fstE [e0, e1, e2, e3, e4])) ∧ w' = W :=
  firstR_w [e0, e1, e2, e3, e4] b 5 W (by simp) fun j z h => by
    match j, h with
    | 0, h => simp at h; subst h; exact h0
    | 1, h => simp at h; subst h; exact h1
    | 2, h => simp at h; subst h; exact h2
    | 3, h => simp at h; subst h; exact h3
    | 4, h => simp at h; subst h; exact h4
    | j + 5, h => simp at h
theorem firstR2_w (e0 e1 : Int) (b : Nat) (W : World) (h0 : W.cell? ⟨b, 0, none⟩ = some (.int .i64 e0)) (h1 : W.cell? ⟨b, 1, none⟩ = some (.int .i64 e1)) :
    Calls prog 22 #[.slice (some ⟨b, 0, none⟩) 2 2] W fun e w' => e = .returned (.int .i64 (fstE [e0, e1])) ∧ w' = W :=
  firstR_w [e0, e1] b 2 W (by simp) fun j z h => by
    match j, h with
    | 0, h => simp at h; subst h; exact h0
    | 1, h => simp at h; subst h; exact h1
    | j + 2, h => simp at h
theorem fstE_append (a b : List Int) : fstE (a ++ b) = if fstE a = 0 then fstE b else fstE a := by
  induction a with
  | nil => simp [fstE]
  | cons x a ih =>
    simp only [List.cons_append, fstE]
    by_cases h : x = 0
    · simp only [h, if_true]; exact ih
    · simp [h]
theorem linesE_step (g : GmD) (i k : Nat) : linesE g.t0 g.t1 g.l i (k + 1) = if ansE g i = 0 then linesE g.t0 g.t1 g.l (i + 1) k else ansE g i := by
  rw [linesE]
  unfold ansE
  by_cases h : lineE g.t0 g.t1 (g.l i) = 0
  · cases h2 : lateB g.l i <;> simp [h]
  · simp [h]

set_option maxHeartbeats 6400000 in
theorem gameR_w {g : GmD} {ad : Option Addr} {kc : Nat} {w : World} (hl : IsLines w (.slice ad g.k kc) g.l g.k) (hk : g.k ≤ 100000) :
    Calls prog 57 #[g.val (.slice ad g.k kc)] w fun e w' => e = .returned (.int .i64 (gmE g)) ∧ Below w.heap.size w w' := by
  have hB : Below w.heap.size w (w.alloc (.cells (g.arr (.slice ad g.k kc)) 105)) := (Below.refl _ _).alloc (Nat.le_refl _) _
  have hx := at_new w (g.arr (.slice ad g.k kc)) 105
  have hlB := hl.below hB
  obtain ⟨W2, hW⟩ : ∃ W2, w.alloc (.cells (g.arr (.slice ad g.k kc)) 105) = W2 := ⟨_, rfl⟩
  rw [hW] at hB hx hlB
  unfold GmD.arr at hW hx
  obtain ⟨⟨x0, x1, x2, x3, x4, x5, x6, x7⟩, -⟩ := box8 hx
  have hdr : Below W2.heap.size W2 W2.drew := (Below.refl _ _).drew
  have cN := nameE_w g.nm
  have cN0 := nameE_w g.t0
  have cN1 := nameE_w g.t1
  have cV := rangeR_w g.ver 1 999999999
  have cD := rangeR_w g.day 0 99999
  have cS0 := rangeR_w g.s0 0 999
  have cS1 := rangeR_w g.s1 0 999
  have cLn : ∀ (W : World) (i : Nat), IsLines W (.slice ad g.k kc) g.l g.k → i < g.k → g.k ≤ 1000 → Calls prog 123 #[g.val (.slice ad g.k kc), .int .i64 (i : Int)] W fun e w' => e = .returned (.int .i64 (ansE g i)) ∧ Below W.heap.size W w' := fun W i h1 h2 h3 => lineR_w h1 h2 h3
  unfold GmD.val at cLn ⊢
  have HH : Hid (fstE (headL g) = if fstE [nmE g.nm, inE g.ver 1 999999999, inE g.day 0 99999, nmE g.t0, nmE g.t1] = 0 then (if g.t0 = g.t1 then 9 else if fstE [inE g.s0 0 999, inE g.s1 0 999] = 0 then (if 60 < g.k then 5 else 0) else fstE [inE g.s0 0 999, inE g.s1 0 999]) else fstE [nmE g.nm, inE g.ver 1 999999999, inE g.day 0 99999, nmE g.t0, nmE g.t1]) := Lib.hid (by
    show fstE ([nmE g.nm, inE g.ver 1 999999999, inE g.day 0 99999, nmE g.t0, nmE g.t1] ++ ([if g.t0 = g.t1 then 9 else 0] ++ ([inE g.s0 0 999, inE g.s1 0 999] ++ [if 60 < g.k then 5 else 0]))) = _
    rw [fstE_append, fstE_append, fstE_append]
    have e1 : fstE [if g.t0 = g.t1 then 9 else 0] = if g.t0 = g.t1 then 9 else 0 := by
      unfold fstE fstE; by_cases h : g.t0 = g.t1 <;> simp [h]
    have e2 : fstE [if 60 < g.k then 5 else 0] = if 60 < g.k then 5 else 0 := by
      unfold fstE fstE; by_cases h : 60 < g.k <;> simp [h]
    rw [e1, e2]
    by_cases h : g.t0 = g.t1
    · simp [h]
    · simp [h])
  obtain ⟨en, hen⟩ : ∃ x, nmE g.nm = x := ⟨_, rfl⟩
  obtain ⟨en0, hen0⟩ : ∃ x, nmE g.t0 = x := ⟨_, rfl⟩
  obtain ⟨en1, hen1⟩ : ∃ x, nmE g.t1 = x := ⟨_, rfl⟩
  obtain ⟨ev, hev⟩ : ∃ x, inE g.ver 1 999999999 = x := ⟨_, rfl⟩
  obtain ⟨ed, hed⟩ : ∃ x, inE g.day 0 99999 = x := ⟨_, rfl⟩
  obtain ⟨es0, hes0⟩ : ∃ x, inE g.s0 0 999 = x := ⟨_, rfl⟩
  obtain ⟨es1, hes1⟩ : ∃ x, inE g.s1 0 999 = x := ⟨_, rfl⟩
  rw [hen, hen0, hen1, hev, hed, hes0, hes1] at HH
  rw [hen] at cN
  rw [hen0] at cN0
  rw [hen1] at cN1
  rw [hev] at cV
  rw [hed] at cD
  rw [hes0] at cS0
  rw [hes1] at cS1
  clear hen hen0 hen1 hev hed hes0 hes1
  have cF := firstR5_w en ev ed en0 en1
  have cG := firstR2_w es0 es1
  have l2 : (bA g.t0).toList = g.t0 := bA_list _
  have l3 : (bA g.t1).toList = g.t1 := bA_list _
  obtain ⟨R, hR⟩ : ∃ R, gmE g = R := ⟨_, rfl⟩
  have HR : Hid (R = if fstE (headL g) = 0 then linesE g.t0 g.t1 g.l 0 g.k else fstE (headL g)) := Lib.hid (by rw [← hR]; rfl)
  rw [hR]
  clear hR
  go_enter func57, ntmps57
  go_wp2_with fail
  try rw [hW]
  clear hW
  go_cut [3] (fun s3 wx => s3 = .int .i64 (fstE [en, ev, ed, en0, en1]) ∧ Below W2.heap.size W2 wx)
  case first =>
    clear HH HR
    refine wp_region_quiet_to (C := (fun W => ((W.cell? ⟨w.heap.size, 0, none⟩ = some (.string (bA g.nm)) ∧ W.cell? ⟨w.heap.size, 1, none⟩ = some (.int .i64 g.ver) ∧ W.cell? ⟨w.heap.size, 2, none⟩ = some (.int .i64 g.day) ∧ W.cell? ⟨w.heap.size, 3, none⟩ = some (.string (bA g.t0)) ∧ W.cell? ⟨w.heap.size, 4, none⟩ = some (.string (bA g.t1)) ∧ W.cell? ⟨w.heap.size, 5, none⟩ = some (.int .i64 g.s0) ∧ W.cell? ⟨w.heap.size, 6, none⟩ = some (.int .i64 g.s1) ∧ W.cell? ⟨w.heap.size, 7, none⟩ = some (.slice ad g.k kc)) ∧ Below W2.heap.size W2 W))) 17 3 #[true, true, true, true, true, true, true, true, true, true, true, true, true, true, true, true, true, false, false, false] (by kernel_rfl) (by kernel_rfl) ?_ ?_
    · (try dsimp only)
      exact ⟨⟨x0, x1, x2, x3, x4, x5, x6, x7⟩, hdr⟩
    simp only [List.take_succ_cons, List.take_zero]
    refine quiet_take (v := ?_) (by rfl) ?_ ?_
    rotate_left
    · (intro w hSw; (try dsimp only at hSw); go_simp); all_goals (with_reducible rfl)
    try simp only [Act.put, List.setIfInBounds_toArray, List.set_cons_zero, List.set_cons_succ]
    refine quiet_take (v := ?_) (by rfl) ?_ ?_
    rotate_left
    · (intro w hSw; (try dsimp only at hSw); go_simp); all_goals (with_reducible rfl)
    try simp only [Act.put, List.setIfInBounds_toArray, List.set_cons_zero, List.set_cons_succ]
    refine quiet_call (f := 48) (args := ?_) (v := .int .i64 en) (by rfl) ?_ ?_ ?_
    rotate_left
    · (intro w hSw; (try dsimp only at hSw); go_simp); all_goals (with_reducible rfl)
    · (intro W hSw); refine (cN W).mono ?_; rintro e W' ⟨rfl, rfl⟩; exact ⟨rfl, hSw⟩
    try simp only [Act.put, List.setIfInBounds_toArray, List.set_cons_zero, List.set_cons_succ]
    refine quiet_take (v := ?_) (by rfl) ?_ ?_
    rotate_left
    · (intro w hSw; (try dsimp only at hSw); go_simp); all_goals (with_reducible rfl)
    try simp only [Act.put, List.setIfInBounds_toArray, List.set_cons_zero, List.set_cons_succ]
    refine quiet_take (v := ?_) (by rfl) ?_ ?_
    rotate_left
    · (intro w hSw; (try dsimp only at hSw); go_simp); all_goals (with_reducible rfl)
    try simp only [Act.put, List.setIfInBounds_toArray, List.set_cons_zero, List.set_cons_succ]
    refine quiet_call (f := 33) (args := ?_) (v := .int .i64 ev) (by rfl) ?_ ?_ ?_
    rotate_left
    · (intro w hSw; (try dsimp only at hSw); go_simp); all_goals (with_reducible rfl)
    · (intro W hSw); refine (cV W).mono ?_; rintro e W' ⟨rfl, rfl⟩; exact ⟨rfl, hSw⟩
    try simp only [Act.put, List.setIfInBounds_toArray, List.set_cons_zero, List.set_cons_succ]
    refine quiet_take (v := ?_) (by rfl) ?_ ?_
    rotate_left
    · (intro w hSw; (try dsimp only at hSw); go_simp); all_goals (with_reducible rfl)
    try simp only [Act.put, List.setIfInBounds_toArray, List.set_cons_zero, List.set_cons_succ]
    refine quiet_take (v := ?_) (by rfl) ?_ ?_
    rotate_left
    · (intro w hSw; (try dsimp only at hSw); go_simp); all_goals (with_reducible rfl)
    try simp only [Act.put, List.setIfInBounds_toArray, List.set_cons_zero, List.set_cons_succ]
    refine quiet_call (f := 33) (args := ?_) (v := .int .i64 ed) (by rfl) ?_ ?_ ?_
    rotate_left
    · (intro w hSw; (try dsimp only at hSw); go_simp); all_goals (with_reducible rfl)
    · (intro W hSw); refine (cD W).mono ?_; rintro e W' ⟨rfl, rfl⟩; exact ⟨rfl, hSw⟩
    try simp only [Act.put, List.setIfInBounds_toArray, List.set_cons_zero, List.set_cons_succ]
    refine quiet_take (v := ?_) (by rfl) ?_ ?_
    rotate_left
    · (intro w hSw; (try dsimp only at hSw); go_simp); all_goals (with_reducible rfl)
    try simp only [Act.put, List.setIfInBounds_toArray, List.set_cons_zero, List.set_cons_succ]
    refine quiet_take (v := ?_) (by rfl) ?_ ?_
    rotate_left
    · (intro w hSw; (try dsimp only at hSw); go_simp); all_goals (with_reducible rfl)
    try simp only [Act.put, List.setIfInBounds_toArray, List.set_cons_zero, List.set_cons_succ]
    refine quiet_take (v := ?_) (by rfl) ?_ ?_
    rotate_left
    · (intro w hSw; (try dsimp only at hSw); go_simp); all_goals (with_reducible rfl)
    try simp only [Act.put, List.setIfInBounds_toArray, List.set_cons_zero, List.set_cons_succ]
    refine quiet_call (f := 48) (args := ?_) (v := .int .i64 en0) (by rfl) ?_ ?_ ?_
    rotate_left
    · (intro w hSw; (try dsimp only at hSw); go_simp); all_goals (with_reducible rfl)
    · (intro W hSw); refine (cN0 W).mono ?_; rintro e W' ⟨rfl, rfl⟩; exact ⟨rfl, hSw⟩
    try simp only [Act.put, List.setIfInBounds_toArray, List.set_cons_zero, List.set_cons_succ]
    refine quiet_take (v := ?_) (by rfl) ?_ ?_
    rotate_left
    · (intro w hSw; (try dsimp only at hSw); go_simp); all_goals (with_reducible rfl)
    try simp only [Act.put, List.setIfInBounds_toArray, List.set_cons_zero, List.set_cons_succ]
    refine quiet_take (v := ?_) (by rfl) ?_ ?_
    rotate_left
    · (intro w hSw; (try dsimp only at hSw); go_simp); all_goals (with_reducible rfl)
    try simp only [Act.put, List.setIfInBounds_toArray, List.set_cons_zero, List.set_cons_succ]
    refine quiet_take (v := ?_) (by rfl) ?_ ?_
    rotate_left
    · (intro w hSw; (try dsimp only at hSw); go_simp); all_goals (with_reducible rfl)
    try simp only [Act.put, List.setIfInBounds_toArray, List.set_cons_zero, List.set_cons_succ]
    refine quiet_call (f := 48) (args := ?_) (v := .int .i64 en1) (by rfl) ?_ ?_ ?_
    rotate_left
    · (intro w hSw; (try dsimp only at hSw); go_simp); all_goals (with_reducible rfl)
    · (intro W hSw); refine (cN1 W).mono ?_; rintro e W' ⟨rfl, rfl⟩; exact ⟨rfl, hSw⟩
    try simp only [Act.put, List.setIfInBounds_toArray, List.set_cons_zero, List.set_cons_succ]
    refine wpQuiet_nil ?_
    intro W hSw
    refine wpAny_of_held (S := fun _ => True) _ _ _ _ ?_
    refine wpAnyH_ready (rs := [17]) (by kernel_rfl) (by simp) ?_
    refine AllReadyH.cons (o := _) rfl (fun K hK => ?_) ?_
    · -- buildSlice
      go_simp
      refine hK.out _ _ trivial (fun _ => ?_)
      clear hK K
      try simp only [List.setIfInBounds_toArray, List.set_cons_zero, List.set_cons_succ]
      refine wpAnyH_ready (rs := [18]) (by kernel_rfl) (by simp) ?_
      refine AllReadyH.cons (o := _) rfl (fun K hK => ?_) ?_
      · -- 22
        go_simp
        refine Calls.mono (cF _ _ (by simp) (by simp) (by simp) (by simp) (by simp)) ?_; rintro e w' ⟨rfl, rfl⟩
        refine hK.out _ _ trivial (fun _ => ?_)
        clear hK K
        try simp only [List.setIfInBounds_toArray, List.set_cons_zero, List.set_cons_succ]
        refine wpAnyH_ready (rs := [19]) (by kernel_rfl) (by simp) ?_
        refine AllReadyH.cons (o := _) rfl (fun K hK => ?_) ?_
        · -- assign
          go_simp
          refine hK.out _ _ trivial (fun _ => ?_)
          clear hK K
          try simp only [List.setIfInBounds_toArray, List.set_cons_zero, List.set_cons_succ]
          refine wpAnyH_done (by kernel_rfl) ?_ _
          go_wp2_with fail
          go_meet
          exact ⟨rfl, hSw.2.alloc hSw.2.size _⟩
        exact AllReadyH.nil
      exact AllReadyH.nil
    exact AllReadyH.nil
  case rest =>
    obtain ⟨rfl, hbA⟩ := hcut
    have hB3 : Below w.heap.size w wc := hB.trans (hbA.mono hB.size)
    clear cN cN0 cN1 cV cD cF x0 x1 x2 x3 x4 x5 x6 x7 hdr
    obtain ⟨v1, hv1⟩ : ∃ v1, fstE [en, ev, ed, en0, en1] = v1 := ⟨_, rfl⟩
    rw [hv1] at HH ⊢
    clear hv1
    by_cases h0 : v1 = 0
    · subst h0
      rw [if_pos rfl] at HH
      obtain ⟨⟨x0, x1, x2, x3, x4, x5, x6, x7⟩, -⟩ := box8 (hx.below hbA hx.lt)
      by_cases hq : g.t0 = g.t1
      · have hE2 : Hid (R = 9) := Lib.hid (by rw [HR.out, HH.out, if_pos hq, if_neg (by decide)])
        have hq1 : (g.t0 == g.t1) = true := by simpa using hq
        clear HH HR
        go_wp2_with fail
        go_ret
        exact ⟨by rw [hE2.out]; try rfl, hB3⟩
      · have hq1 : (g.t0 == g.t1) = false := by simpa using hq
        rw [if_neg hq] at HH
        clear hq
        go_wp2_with fail
        have hdr2 : Below W2.heap.size W2 wc.drew := hbA.drew
        go_cut [4] (fun s4 wx => s4 = .int .i64 (fstE [es0, es1]) ∧ Below W2.heap.size W2 wx)
        case first =>
          clear HH HR
          refine wp_region_quiet_to (C := (fun W => ((W.cell? ⟨w.heap.size, 0, none⟩ = some (.string (bA g.nm)) ∧ W.cell? ⟨w.heap.size, 1, none⟩ = some (.int .i64 g.ver) ∧ W.cell? ⟨w.heap.size, 2, none⟩ = some (.int .i64 g.day) ∧ W.cell? ⟨w.heap.size, 3, none⟩ = some (.string (bA g.t0)) ∧ W.cell? ⟨w.heap.size, 4, none⟩ = some (.string (bA g.t1)) ∧ W.cell? ⟨w.heap.size, 5, none⟩ = some (.int .i64 g.s0) ∧ W.cell? ⟨w.heap.size, 6, none⟩ = some (.int .i64 g.s1) ∧ W.cell? ⟨w.heap.size, 7, none⟩ = some (.slice ad g.k kc)) ∧ Below W2.heap.size W2 W))) 8 3 #[true, true, true, true, true, true, true, true, false, false, false] (by kernel_rfl) (by kernel_rfl) ?_ ?_
          · (try dsimp only)
            exact ⟨⟨x0, x1, x2, x3, x4, x5, x6, x7⟩, hdr2⟩
          simp only [List.take_succ_cons, List.take_zero]
          refine quiet_take (v := ?_) (by rfl) ?_ ?_
          rotate_left
          · (intro w hSw; (try dsimp only at hSw); go_simp); all_goals (with_reducible rfl)
          try simp only [Act.put, List.setIfInBounds_toArray, List.set_cons_zero, List.set_cons_succ]
          refine quiet_take (v := ?_) (by rfl) ?_ ?_
          rotate_left
          · (intro w hSw; (try dsimp only at hSw); go_simp); all_goals (with_reducible rfl)
          try simp only [Act.put, List.setIfInBounds_toArray, List.set_cons_zero, List.set_cons_succ]
          refine quiet_take (v := ?_) (by rfl) ?_ ?_
          rotate_left
          · (intro w hSw; (try dsimp only at hSw); go_simp); all_goals (with_reducible rfl)
          try simp only [Act.put, List.setIfInBounds_toArray, List.set_cons_zero, List.set_cons_succ]
          refine quiet_call (f := 33) (args := ?_) (v := .int .i64 es0) (by rfl) ?_ ?_ ?_
          rotate_left
          · (intro w hSw; (try dsimp only at hSw); go_simp); all_goals (with_reducible rfl)
          · (intro W hSw); refine (cS0 W).mono ?_; rintro e W' ⟨rfl, rfl⟩; exact ⟨rfl, hSw⟩
          try simp only [Act.put, List.setIfInBounds_toArray, List.set_cons_zero, List.set_cons_succ]
          refine quiet_take (v := ?_) (by rfl) ?_ ?_
          rotate_left
          · (intro w hSw; (try dsimp only at hSw); go_simp); all_goals (with_reducible rfl)
          try simp only [Act.put, List.setIfInBounds_toArray, List.set_cons_zero, List.set_cons_succ]
          refine quiet_take (v := ?_) (by rfl) ?_ ?_
          rotate_left
          · (intro w hSw; (try dsimp only at hSw); go_simp); all_goals (with_reducible rfl)
          try simp only [Act.put, List.setIfInBounds_toArray, List.set_cons_zero, List.set_cons_succ]
          refine quiet_take (v := ?_) (by rfl) ?_ ?_
          rotate_left
          · (intro w hSw; (try dsimp only at hSw); go_simp); all_goals (with_reducible rfl)
          try simp only [Act.put, List.setIfInBounds_toArray, List.set_cons_zero, List.set_cons_succ]
          refine quiet_call (f := 33) (args := ?_) (v := .int .i64 es1) (by rfl) ?_ ?_ ?_
          rotate_left
          · (intro w hSw; (try dsimp only at hSw); go_simp); all_goals (with_reducible rfl)
          · (intro W hSw); refine (cS1 W).mono ?_; rintro e W' ⟨rfl, rfl⟩; exact ⟨rfl, hSw⟩
          try simp only [Act.put, List.setIfInBounds_toArray, List.set_cons_zero, List.set_cons_succ]
          refine wpQuiet_nil ?_
          intro W hSw
          refine wpAny_of_held (S := fun _ => True) _ _ _ _ ?_
          refine wpAnyH_ready (rs := [8]) (by kernel_rfl) (by simp) ?_
          refine AllReadyH.cons (o := _) rfl (fun K hK => ?_) ?_
          · -- buildSlice
            go_simp
            refine hK.out _ _ trivial (fun _ => ?_)
            clear hK K
            try simp only [List.setIfInBounds_toArray, List.set_cons_zero, List.set_cons_succ]
            refine wpAnyH_ready (rs := [9]) (by kernel_rfl) (by simp) ?_
            refine AllReadyH.cons (o := _) rfl (fun K hK => ?_) ?_
            · -- 22
              go_simp
              refine Calls.mono (cG _ _ (by simp) (by simp)) ?_; rintro e w' ⟨rfl, rfl⟩
              refine hK.out _ _ trivial (fun _ => ?_)
              clear hK K
              try simp only [List.setIfInBounds_toArray, List.set_cons_zero, List.set_cons_succ]
              refine wpAnyH_ready (rs := [10]) (by kernel_rfl) (by simp) ?_
              refine AllReadyH.cons (o := _) rfl (fun K hK => ?_) ?_
              · -- assign
                go_simp
                refine hK.out _ _ trivial (fun _ => ?_)
                clear hK K
                try simp only [List.setIfInBounds_toArray, List.set_cons_zero, List.set_cons_succ]
                refine wpAnyH_done (by kernel_rfl) ?_ _
                go_wp2_with fail
                go_meet
                exact ⟨rfl, hSw.2.alloc hSw.2.size _⟩
              exact AllReadyH.nil
            exact AllReadyH.nil
          exact AllReadyH.nil
        case rest =>
          clear hB3 hbA hdr2 x0 x1 x2 x3 x4 x5 x6 x7 cS0 cS1 cG
          obtain ⟨rfl, hbC⟩ := hcut
          have hB4 : Below w.heap.size w wc := hB.trans (hbC.mono hB.size)
          obtain ⟨v2, hv2⟩ : ∃ v2, fstE [es0, es1] = v2 := ⟨_, rfl⟩
          rw [hv2] at HH ⊢
          clear hv2
          by_cases h0 : v2 = 0
          · subst h0
            rw [if_pos rfl] at HH
            obtain ⟨⟨x0, x1, x2, x3, x4, x5, x6, x7⟩, -⟩ := box8 (hx.below hbC hx.lt)
            by_cases h60 : 60 < g.k
            · have hE2 : Hid (R = 5) := Lib.hid (by rw [HR.out, HH.out, if_pos h60, if_neg (by decide)])
              have h60' : (60 : Int) < (g.k : Int) := by omega
              clear HH HR
              go_wp2_with fail
              go_ret
              exact ⟨by rw [hE2.out]; try rfl, hB4⟩
            · have h60' : (g.k : Int) ≤ 60 := by omega
              have HS : Hid (R = linesE g.t0 g.t1 g.l 0 (g.k - 0)) := Lib.hid (by rw [HR.out, HH.out, if_neg h60, if_pos rfl]; rfl)
              clear HH HR
              go_wp2_with fail
              go_loopw [5] (fun s wr => ∃ i : Nat, i ≤ g.k ∧ s = .int .i64 i ∧ Hid (R = linesE g.t0 g.t1 g.l i (g.k - i)) ∧ Below W2.heap.size W2 wr) (fun s _ => g.k - (numOf' s).toNat)
              case atStart => exact ⟨0, Nat.zero_le _, rfl, HS, hbC⟩
              case round =>
                try clear HS
                clear x0 x1 x2 x3 x4 x5 x6 x7 hbC hB4
                obtain ⟨i, hi, rfl, hE, hb⟩ := hrel
                obtain ⟨⟨x0, x1, x2, x3, x4, x5, x6, x7⟩, -⟩ := box8 (hx.below hb hx.lt)
                by_cases hik : i < g.k
                · have cL2 := cLn wr i (hlB.below hb) hik (by omega)
                  have hs : linesE g.t0 g.t1 g.l i (g.k - i) = if ansE g i = 0 then linesE g.t0 g.t1 g.l (i + 1) (g.k - (i + 1)) else ansE g i := by
                    rw [show g.k - i = (g.k - (i + 1)) + 1 by omega, linesE_step]
                  have HE2 := Lib.hid (hE.out.trans hs)
                  have hii : (i : Int) < (g.k : Int) := by omega
                  clear hE hs
                  obtain ⟨L, hL⟩ : ∃ L, ansE g i = L := ⟨_, rfl⟩
                  rw [hL] at HE2 cL2
                  clear hL
                  go_wp2_with fail
                  refine cL2.mono ?_
                  rintro e W7 ⟨rfl, hk6⟩
                  have hb7 : Below W2.heap.size W2 W7 := hb.trans (hk6.mono hb.size)
                  clear cL2
                  by_cases hL0 : L = 0
                  · have HR2 := Lib.hid (HE2.out.trans (if_pos hL0))
                    subst hL0
                    clear HE2
                    go_wp2_with fail
                    go_roundw
                    case rel => exact ⟨i + 1, by omega, by go_num, HR2, hb7⟩
                    case measure => simp [numOf'] <;> omega
                  · have HR2 := Lib.hid (HE2.out.trans (if_neg hL0))
                    have hL' : (L != 0) = true := by simpa using hL0
                    have hb9 := hB.trans (hb7.mono hB.size)
                    clear HE2
                    go_wp2_with fail
                    go_ret
                    exact ⟨by rw [HR2.out]; try rfl, hb9⟩
                · obtain rfl : i = g.k := by omega
                  have hE2 : Hid (R = 0) := Lib.hid (by rw [hE.out, Nat.sub_self, linesE])
                  have hB4 : Below w.heap.size w wr := hB.trans (hb.mono hB.size)
                  clear hE
                  go_wp2_with fail
                  go_ret
                  exact ⟨by rw [hE2.out]; try rfl, hB4⟩
          · have h0' : (v2 != 0) = true := by simpa using h0
            have hE2 : Hid (R = v2) := Lib.hid (by rw [HR.out, HH.out, if_neg h0, if_neg h0])
            clear HH HR
            go_wp2_with fail
            go_ret
            exact ⟨by rw [hE2.out]; try rfl, hB4⟩
    · have h0' : (v1 != 0) = true := by simpa using h0
      have hE2 : Hid (R = v1) := Lib.hid (by rw [HR.out, HH.out, if_neg h0, if_neg h0])
      clear HH HR
      go_wp2_with fail
      go_ret
      exact ⟨by rw [hE2.out]; try rfl, hB3⟩
end Go.Proofs.Tryz
