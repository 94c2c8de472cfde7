/- Standings: checked by the reference, compared on both sides, half games: by the kit's walk. -/
import Derived.Test.YtbfonnoebbjenaaGreatDoorAxTj
namespace Go.Proofs.Tryz
open Go Go.Am Go.RowKit Go.Op
set_option maxRecDepth 100000

instance (a b : Std) : Decidable (lt2 a b) := inferInstanceAs (Decidable (_ ∨ _))
instance (a b : Std) : Decidable (ltS a b) := inferInstanceAs (Decidable (_ ∨ _))
theorem or3_w (x y z : Int) (b c : Nat) (w : World) (h0 : w.cell? ⟨b, 0, none⟩ = some (.int .i64 x)) (h1 : w.cell? ⟨b, 1, none⟩ = some (.int .i64 y)) (h2 : w.cell? ⟨b, 2, none⟩ = some (.int .i64 z)) :
    Calls prog 104 #[.slice (some ⟨b, 0, none⟩) 3 c] w fun e w' => e = .returned (.int .i64 (fstE [x, y, z])) ∧ w' = w := by
  have hc : ∀ j u, [x, y, z][j]? = some u → w.cell? ⟨b, j, none⟩ = some (.int .i64 u) := fun j u h => by
    match j, h with
    | 0, h => simp at h; subst h; exact h0
    | 1, h => simp at h; subst h; exact h1
    | 2, h => simp at h; subst h; exact h2
    | j + 3, h => simp at h
  obtain ⟨es, hes⟩ : ∃ es, [x, y, z] = es := ⟨_, rfl⟩
  have hl : es.length = 3 := by rw [← hes]; rfl
  rw [hes] at hc ⊢
  have HL := Lib.hid hl
  have H0 : Hid (fstE es = fstE (es.drop 0)) := Lib.hid rfl
  clear h0 h1 h2 hes hl
  go_enter func104, ntmps104
  go_wp2_with fail
  go_loopw [8] (fun s wr => ∃ i : Nat, i ≤ 3 ∧ s = .int .i64 i ∧ Hid (fstE es = fstE (es.drop i)) ∧ wr = w) (fun s _ => 3 - (numOf' s).toNat)
  case atStart => exact ⟨0, Nat.zero_le _, rfl, H0, rfl⟩
  case round =>
    clear H0
    obtain ⟨i, hi, rfl, hE, rfl⟩ := hrel
    by_cases hin : i < 3
    · obtain ⟨u, hz⟩ : ∃ u, es[i]? = some u := ⟨_, List.getElem?_eq_getElem (by rw [HL.out]; exact hin)⟩
      have ci := hc i u hz
      have hs := fst_drop hz
      have hii : (i : Int) < 3 := by omega
      by_cases h0 : u = 0
      · subst h0
        have hE2 : Hid (fstE es = fstE (es.drop (i + 1))) := Lib.hid (by rw [hE.out, hs, if_pos rfl])
        clear hE hs hc hz
        go_wp2_with fail
        go_roundw
        case rel => exact ⟨i + 1, by omega, by go_num, hE2, by first | trivial | rfl⟩
        case measure => simp [numOf'] <;> omega
      · have hE2 : Hid (fstE es = u) := Lib.hid (by rw [hE.out, hs, if_neg h0])
        have h0' : (u != 0) = true := by simpa using h0
        clear hE hs hc hz
        go_wp2_with fail
        go_ret
        exact ⟨by rw [hE2.out]; try rfl, rfl⟩
    · obtain rfl : i = 3 := by omega
      have hE2 : Hid (fstE es = 0) := Lib.hid (by rw [hE.out, List.drop_of_length_le (by rw [HL.out]; exact Nat.le_refl _)]; rfl)
      clear hE hc HL
      go_wp2_with fail
      go_ret
      exact ⟨by rw [hE2.out]; try rfl, rfl⟩
theorem small_S {m : Nat} (hm : m ≤ 10000) {x y : Std} (hx : SmS m x) (hy : SmS m y) :
    (IntKind.i64.wrap (y.w + y.l) = y.w + y.l ∧ wrap64 (y.w + y.l) = y.w + y.l) ∧ (IntKind.i64.wrap (x.w + x.l) = x.w + x.l ∧ wrap64 (x.w + x.l) = x.w + x.l) ∧
    (IntKind.i64.wrap (x.w * max 1 (y.w + y.l)) = x.w * max 1 (y.w + y.l) ∧ wrap64 (x.w * max 1 (y.w + y.l)) = x.w * max 1 (y.w + y.l)) ∧ (IntKind.i64.wrap (y.w * max 1 (x.w + x.l)) = y.w * max 1 (x.w + x.l) ∧ wrap64 (y.w * max 1 (x.w + x.l)) = y.w * max 1 (x.w + x.l)) ∧
    (IntKind.i64.wrap (x.f - x.a) = x.f - x.a ∧ wrap64 (x.f - x.a) = x.f - x.a) ∧ (IntKind.i64.wrap (y.f - y.a) = y.f - y.a ∧ wrap64 (y.f - y.a) = y.f - y.a) := by
  obtain ⟨p1, p2, p3, p4, p5⟩ := hx
  obtain ⟨q1, q2, q3, q4, q5⟩ := hy
  have key : ∀ a b : Int, 0 ≤ a ∧ a ≤ 10000 → 1 ≤ b ∧ b ≤ 20000 → inI (a * b) := fun a b ha hb => by
    have h1 : 0 ≤ a * b := Int.mul_nonneg ha.1 (by omega)
    have h2 : a * b ≤ 10000 * 20000 := Int.mul_le_mul ha.2 hb.2 (by omega) (by omega)
    unfold inI; omega
  exact ⟨inI_wrap (by unfold inI; omega), inI_wrap (by unfold inI; omega), inI_wrap (key _ _ (by omega) (by omega)), inI_wrap (key _ _ (by omega) (by omega)), inI_wrap (by unfold inI; omega), inI_wrap (by unfold inI; omega)⟩
/-- Half games behind: the error and the number. -/
def behE (x y : Std) : Int := fstE [chkS x, chkS y]
def behV (x y : Std) : Int := if behE x y = 0 then x.w - y.w + y.l - x.l else 0
theorem behE_zero (x y : Std) (h : behE x y = 0) : (IntKind.i64.wrap (x.w - y.w) = x.w - y.w ∧ wrap64 (x.w - y.w) = x.w - y.w) ∧ (IntKind.i64.wrap (x.w - y.w + y.l) = x.w - y.w + y.l ∧ wrap64 (x.w - y.w + y.l) = x.w - y.w + y.l) ∧ (IntKind.i64.wrap (x.w - y.w + y.l - x.l) = x.w - y.w + y.l - x.l ∧ wrap64 (x.w - y.w + y.l - x.l) = x.w - y.w + y.l - x.l) := by
  unfold behE at h
  have h1 : chkS x = 0 ∧ chkS y = 0 := by
    unfold fstE at h
    split at h
    · rename_i q
      unfold fstE at h
      split at h
      · rename_i q2; exact ⟨q, q2⟩
      · rename_i q2; exact absurd h q2
    · rename_i q; exact absurd h q
  obtain ⟨-, a1, a2, -⟩ := chkS_zero h1.1
  obtain ⟨-, b1, b2, -⟩ := chkS_zero h1.2
  exact ⟨inI_wrap (by unfold inI; omega), inI_wrap (by unfold inI; omega), inI_wrap (by unfold inI; omega)⟩
set_option maxHeartbeats 3200000 in
theorem check49_w (s : Std) (w : World) : Calls prog 49 #[.agg #[.string (bA s.t), .int .i64 s.w, .int .i64 s.l, .int .i64 s.d, .int .i64 s.f, .int .i64 s.a]] w fun e w' => e = .returned (.int .i64 (chkS s)) ∧ Below w.heap.size w w' := by
  have hB : Below w.heap.size w (w.alloc (.cells s.arr 84)) := (Below.refl _ _).alloc (Nat.le_refl _) _
  have hx := at_new w s.arr 84
  obtain ⟨W1, hW⟩ : ∃ W1, w.alloc (.cells s.arr 84) = W1 := ⟨_, rfl⟩
  rw [hW] at hB hx
  unfold Std.arr at hW hx
  have HK : Hid (chkS s = fstE [nmE s.t, inE s.w 0 999999999, inE s.l 0 999999999, inE s.d 0 999999999, inE s.f 0 999999999, inE s.a 0 999999999]) := Lib.hid rfl
  have cN := nameE_w s.t
  have c1 := rangeR_w s.w 0 999999999
  have c2 := rangeR_w s.l 0 999999999
  have c3 := rangeR_w s.d 0 999999999
  have c4 := rangeR_w s.f 0 999999999
  have c5 := rangeR_w s.a 0 999999999
  generalize nmE s.t = E0 at HK cN
  generalize inE s.w 0 999999999 = E1 at HK c1
  generalize inE s.l 0 999999999 = E2 at HK c2
  generalize inE s.d 0 999999999 = E3 at HK c3
  generalize inE s.f 0 999999999 = E4 at HK c4
  generalize inE s.a 0 999999999 = E5 at HK c5
  have cF := firstR6_w E0 E1 E2 E3 E4 E5
  generalize fstE [E0, E1, E2, E3, E4, E5] = R at HK cF
  have hdr : Below W1.heap.size W1 W1.drew := (Below.refl _ _).drew
  go_enter func49, ntmps49
  go_wp2_with fail
  try rw [hW]
  clear hW
  refine wp_region_quiet_to (C := (fun W => Below W1.heap.size W1 W)) 18 3 #[true, true, true, true, true, true, true, true, true, true, true, true, true, true, true, true, true, true, false, false, false] (by kernel_rfl) (by kernel_rfl) ?_ ?_
  · (try dsimp only)
    exact hdr
  simp only [List.take_succ_cons, List.take_zero]
  with_reducible refine quiet_take (v := ?_) ?_ ?_ ?_
  rotate_left
  · rfl
  · (intro w hSw; (try dsimp only at hSw); go_simp); all_goals (with_reducible rfl)
  try simp only [Act.put, List.setIfInBounds_toArray, List.set_cons_zero, List.set_cons_succ]
  with_reducible refine quiet_take (v := ?_) ?_ ?_ ?_
  rotate_left
  · rfl
  · (intro w hSw; obtain ⟨⟨b0, b1, b2, b3, b4, b5⟩, -⟩ := box6 (hx.below hSw hx.lt); (try dsimp only at hSw); go_simp); all_goals (with_reducible rfl)
  try simp only [Act.put, List.setIfInBounds_toArray, List.set_cons_zero, List.set_cons_succ]
  with_reducible refine quiet_call (f := 48) (args := ?_) (v := .int .i64 E0) ?_ ?_ ?_ ?_
  rotate_left
  · rfl
  · (intro w hSw; (try dsimp only at hSw); go_simp); all_goals (with_reducible rfl)
  · (intro W hSw); exact (cN W).mono fun e w' ⟨h1, h2⟩ => ⟨h1, by rw [h2]; exact hSw⟩
  try simp only [Act.put, List.setIfInBounds_toArray, List.set_cons_zero, List.set_cons_succ]
  with_reducible refine quiet_take (v := ?_) ?_ ?_ ?_
  rotate_left
  · rfl
  · (intro w hSw; (try dsimp only at hSw); go_simp); all_goals (with_reducible rfl)
  try simp only [Act.put, List.setIfInBounds_toArray, List.set_cons_zero, List.set_cons_succ]
  with_reducible refine quiet_take (v := ?_) ?_ ?_ ?_
  rotate_left
  · rfl
  · (intro w hSw; obtain ⟨⟨b0, b1, b2, b3, b4, b5⟩, -⟩ := box6 (hx.below hSw hx.lt); (try dsimp only at hSw); go_simp); all_goals (with_reducible rfl)
  try simp only [Act.put, List.setIfInBounds_toArray, List.set_cons_zero, List.set_cons_succ]
  with_reducible refine quiet_call (f := 33) (args := ?_) (v := .int .i64 E1) ?_ ?_ ?_ ?_
  rotate_left
  · rfl
  · (intro w hSw; (try dsimp only at hSw); go_simp); all_goals (with_reducible rfl)
  · (intro W hSw); exact (c1 W).mono fun e w' ⟨h1, h2⟩ => ⟨h1, by rw [h2]; exact hSw⟩
  try simp only [Act.put, List.setIfInBounds_toArray, List.set_cons_zero, List.set_cons_succ]
  with_reducible refine quiet_take (v := ?_) ?_ ?_ ?_
  rotate_left
  · rfl
  · (intro w hSw; (try dsimp only at hSw); go_simp); all_goals (with_reducible rfl)
  try simp only [Act.put, List.setIfInBounds_toArray, List.set_cons_zero, List.set_cons_succ]
  with_reducible refine quiet_take (v := ?_) ?_ ?_ ?_
  rotate_left
  · rfl
  · (intro w hSw; obtain ⟨⟨b0, b1, b2, b3, b4, b5⟩, -⟩ := box6 (hx.below hSw hx.lt); (try dsimp only at hSw); go_simp); all_goals (with_reducible rfl)
  try simp only [Act.put, List.setIfInBounds_toArray, List.set_cons_zero, List.set_cons_succ]
  with_reducible refine quiet_call (f := 33) (args := ?_) (v := .int .i64 E2) ?_ ?_ ?_ ?_
  rotate_left
  · rfl
  · (intro w hSw; (try dsimp only at hSw); go_simp); all_goals (with_reducible rfl)
  · (intro W hSw); exact (c2 W).mono fun e w' ⟨h1, h2⟩ => ⟨h1, by rw [h2]; exact hSw⟩
  try simp only [Act.put, List.setIfInBounds_toArray, List.set_cons_zero, List.set_cons_succ]
  with_reducible refine quiet_take (v := ?_) ?_ ?_ ?_
  rotate_left
  · rfl
  · (intro w hSw; (try dsimp only at hSw); go_simp); all_goals (with_reducible rfl)
  try simp only [Act.put, List.setIfInBounds_toArray, List.set_cons_zero, List.set_cons_succ]
  with_reducible refine quiet_take (v := ?_) ?_ ?_ ?_
  rotate_left
  · rfl
  · (intro w hSw; obtain ⟨⟨b0, b1, b2, b3, b4, b5⟩, -⟩ := box6 (hx.below hSw hx.lt); (try dsimp only at hSw); go_simp); all_goals (with_reducible rfl)
  try simp only [Act.put, List.setIfInBounds_toArray, List.set_cons_zero, List.set_cons_succ]
  with_reducible refine quiet_call (f := 33) (args := ?_) (v := .int .i64 E3) ?_ ?_ ?_ ?_
  rotate_left
  · rfl
  · (intro w hSw; (try dsimp only at hSw); go_simp); all_goals (with_reducible rfl)
  · (intro W hSw); exact (c3 W).mono fun e w' ⟨h1, h2⟩ => ⟨h1, by rw [h2]; exact hSw⟩
  try simp only [Act.put, List.setIfInBounds_toArray, List.set_cons_zero, List.set_cons_succ]
  with_reducible refine quiet_take (v := ?_) ?_ ?_ ?_
  rotate_left
  · rfl
  · (intro w hSw; (try dsimp only at hSw); go_simp); all_goals (with_reducible rfl)
  try simp only [Act.put, List.setIfInBounds_toArray, List.set_cons_zero, List.set_cons_succ]
  with_reducible refine quiet_take (v := ?_) ?_ ?_ ?_
  rotate_left
  · rfl
  · (intro w hSw; obtain ⟨⟨b0, b1, b2, b3, b4, b5⟩, -⟩ := box6 (hx.below hSw hx.lt); (try dsimp only at hSw); go_simp); all_goals (with_reducible rfl)
  try simp only [Act.put, List.setIfInBounds_toArray, List.set_cons_zero, List.set_cons_succ]
  with_reducible refine quiet_call (f := 33) (args := ?_) (v := .int .i64 E4) ?_ ?_ ?_ ?_
  rotate_left
  · rfl
  · (intro w hSw; (try dsimp only at hSw); go_simp); all_goals (with_reducible rfl)
  · (intro W hSw); exact (c4 W).mono fun e w' ⟨h1, h2⟩ => ⟨h1, by rw [h2]; exact hSw⟩
  try simp only [Act.put, List.setIfInBounds_toArray, List.set_cons_zero, List.set_cons_succ]
  with_reducible refine quiet_take (v := ?_) ?_ ?_ ?_
  rotate_left
  · rfl
  · (intro w hSw; (try dsimp only at hSw); go_simp); all_goals (with_reducible rfl)
  try simp only [Act.put, List.setIfInBounds_toArray, List.set_cons_zero, List.set_cons_succ]
  with_reducible refine quiet_take (v := ?_) ?_ ?_ ?_
  rotate_left
  · rfl
  · (intro w hSw; obtain ⟨⟨b0, b1, b2, b3, b4, b5⟩, -⟩ := box6 (hx.below hSw hx.lt); (try dsimp only at hSw); go_simp); all_goals (with_reducible rfl)
  try simp only [Act.put, List.setIfInBounds_toArray, List.set_cons_zero, List.set_cons_succ]
  with_reducible refine quiet_call (f := 33) (args := ?_) (v := .int .i64 E5) ?_ ?_ ?_ ?_
  rotate_left
  · rfl
  · (intro w hSw; (try dsimp only at hSw); go_simp); all_goals (with_reducible rfl)
  · (intro W hSw); exact (c5 W).mono fun e w' ⟨h1, h2⟩ => ⟨h1, by rw [h2]; exact hSw⟩
  try simp only [Act.put, List.setIfInBounds_toArray, List.set_cons_zero, List.set_cons_succ]
  refine wpQuiet_nil ?_
  intro W hSw
  refine wpAny_of_held (S := fun _ => True) _ _ _ _ ?_
  refine wpAnyH_ready (rs := [18]) (by kernel_rfl) (by simp) ?_
  refine AllReadyH.cons (o := _) rfl (fun K hK => ?_) ?_
  · -- buildSlice
    go_simp
    refine hK.out _ _ trivial (fun _ => ?_)
    clear hK K
    try simp only [List.setIfInBounds_toArray, List.set_cons_zero, List.set_cons_succ]
    refine wpAnyH_ready (rs := [19]) (by kernel_rfl) (by simp) ?_
    refine AllReadyH.cons (o := _) rfl (fun K hK => ?_) ?_
    · -- 22
      go_simp
      refine (cF _ _ (by simp) (by simp) (by simp) (by simp) (by simp) (by simp)).mono ?_; rintro e w' ⟨rfl, rfl⟩
      refine hK.out _ _ trivial (fun _ => ?_)
      clear hK K
      try simp only [List.setIfInBounds_toArray, List.set_cons_zero, List.set_cons_succ]
      refine wpAnyH_ready (rs := [20]) (by kernel_rfl) (by simp) ?_
      refine AllReadyH.cons (o := _) rfl (fun K hK => ?_) ?_
      · -- assign
        go_simp
        refine hK.out _ _ trivial (fun _ => ?_)
        clear hK K
        try simp only [List.setIfInBounds_toArray, List.set_cons_zero, List.set_cons_succ]
        refine wpAnyH_done (by kernel_rfl) ?_ _
        have hb9 := hB.trans ((hSw.alloc hSw.size (.cells #[.int .i64 E0, .int .i64 E1, .int .i64 E2, .int .i64 E3, .int .i64 E4, .int .i64 E5] 3)).mono hB.size)
        go_wp2_with fail
        go_ret
        exact ⟨by rw [HK.out]; rfl, hb9⟩
      exact AllReadyH.nil
    exact AllReadyH.nil
  exact AllReadyH.nil
set_option maxHeartbeats 6400000 in
theorem rank_w {m : Nat} (hm : m ≤ 10000) {x y : Std} (hx : SmS m x) (hy : SmS m y) (w : World) : Calls prog 116 #[.agg #[.string (bA x.t), .int .i64 x.w, .int .i64 x.l, .int .i64 x.d, .int .i64 x.f, .int .i64 x.a], .agg #[.string (bA y.t), .int .i64 y.w, .int .i64 y.l, .int .i64 y.d, .int .i64 y.f, .int .i64 y.a]] w fun e w' => e = .returned (.int .i64 (cfS x y)) ∧ Grn w w' := by
  obtain ⟨D, hD⟩ : ∃ D, cfS x y = D := ⟨_, rfl⟩
  have HD := Lib.hid hD
  rw [hD]
  clear hD
  have hsm := small_S hm hx hy
  have hxx := (at_new w x.arr 92).alloc (.cells y.arr 92)
  have hyy : At ((w.alloc (.cells x.arr 92)).alloc (.cells y.arr 92)) (w.heap.size + 1) y.arr 92 := by
    have := at_new (w.alloc (.cells x.arr 92)) y.arr 92
    simpa using this
  have hgr : Grn w ((w.alloc (.cells x.arr 92)).alloc (.cells y.arr 92)) := ((Grn.refl w).alloc _).alloc _
  obtain ⟨W1, hW⟩ : ∃ W1, (w.alloc (.cells x.arr 92)).alloc (.cells y.arr 92) = W1 := ⟨_, rfl⟩
  rw [hW] at hxx hyy hgr
  unfold Std.arr at hW hxx hyy
  obtain ⟨⟨r1, r2⟩, ⟨r3, r4⟩, ⟨r5, r6⟩, ⟨r7, r8⟩, ⟨r9, r10⟩, r11, r12⟩ := hsm
  have HN : Hid (nS x = max 1 (x.w + x.l) ∧ nS y = max 1 (y.w + y.l)) := Lib.hid ⟨rfl, rfl⟩
  clear hx hy
  obtain ⟨⟨x0, x1, x2, x3, x4, x5⟩, -⟩ := box6 hxx
  obtain ⟨⟨y0, y1, y2, y3, y4, y5⟩, -⟩ := box6 hyy
  have cC : ∀ a b W, Calls prog 101 #[.int .i64 a, .int .i64 b] W _ := fun a b W => cmpI_w a b W
  have cS := cmpS_w x.t y.t
  go_enter func116, ntmps116
  go_wp2_with fail
  try rw [hW]
  clear hW
  go_cut [5, 6] (fun s5 s6 wx => s5 = .int .i64 (x.w * nS y) ∧ s6 = .int .i64 (y.w * nS x) ∧ Grn W1 wx)
  case first =>
    go_quiet (fail)
    have hbn : Grn W1 (W1.drewN nq) := ⟨nq, #[], by rw [Go.Sort.grow_empty]⟩
    go_wp2_with fail
    go_meet
    exact ⟨by first | rfl | (rw [HN.out.2]; rfl), by first | rfl | (rw [HN.out.1]; rfl), hbn⟩
  case rest =>
    obtain ⟨rfl, rfl, hgc⟩ := hcut
    have hgr := hgr.trans hgc
    have hxx := hgc.at hxx
    have hyy := hgc.at hyy
    generalize wc = W2 at hxx hyy hgr ⊢
    have HK : Hid (cfS x y = fstE [cmpI (y.w * nS x) (x.w * nS y), cmpI (y.f - y.a) (x.f - x.a), cmpS x.t y.t]) := Lib.hid rfl
    generalize x.w * nS y = U at HK ⊢
    generalize y.w * nS x = V at HK ⊢
    obtain ⟨E1, hE1⟩ : ∃ e, cmpI V U = e := ⟨_, rfl⟩
    obtain ⟨E2, hE2⟩ : ∃ e, cmpI (y.f - y.a) (x.f - x.a) = e := ⟨_, rfl⟩
    obtain ⟨E3, hE3⟩ : ∃ e, cmpS x.t y.t = e := ⟨_, rfl⟩
    have c1 := cC V U
    have c2 := cC (y.f - y.a) (x.f - x.a)
    rw [hE1] at HK
    rw [hE2] at HK
    rw [hE3] at HK cS
    simp only [hE1] at c1
    simp only [hE2] at c2
    have cO := or3_w E1 E2 E3
    have HZ : Hid (fstE [E1, E2, E3] = D) := Lib.hid (by rw [← HK.out, HD.out])
    rw [HZ.out] at cO
    have hdr : Grn W2 W2.drew := (Grn.refl W2).drew
    clear hE1 hE2 hE3 cC HK HZ HD HN hgc x0 x1 x2 x3 x4 x5 y0 y1 y2 y3 y4 y5
    go_wp2_with fail
    refine wp_region_quiet_to (C := (fun W => Grn W2 W)) 19 3 #[true, true, true, true, true, true, true, true, true, true, true, true, true, true, true, true, true, true, true, false, false, false] (by kernel_rfl) (by kernel_rfl) ?_ ?_
    · (try dsimp only)
      exact hdr
    simp only [List.take_succ_cons, List.take_zero]
    with_reducible refine quiet_take (v := ?_) ?_ ?_ ?_
    rotate_left
    · rfl
    · (intro w hSw; (try dsimp only at hSw); go_simp); all_goals (with_reducible rfl)
    try simp only [Act.put, List.setIfInBounds_toArray, List.set_cons_zero, List.set_cons_succ]
    with_reducible refine quiet_take (v := ?_) ?_ ?_ ?_
    rotate_left
    · rfl
    · (intro w hSw; (try dsimp only at hSw); go_simp); all_goals (with_reducible rfl)
    try simp only [Act.put, List.setIfInBounds_toArray, List.set_cons_zero, List.set_cons_succ]
    with_reducible refine quiet_call (f := 101) (args := ?_) (v := .int .i64 E1) ?_ ?_ ?_ ?_
    rotate_left
    · rfl
    · (intro w hSw; (try dsimp only at hSw); go_simp); all_goals (with_reducible rfl)
    · (intro W hSw); exact (c1 W).mono fun e w' ⟨h1, h2⟩ => ⟨h1, by rw [h2]; exact hSw⟩
    try simp only [Act.put, List.setIfInBounds_toArray, List.set_cons_zero, List.set_cons_succ]
    with_reducible refine quiet_take (v := ?_) ?_ ?_ ?_
    rotate_left
    · rfl
    · (intro w hSw; (try dsimp only at hSw); go_simp); all_goals (with_reducible rfl)
    try simp only [Act.put, List.setIfInBounds_toArray, List.set_cons_zero, List.set_cons_succ]
    with_reducible refine quiet_take (v := ?_) ?_ ?_ ?_
    rotate_left
    · rfl
    · (intro w hSw; obtain ⟨⟨x0, x1, x2, x3, x4, x5⟩, -⟩ := box6 (hSw.at hxx); obtain ⟨⟨y0, y1, y2, y3, y4, y5⟩, -⟩ := box6 (hSw.at hyy); (try dsimp only at hSw); go_simp); all_goals (with_reducible rfl)
    try simp only [Act.put, List.setIfInBounds_toArray, List.set_cons_zero, List.set_cons_succ]
    with_reducible refine quiet_take (v := ?_) ?_ ?_ ?_
    rotate_left
    · rfl
    · (intro w hSw; (try dsimp only at hSw); go_simp); all_goals (with_reducible rfl)
    try simp only [Act.put, List.setIfInBounds_toArray, List.set_cons_zero, List.set_cons_succ]
    with_reducible refine quiet_take (v := ?_) ?_ ?_ ?_
    rotate_left
    · rfl
    · (intro w hSw; obtain ⟨⟨x0, x1, x2, x3, x4, x5⟩, -⟩ := box6 (hSw.at hxx); obtain ⟨⟨y0, y1, y2, y3, y4, y5⟩, -⟩ := box6 (hSw.at hyy); (try dsimp only at hSw); go_simp); all_goals (with_reducible rfl)
    try simp only [Act.put, List.setIfInBounds_toArray, List.set_cons_zero, List.set_cons_succ]
    with_reducible refine quiet_take (v := ?_) ?_ ?_ ?_
    rotate_left
    · rfl
    · (intro w hSw; (try dsimp only at hSw); go_simp); all_goals (with_reducible rfl)
    try simp only [Act.put, List.setIfInBounds_toArray, List.set_cons_zero, List.set_cons_succ]
    with_reducible refine quiet_take (v := ?_) ?_ ?_ ?_
    rotate_left
    · rfl
    · (intro w hSw; (try dsimp only at hSw); go_simp); all_goals (with_reducible rfl)
    try simp only [Act.put, List.setIfInBounds_toArray, List.set_cons_zero, List.set_cons_succ]
    with_reducible refine quiet_take (v := ?_) ?_ ?_ ?_
    rotate_left
    · rfl
    · (intro w hSw; obtain ⟨⟨x0, x1, x2, x3, x4, x5⟩, -⟩ := box6 (hSw.at hxx); obtain ⟨⟨y0, y1, y2, y3, y4, y5⟩, -⟩ := box6 (hSw.at hyy); (try dsimp only at hSw); go_simp); all_goals (with_reducible rfl)
    try simp only [Act.put, List.setIfInBounds_toArray, List.set_cons_zero, List.set_cons_succ]
    with_reducible refine quiet_take (v := ?_) ?_ ?_ ?_
    rotate_left
    · rfl
    · (intro w hSw; (try dsimp only at hSw); go_simp); all_goals (with_reducible rfl)
    try simp only [Act.put, List.setIfInBounds_toArray, List.set_cons_zero, List.set_cons_succ]
    with_reducible refine quiet_take (v := ?_) ?_ ?_ ?_
    rotate_left
    · rfl
    · (intro w hSw; obtain ⟨⟨x0, x1, x2, x3, x4, x5⟩, -⟩ := box6 (hSw.at hxx); obtain ⟨⟨y0, y1, y2, y3, y4, y5⟩, -⟩ := box6 (hSw.at hyy); (try dsimp only at hSw); go_simp); all_goals (with_reducible rfl)
    try simp only [Act.put, List.setIfInBounds_toArray, List.set_cons_zero, List.set_cons_succ]
    with_reducible refine quiet_take (v := ?_) ?_ ?_ ?_
    rotate_left
    · rfl
    · (intro w hSw; (try dsimp only at hSw); go_simp); all_goals (with_reducible rfl)
    try simp only [Act.put, List.setIfInBounds_toArray, List.set_cons_zero, List.set_cons_succ]
    with_reducible refine quiet_call (f := 101) (args := ?_) (v := .int .i64 E2) ?_ ?_ ?_ ?_
    rotate_left
    · rfl
    · (intro w hSw; (try dsimp only at hSw); go_simp); all_goals (with_reducible rfl)
    · (intro W hSw); exact (c2 W).mono fun e w' ⟨h1, h2⟩ => ⟨h1, by rw [h2]; exact hSw⟩
    try simp only [Act.put, List.setIfInBounds_toArray, List.set_cons_zero, List.set_cons_succ]
    with_reducible refine quiet_take (v := ?_) ?_ ?_ ?_
    rotate_left
    · rfl
    · (intro w hSw; (try dsimp only at hSw); go_simp); all_goals (with_reducible rfl)
    try simp only [Act.put, List.setIfInBounds_toArray, List.set_cons_zero, List.set_cons_succ]
    with_reducible refine quiet_take (v := ?_) ?_ ?_ ?_
    rotate_left
    · rfl
    · (intro w hSw; obtain ⟨⟨x0, x1, x2, x3, x4, x5⟩, -⟩ := box6 (hSw.at hxx); obtain ⟨⟨y0, y1, y2, y3, y4, y5⟩, -⟩ := box6 (hSw.at hyy); (try dsimp only at hSw); go_simp); all_goals (with_reducible rfl)
    try simp only [Act.put, List.setIfInBounds_toArray, List.set_cons_zero, List.set_cons_succ]
    with_reducible refine quiet_take (v := ?_) ?_ ?_ ?_
    rotate_left
    · rfl
    · (intro w hSw; (try dsimp only at hSw); go_simp); all_goals (with_reducible rfl)
    try simp only [Act.put, List.setIfInBounds_toArray, List.set_cons_zero, List.set_cons_succ]
    with_reducible refine quiet_take (v := ?_) ?_ ?_ ?_
    rotate_left
    · rfl
    · (intro w hSw; obtain ⟨⟨x0, x1, x2, x3, x4, x5⟩, -⟩ := box6 (hSw.at hxx); obtain ⟨⟨y0, y1, y2, y3, y4, y5⟩, -⟩ := box6 (hSw.at hyy); (try dsimp only at hSw); go_simp); all_goals (with_reducible rfl)
    try simp only [Act.put, List.setIfInBounds_toArray, List.set_cons_zero, List.set_cons_succ]
    with_reducible refine quiet_call (f := 105) (args := ?_) (v := .int .i64 E3) ?_ ?_ ?_ ?_
    rotate_left
    · rfl
    · (intro w hSw; (try dsimp only at hSw); go_simp); all_goals (with_reducible rfl)
    · (intro W hSw); exact (cS W).mono fun e w' ⟨h1, h2⟩ => ⟨h1, by rw [h2]; exact hSw⟩
    try simp only [Act.put, List.setIfInBounds_toArray, List.set_cons_zero, List.set_cons_succ]
    refine wpQuiet_nil ?_
    intro W hSw
    refine wpAny_of_held (S := fun _ => True) _ _ _ _ ?_
    refine wpAnyH_ready (rs := [19]) (by kernel_rfl) (by simp) ?_
    refine AllReadyH.cons (o := _) rfl (fun K hK => ?_) ?_
    · -- buildSlice
      go_simp
      refine hK.out _ _ trivial (fun _ => ?_)
      clear hK K
      try simp only [List.setIfInBounds_toArray, List.set_cons_zero, List.set_cons_succ]
      refine wpAnyH_ready (rs := [20]) (by kernel_rfl) (by simp) ?_
      refine AllReadyH.cons (o := _) rfl (fun K hK => ?_) ?_
      · -- 104
        go_simp
        refine (cO _ _ _ (by simp) (by simp) (by simp)).mono ?_; rintro e w' ⟨rfl, rfl⟩
        refine hK.out _ _ trivial (fun _ => ?_)
        clear hK K
        try simp only [List.setIfInBounds_toArray, List.set_cons_zero, List.set_cons_succ]
        refine wpAnyH_ready (rs := [21]) (by kernel_rfl) (by simp) ?_
        refine AllReadyH.cons (o := _) rfl (fun K hK => ?_) ?_
        · -- assign
          go_simp
          refine hK.out _ _ trivial (fun _ => ?_)
          clear hK K
          try simp only [List.setIfInBounds_toArray, List.set_cons_zero, List.set_cons_succ]
          refine wpAnyH_done (by kernel_rfl) ?_ _
          go_wp2_with fail
          go_ret
          exact ⟨rfl, hgr.trans (hSw.alloc _)⟩
        exact AllReadyH.nil
      exact AllReadyH.nil
    exact AllReadyH.nil
set_option maxHeartbeats 3200000 in
theorem behind_w (x y : Std) (w : World) : Calls prog 47 #[.agg #[.string (bA x.t), .int .i64 x.w, .int .i64 x.l, .int .i64 x.d, .int .i64 x.f, .int .i64 x.a], .agg #[.string (bA y.t), .int .i64 y.w, .int .i64 y.l, .int .i64 y.d, .int .i64 y.f, .int .i64 y.a]] w fun e w' => e = .returned (.tuple #[.int .i64 (behV x y), .int .i64 (behE x y)]) ∧ Below w.heap.size w w' := by
  have hxx := (at_new w x.arr 92).alloc (.cells y.arr 92)
  have hyy : At ((w.alloc (.cells x.arr 92)).alloc (.cells y.arr 92)) (w.heap.size + 1) y.arr 92 := by
    have := at_new (w.alloc (.cells x.arr 92)) y.arr 92
    simpa using this
  have hB : Below w.heap.size w ((w.alloc (.cells x.arr 92)).alloc (.cells y.arr 92)) := ((Below.refl _ _).alloc (Nat.le_refl _) _).alloc (by simp) _
  obtain ⟨W1, hW⟩ : ∃ W1, (w.alloc (.cells x.arr 92)).alloc (.cells y.arr 92) = W1 := ⟨_, rfl⟩
  rw [hW] at hxx hyy hB
  unfold Std.arr at hW hxx hyy
  have cx := check118_w x
  have cy := check118_w y
  have hz := behE_zero x y
  have HB : Hid (behE x y = fstE [chkS x, chkS y]) := Lib.hid rfl
  have HV0 : Hid (behE x y = 0 → behV x y = x.w - y.w + y.l - x.l) := Lib.hid fun h => if_pos h
  have HV1 : Hid (behE x y ≠ 0 → behV x y = 0) := Lib.hid fun h => if_neg h
  generalize chkS x = E1 at HB cx
  generalize chkS y = E2 at HB cy
  have cF := first2_w E1 E2
  rw [← HB.out] at cF
  generalize behE x y = E at *
  generalize behV x y = V at *
  have HZ := Lib.hid hz
  have hdr : Below W1.heap.size W1 W1.drew := (Below.refl _ _).drew
  clear hz
  go_enter func47, ntmps47
  go_wp2_with fail
  try rw [hW]
  clear hW
  refine wp_region_quiet_to (C := (fun W => Below W1.heap.size W1 W)) 4 3 #[true, true, true, true, false, false, false] (by kernel_rfl) (by kernel_rfl) ?_ ?_
  · (try dsimp only)
    exact hdr
  simp only [List.take_succ_cons, List.take_zero]
  with_reducible refine quiet_take (v := ?_) ?_ ?_ ?_
  rotate_left
  · rfl
  · (intro w hSw; obtain ⟨⟨b0, b1, b2, b3, b4, b5⟩, -⟩ := box6 (hxx.below hSw hxx.lt); (try dsimp only at hSw); go_simp); all_goals (with_reducible rfl)
  try simp only [Act.put, List.setIfInBounds_toArray, List.set_cons_zero, List.set_cons_succ]
  with_reducible refine quiet_call (f := 118) (args := ?_) (v := .int .i64 E1) ?_ ?_ ?_ ?_
  rotate_left
  · rfl
  · (intro w hSw; (try dsimp only at hSw); go_simp); all_goals (with_reducible rfl)
  · (intro W hSw); exact (cx W).mono fun e w' ⟨h1, h2⟩ => ⟨h1, hSw.trans (h2.mono hSw.size)⟩
  try simp only [Act.put, List.setIfInBounds_toArray, List.set_cons_zero, List.set_cons_succ]
  with_reducible refine quiet_take (v := ?_) ?_ ?_ ?_
  rotate_left
  · rfl
  · (intro w hSw; obtain ⟨⟨b0, b1, b2, b3, b4, b5⟩, -⟩ := box6 (hyy.below hSw hyy.lt); (try dsimp only at hSw); go_simp); all_goals (with_reducible rfl)
  try simp only [Act.put, List.setIfInBounds_toArray, List.set_cons_zero, List.set_cons_succ]
  with_reducible refine quiet_call (f := 118) (args := ?_) (v := .int .i64 E2) ?_ ?_ ?_ ?_
  rotate_left
  · rfl
  · (intro w hSw; (try dsimp only at hSw); go_simp); all_goals (with_reducible rfl)
  · (intro W hSw); exact (cy W).mono fun e w' ⟨h1, h2⟩ => ⟨h1, hSw.trans (h2.mono hSw.size)⟩
  try simp only [Act.put, List.setIfInBounds_toArray, List.set_cons_zero, List.set_cons_succ]
  refine wpQuiet_nil ?_
  intro W hSw
  refine wpAny_of_held (S := fun _ => True) _ _ _ _ ?_
  refine wpAnyH_ready (rs := [4]) (by kernel_rfl) (by simp) ?_
  refine AllReadyH.cons (o := _) rfl (fun K hK => ?_) ?_
  · -- buildSlice
    go_simp
    refine hK.out _ _ trivial (fun _ => ?_)
    clear hK K
    try simp only [List.setIfInBounds_toArray, List.set_cons_zero, List.set_cons_succ]
    refine wpAnyH_ready (rs := [5]) (by kernel_rfl) (by simp) ?_
    refine AllReadyH.cons (o := _) rfl (fun K hK => ?_) ?_
    · -- 88
      go_simp
      refine (cF _ _ (by simp) (by simp)).mono ?_; rintro e w' ⟨rfl, rfl⟩
      refine hK.out _ _ trivial (fun _ => ?_)
      clear hK K
      try simp only [List.setIfInBounds_toArray, List.set_cons_zero, List.set_cons_succ]
      refine wpAnyH_ready (rs := [6]) (by kernel_rfl) (by simp) ?_
      refine AllReadyH.cons (o := _) rfl (fun K hK => ?_) ?_
      · -- assign
        go_simp
        refine hK.out _ _ trivial (fun _ => ?_)
        clear hK K
        try simp only [List.setIfInBounds_toArray, List.set_cons_zero, List.set_cons_succ]
        refine wpAnyH_done (by kernel_rfl) ?_ _
        have hb9 := hB.trans ((hSw.alloc hSw.size (.cells #[.int .i64 E1, .int .i64 E2] 26)).mono hB.size)
        have hxx := hxx.below (hSw.alloc hSw.size (.cells #[.int .i64 E1, .int .i64 E2] 26)) hxx.lt
        have hyy := hyy.below (hSw.alloc hSw.size (.cells #[.int .i64 E1, .int .i64 E2] 26)) hyy.lt
        generalize W.alloc (.cells #[.int .i64 E1, .int .i64 E2] 26) = W9 at hb9 hxx hyy ⊢
        by_cases hE : E = 0
        · obtain ⟨⟨r1, r2⟩, ⟨r3, r4⟩, r5, r6⟩ := HZ.out hE
          have HV := Lib.hid (HV0.out hE)
          subst hE
          obtain ⟨⟨x0, x1, x2, x3, x4, x5⟩, -⟩ := box6 hxx
          obtain ⟨⟨y0, y1, y2, y3, y4, y5⟩, -⟩ := box6 hyy
          clear HV0 HV1 HB HZ
          go_wp2_with fail
          go_ret2
          exact ⟨by rw [HV.out]; rfl, hb9⟩
        · have hE' : (E != 0) = true := by simpa using hE
          have HV := Lib.hid (HV1.out hE)
          clear HV0 HV1 HB HZ
          go_wp2_with fail
          go_ret2
          exact ⟨by rw [HV.out]; rfl, hb9⟩
      exact AllReadyH.nil
    exact AllReadyH.nil
  exact AllReadyH.nil
end Go.Proofs.Tryz
