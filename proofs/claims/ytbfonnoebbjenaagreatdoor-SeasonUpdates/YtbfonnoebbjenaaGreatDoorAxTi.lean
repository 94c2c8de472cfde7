/- The lines of games added to totals, by the reference: by the kit's walk. -/
import Derived.Test.YtbfonnoebbjenaaGreatDoorAxTh
namespace Go.Proofs.Tryz
open Go Go.Am Go.RowKit Go.Op
set_option maxRecDepth 100000

/-- A line as a total. -/
def totOf (x : LnD) : Tot := ⟨x.p, 1, x.c⟩
def linT (s : Int) (l : Nat → LnD) : Nat → Nat → List Tot → List Tot
  | _, 0, L => L
  | i, k + 1, L => linT s l (i + 1) k (insT s (totOf (l i)) L)
def gamT (s : Int) (g : Nat → GmD) : Nat → Nat → List Tot → List Tot
  | _, 0, L => L
  | i, k + 1, L => gamT s g (i + 1) k (linT s (g i).l 0 (g i).k L)
/-- Totals of at most m lines. -/
def InvT (m : Nat) (L : List Tot) : Prop := SortT L ∧ L.length ≤ m ∧ ∀ t ∈ L, (-(m * 1000 : Int) ≤ t.gm ∧ t.gm ≤ m * 1000) ∧ ∀ i, i < 12 → -(m * 1000 : Int) ≤ t.c i ∧ t.c i ≤ m * 1000
def LineOk (x : LnD) : Prop := ∀ i, i < 12 → 0 ≤ x.c i ∧ x.c i ≤ 999
theorem InvT.nil : InvT 0 [] := ⟨List.Pairwise.nil, Nat.le_refl _, fun _ h => absurd h List.not_mem_nil⟩
theorem insT_len (s : Int) (d : Tot) : ∀ L : List Tot, (insT s d L).length ≤ L.length + 1
  | [] => by simp [insT]
  | x :: r => by
    have := insT_len s d r
    unfold insT
    split
    · simp
    · split
      · simp
      · simp only [List.length_cons]; omega
theorem InvT.ins {m : Nat} {L : List Tot} {s : Int} {x : LnD} (h : InvT m L) (hs : s = 1 ∨ s = -1) (hx : LineOk x) : InvT (m + 1) (insT s (totOf x) L) := by
  obtain ⟨h1, h2, h3⟩ := h
  refine ⟨insT_sort h1, Nat.le_trans (insT_len _ _ _) (by omega), ?_⟩
  have up : ∀ t : Tot, ((-(m * 1000 : Int) ≤ t.gm ∧ t.gm ≤ m * 1000) ∧ ∀ i, i < 12 → -(m * 1000 : Int) ≤ t.c i ∧ t.c i ≤ m * 1000) → ((-((m + 1 : Nat) * 1000 : Int) ≤ t.gm ∧ t.gm ≤ (m + 1 : Nat) * 1000) ∧ ∀ i, i < 12 → -((m + 1 : Nat) * 1000 : Int) ≤ t.c i ∧ t.c i ≤ (m + 1 : Nat) * 1000) := fun t h => ⟨by omega, fun i hi => by have := h.2 i hi; omega⟩
  have ad : ∀ t : Tot, ((-(m * 1000 : Int) ≤ t.gm ∧ t.gm ≤ m * 1000) ∧ ∀ i, i < 12 → -(m * 1000 : Int) ≤ t.c i ∧ t.c i ≤ m * 1000) → ((-((m + 1 : Nat) * 1000 : Int) ≤ (addT t s (totOf x)).gm ∧ (addT t s (totOf x)).gm ≤ (m + 1 : Nat) * 1000) ∧ ∀ i, i < 12 → -((m + 1 : Nat) * 1000 : Int) ≤ (addT t s (totOf x)).c i ∧ (addT t s (totOf x)).c i ≤ (m + 1 : Nat) * 1000) := fun t h => by
    simp only [addT, totOf]
    rcases hs with rfl | rfl
    · exact ⟨by omega, fun i hi => by have := h.2 i hi; have := hx i hi; omega⟩
    · exact ⟨by omega, fun i hi => by have := h.2 i hi; have := hx i hi; omega⟩
  clear h1 h2
  induction L with
  | nil =>
    intro t ht
    simp only [insT, List.mem_singleton] at ht
    subst ht
    exact ad _ ⟨by simp only [zeroT]; omega, fun i _ => by simp only [zeroT]; omega⟩
  | cons y r ih =>
    have hy := h3 y (by simp)
    intro t ht
    unfold insT at ht
    split at ht
    · rcases List.mem_cons.1 ht with rfl | ht
      · exact ad _ hy
      · exact up _ (h3 t (by simp [ht]))
    · split at ht
      · rcases List.mem_cons.1 ht with rfl | ht
        · exact ad _ ⟨by simp only [zeroT]; omega, fun i _ => by simp only [zeroT]; omega⟩
        · exact up _ (h3 t ht)
      · rcases List.mem_cons.1 ht with rfl | ht
        · exact up _ hy
        · exact ih (fun t ht => h3 t (by simp [ht])) t ht
theorem InvT.small {m : Nat} {L : List Tot} (h : InvT m L) (hm : m ≤ 100000) : ∀ t ∈ L, SmallT t := fun t ht => by
  have := h.2.2 t ht
  exact ⟨by omega, fun i hi => by have := this.2 i hi; omega⟩
theorem LineOk.small {x : LnD} (h : LineOk x) : SmallT (totOf x) := ⟨by simp only [totOf]; omega, fun i hi => by have := h i hi; simp only [totOf]; omega⟩
theorem InvT.mono {m k : Nat} {L : List Tot} (h : InvT m L) (hk : m ≤ k) : InvT k L := ⟨h.1, Nat.le_trans h.2.1 hk, fun t ht => by
  have := h.2.2 t ht
  exact ⟨by omega, fun i hi => by have := this.2 i hi; omega⟩⟩

theorem insT_pos (s : Int) (d : Tot) (L : List Tot) : 0 < (insT s d L).length := by
  cases L with
  | nil => simp [insT]
  | cons x r =>
    unfold insT
    split
    · simp
    · split <;> simp
theorem OwnTots.base_le {w : World} {base e : Nat} {v : Value} {L : List Tot} (h : OwnTots w base e v L) (hL : 0 < L.length) : base ≤ w.heap.size := by
  obtain ⟨g, cap, e1, h1, -⟩ := OwnRow.own h (i := 0) (by rw [List.length_map]; exact hL)
  subst e1
  have := OwnRow.lt h g rfl
  omega
set_option maxHeartbeats 6400000 in
theorem gathered_w {L : List Tot} {v gv : Value} {w0 w : World} {base n m : Nat} {g : Nat → GmD} (hg : IsGames w0 gv g n) (h0 : Below w0.heap.size w0 w) (h0b : w0.heap.size ≤ base) (hn : n ≤ 66) (hk : ∀ i, i < n → (g i).k ≤ 62 ∧ ∀ j, j < (g i).k → LineOk ((g i).l j))
    (h : OwnTots w base 56 v L) (hbase : base ≤ w.heap.size) (hI : InvT m L) (hm : m ≤ 5000) (s : Int) (hs : s = 1 ∨ s = -1) :
    Calls prog 91 #[v, gv, .int .i64 s] w fun e w' => (∃ u, e = .returned u ∧ OwnTots w' base 56 u (gamT s g 0 n L)) ∧ Keeps base w w' ∧ base ≤ w'.heap.size := by
  have hg0 := hg
  obtain ⟨lv0, hr, -⟩ := hg0
  obtain ⟨ad, c, rfl, hnc⟩ := hr.slice
  clear hr
  obtain ⟨R, hR⟩ : ∃ R, gamT s g 0 n L = R := ⟨_, rfl⟩
  rw [hR]
  have HR : Hid (R = gamT s g 0 (n - 0) L) := Lib.hid hR.symm
  have HK := Lib.hid (And.intro h0b (And.intro hk hs))
  have hI0 : InvT (m + 0 * 62) L := hI.mono (by omega)
  have hgw := h0
  clear hR h0b hk hs hI
  obtain ⟨L0, hL0⟩ : ∃ L0, L = L0 := ⟨_, rfl⟩
  go_enter func91, ntmps91
  go_wp2_with fail
  go_loopw [0, 7] (fun v t wr => ∃ (i : Nat) (Lc : List Tot), i ≤ n ∧ t = .int .i64 i ∧ OwnTots wr base 56 v Lc ∧ Hid (R = gamT s g i (n - i) Lc) ∧ InvT (m + i * 62) Lc ∧ Below w0.heap.size w0 wr ∧ Keeps base w wr ∧ base ≤ wr.heap.size) (fun _ t _ => n - (numOf' t).toNat)
  case atStart => exact ⟨0, L, Nat.zero_le _, rfl, h, HR, hI0, hgw, Keeps.refl _ _, hbase⟩
  case round =>
    clear HR hI0 h hgw h0 hbase hL0
    obtain ⟨i, Lc, hi, rfl, hl, hE, hIc, hb0, hkp, hbs⟩ := hrel
    by_cases hin : i < n
    · have hgB := hg.below hb0
      obtain ⟨b, off, c1, a1, kc, e, -, hli, p0, p1, p2, p3, p4, p5, p6, p7⟩ := hgB.at hin
      simp only [Value.slice.injEq, true_and] at e
      obtain ⟨rfl, rfl⟩ := e
      have hii : (i : Int) < (n : Int) := by omega
      have hki := HK.out.2.1 i hin
      have hs := hE.out
      rw [show n - i = (n - (i + 1)) + 1 by omega, gamT] at hs
      have HE2 : Hid (R = gamT s g (i + 1) (n - (i + 1)) (linT s (g i).l 0 ((g i).k - 0) Lc)) := Lib.hid hs
      have hI1 : InvT (m + i * 62 + 0) Lc := hIc
      have HKI := Lib.hid hki.2
      have hk62 := hki.1
      obtain ⟨wq, rfl⟩ : ∃ W : World, W = wr := ⟨_, rfl⟩
      clear p0 p1 p2 p3 p4 p5 p6 hs hE hki hIc hgB
      go_wp2_with fail
      go_loopw [0, 8] (fun v t wx => ∃ (j : Nat) (Ld : List Tot), j ≤ (g i).k ∧ t = .int .i64 j ∧ OwnTots wx base 56 v Ld ∧ Hid (R = gamT s g (i + 1) (n - (i + 1)) (linT s (g i).l j ((g i).k - j) Ld)) ∧ InvT (m + i * 62 + j) Ld ∧ Below w0.heap.size w0 wx ∧ Keeps base w wx ∧ base ≤ wx.heap.size) (fun _ t _ => (g i).k - (numOf' t).toNat)
      case atStart => exact ⟨0, Lc, Nat.zero_le _, rfl, hl, HE2, hI1, hb0, hkp, hbs⟩
      case round =>
        clear HE2 hI1 hl hb0 hkp hbs hli p7
        obtain ⟨j, Ld, hj, rfl, hl, hE, hIc, hb0, hkp, hbs⟩ := hrel
        obtain ⟨b', off', c1, a1, kc, e, -, hli, p0, p1, p2, p3, p4, p5, p6, p7⟩ := (hg.below hb0).at hin
        simp only [Value.slice.injEq, true_and, Option.some.injEq, Addr.mk.injEq, and_true] at e
        obtain ⟨⟨rfl, rfl⟩, rfl⟩ := e
        clear p0 p1 p2 p3 p4 p5 p6
        by_cases hjk : j < (g i).k
        · obtain ⟨b2, off2, c2, e2, hk2, q0, q1, qc⟩ := hli.at hjk
          simp only [Value.slice.injEq, true_and] at e2
          obtain ⟨rfl, rfl⟩ := e2
          have hjj : (j : Int) < ((g i).k : Int) := by omega
          have hjl : (j : Int) + 1 ≤ ((g i).k : Int) := by omega
          have hok := HKI.out j hjk
          have hs := hE.out
          rw [show (g i).k - j = ((g i).k - (j + 1)) + 1 by omega, linT] at hs
          have HE2 := Lib.hid hs
          have hI2 : InvT (m + i * 62 + (j + 1)) (insT s (totOf ((g i).l j)) Ld) := hIc.ins HK.out.2.2 hok
          have him : m + i * 62 + j ≤ 10000 := by
            have : i * 62 ≤ 66 * 62 := Nat.mul_le_mul_right _ (by omega)
            omega
          have cS : ∀ W, Below wr.heap.size wr W → Calls prog 133 #[u0, .agg #[.string (bA ((g i).l j).p), .int .i64 1, .int .i64 (((g i).l j).c 0), .int .i64 (((g i).l j).c 1), .int .i64 (((g i).l j).c 2), .int .i64 (((g i).l j).c 3), .int .i64 (((g i).l j).c 4), .int .i64 (((g i).l j).c 5), .int .i64 (((g i).l j).c 6), .int .i64 (((g i).l j).c 7), .int .i64 (((g i).l j).c 8), .int .i64 (((g i).l j).c 9), .int .i64 (((g i).l j).c 10), .int .i64 (((g i).l j).c 11)], .int .i64 s] W fun e w' => (∃ u, e = .returned u ∧ OwnTots w' base 56 u (insT s (totOf ((g i).l j)) Ld)) ∧ Keeps base W w' := fun W hW => summed_w (OwnRow.below hl hW) (Nat.le_trans hbs hW.size) hIc.1 (Nat.le_trans hIc.2.1 him) (totOf ((g i).l j)) s HK.out.2.2 hok.small (hIc.small (by omega))
          have hdr : Below wr.heap.size wr wr.drew := (Below.refl _ _).drew
          have hcs : ∀ k, k < 12 → wr.cell? ⟨b2, off2 + j * 14 + (2 + k), none⟩ = some (.int .i64 (((g i).l j).c k)) := qc
          have HC := Lib.hid hcs
          clear qc hcs hs hE hl hIc q1 hok him
          go_wp2_with fail
          refine wp_region_quiet_to (C := (fun W => Below wr.heap.size wr W)) 21 2 #[true, true, true, true, true, true, true, true, true, true, true, true, true, true, true, true, true, true, true, true, true, false, false] (by kernel_rfl) (by kernel_rfl) ?_ ?_
          · (try dsimp only)
            exact hdr
          simp only [List.take_succ_cons, List.take_zero]
          with_reducible refine quiet_take (v := ?_) ?_ ?_ ?_
          rotate_left
          · rfl
          · (intro w hSw; (try dsimp only at hSw); go_simp); all_goals (with_reducible rfl)
          try simp only [Act.put, List.setIfInBounds_toArray, List.set_cons_zero, List.set_cons_succ]
          with_reducible refine quiet_take (v := ?_) ?_ ?_ ?_
          rotate_left
          · rfl
          · (intro w hSw; (try dsimp only at hSw); go_simp); all_goals (with_reducible rfl)
          try simp only [Act.put, List.setIfInBounds_toArray, List.set_cons_zero, List.set_cons_succ]
          with_reducible refine quiet_take (v := ?_) ?_ ?_ ?_
          rotate_left
          · rfl
          · (intro w hSw; (try dsimp only at hSw); go_simp); all_goals (with_reducible rfl)
          try simp only [Act.put, List.setIfInBounds_toArray, List.set_cons_zero, List.set_cons_succ]
          with_reducible refine quiet_take (v := ?_) ?_ ?_ ?_
          rotate_left
          · rfl
          · (intro w hSw; (try dsimp only at hSw); go_simp); all_goals (with_reducible rfl)
          try simp only [Act.put, List.setIfInBounds_toArray, List.set_cons_zero, List.set_cons_succ]
          with_reducible refine quiet_take (v := ?_) ?_ ?_ ?_
          rotate_left
          · rfl
          · (intro w hSw; (try dsimp only at hSw); go_simp); all_goals (with_reducible rfl)
          try simp only [Act.put, List.setIfInBounds_toArray, List.set_cons_zero, List.set_cons_succ]
          with_reducible refine quiet_take (v := ?_) ?_ ?_ ?_
          rotate_left
          · rfl
          · (intro w hSw; have g7 := (hSw.cell (cell_under p7)).trans p7; (try dsimp only at hSw); go_simp); all_goals (with_reducible rfl)
          try simp only [Act.put, List.setIfInBounds_toArray, List.set_cons_zero, List.set_cons_succ]
          with_reducible refine quiet_take (v := ?_) ?_ ?_ ?_
          rotate_left
          · rfl
          · (intro w hSw; (try dsimp only at hSw); go_simp); all_goals (with_reducible rfl)
          try simp only [Act.put, List.setIfInBounds_toArray, List.set_cons_zero, List.set_cons_succ]
          with_reducible refine quiet_take (v := ?_) ?_ ?_ ?_
          rotate_left
          · rfl
          · (intro w hSw; (try dsimp only at hSw); go_simp); all_goals (with_reducible rfl)
          try simp only [Act.put, List.setIfInBounds_toArray, List.set_cons_zero, List.set_cons_succ]
          with_reducible refine quiet_take (v := ?_) ?_ ?_ ?_
          rotate_left
          · rfl
          · (intro w hSw; (try dsimp only at hSw); go_simp); all_goals (with_reducible rfl)
          try simp only [Act.put, List.setIfInBounds_toArray, List.set_cons_zero, List.set_cons_succ]
          with_reducible refine quiet_take (v := ?_) ?_ ?_ ?_
          rotate_left
          · rfl
          · (intro w hSw; have g7 := (hSw.cell (cell_under p7)).trans p7; have l0 := (hSw.cell (cell_under q0)).trans q0; (try dsimp only at hSw); go_simp); all_goals (with_reducible rfl)
          try simp only [Act.put, List.setIfInBounds_toArray, List.set_cons_zero, List.set_cons_succ]
          with_reducible refine quiet_take (v := ?_) ?_ ?_ ?_
          rotate_left
          · rfl
          · (intro w hSw; (try dsimp only at hSw); go_simp); all_goals (with_reducible rfl)
          try simp only [Act.put, List.setIfInBounds_toArray, List.set_cons_zero, List.set_cons_succ]
          with_reducible refine quiet_take (v := ?_) ?_ ?_ ?_
          rotate_left
          · rfl
          · (intro w hSw; (try dsimp only at hSw); go_simp); all_goals (with_reducible rfl)
          try simp only [Act.put, List.setIfInBounds_toArray, List.set_cons_zero, List.set_cons_succ]
          with_reducible refine quiet_take (v := ?_) ?_ ?_ ?_
          rotate_left
          · rfl
          · (intro w hSw; (try dsimp only at hSw); go_simp); all_goals (with_reducible rfl)
          try simp only [Act.put, List.setIfInBounds_toArray, List.set_cons_zero, List.set_cons_succ]
          with_reducible refine quiet_take (v := ?_) ?_ ?_ ?_
          rotate_left
          · rfl
          · (intro w hSw; (try dsimp only at hSw); go_simp); all_goals (with_reducible rfl)
          try simp only [Act.put, List.setIfInBounds_toArray, List.set_cons_zero, List.set_cons_succ]
          with_reducible refine quiet_take (v := ?_) ?_ ?_ ?_
          rotate_left
          · rfl
          · (intro w hSw; have g7 := (hSw.cell (cell_under p7)).trans p7; (try dsimp only at hSw); go_simp); all_goals (with_reducible rfl)
          try simp only [Act.put, List.setIfInBounds_toArray, List.set_cons_zero, List.set_cons_succ]
          with_reducible refine quiet_take (v := ?_) ?_ ?_ ?_
          rotate_left
          · rfl
          · (intro w hSw; (try dsimp only at hSw); go_simp); all_goals (with_reducible rfl)
          try simp only [Act.put, List.setIfInBounds_toArray, List.set_cons_zero, List.set_cons_succ]
          with_reducible refine quiet_take (v := ?_) ?_ ?_ ?_
          rotate_left
          · rfl
          · (intro w hSw; (try dsimp only at hSw); go_simp); all_goals (with_reducible rfl)
          try simp only [Act.put, List.setIfInBounds_toArray, List.set_cons_zero, List.set_cons_succ]
          with_reducible refine quiet_take (v := ?_) ?_ ?_ ?_
          rotate_left
          · rfl
          · (intro w hSw; (try dsimp only at hSw); go_simp); all_goals (with_reducible rfl)
          try simp only [Act.put, List.setIfInBounds_toArray, List.set_cons_zero, List.set_cons_succ]
          with_reducible refine quiet_take (v := ?_) ?_ ?_ ?_
          rotate_left
          · rfl
          · (intro w hSw; have k0 := (hSw.cell (cell_under (HC.out 0 (by decide)))).trans (HC.out 0 (by decide)); have k1 := (hSw.cell (cell_under (HC.out 1 (by decide)))).trans (HC.out 1 (by decide)); have k2 := (hSw.cell (cell_under (HC.out 2 (by decide)))).trans (HC.out 2 (by decide)); have k3 := (hSw.cell (cell_under (HC.out 3 (by decide)))).trans (HC.out 3 (by decide)); have k4 := (hSw.cell (cell_under (HC.out 4 (by decide)))).trans (HC.out 4 (by decide)); have k5 := (hSw.cell (cell_under (HC.out 5 (by decide)))).trans (HC.out 5 (by decide)); have k6 := (hSw.cell (cell_under (HC.out 6 (by decide)))).trans (HC.out 6 (by decide)); have k7 := (hSw.cell (cell_under (HC.out 7 (by decide)))).trans (HC.out 7 (by decide)); have k8 := (hSw.cell (cell_under (HC.out 8 (by decide)))).trans (HC.out 8 (by decide)); have k9 := (hSw.cell (cell_under (HC.out 9 (by decide)))).trans (HC.out 9 (by decide)); have k10 := (hSw.cell (cell_under (HC.out 10 (by decide)))).trans (HC.out 10 (by decide)); have k11 := (hSw.cell (cell_under (HC.out 11 (by decide)))).trans (HC.out 11 (by decide)); simp only [Nat.reduceAdd] at k0 k1 k2 k3 k4 k5 k6 k7 k8 k9 k10 k11; (try dsimp only at hSw); go_simp); all_goals (with_reducible rfl)
          try simp only [Act.put, List.setIfInBounds_toArray, List.set_cons_zero, List.set_cons_succ]
          with_reducible refine quiet_take (v := ?_) ?_ ?_ ?_
          rotate_left
          · rfl
          · (intro w hSw; (try dsimp only at hSw); go_simp); all_goals (with_reducible rfl)
          try simp only [Act.put, List.setIfInBounds_toArray, List.set_cons_zero, List.set_cons_succ]
          with_reducible refine quiet_take (v := ?_) ?_ ?_ ?_
          rotate_left
          · rfl
          · (intro w hSw; (try dsimp only at hSw); go_simp); all_goals (with_reducible rfl)
          try simp only [Act.put, List.setIfInBounds_toArray, List.set_cons_zero, List.set_cons_succ]
          refine wpQuiet_nil ?_
          intro W hSw
          refine wpAny_of_held (S := fun _ => True) _ _ _ _ ?_
          refine wpAnyH_ready (rs := [21]) (by kernel_rfl) (by simp) ?_
          refine AllReadyH.cons (o := _) rfl (fun K hK => ?_) ?_
          · -- 133
            go_simp
            (refine Calls.mono (cS _ hSw) ?_; rintro e w9 ⟨⟨u, rfl, hu⟩, hk9⟩; have hkp9 := hkp.trans ((Keeps.of hSw hbs).trans hk9); have hbs9 := OwnTots.base_le hu (insT_pos _ _ _); have hb9 := hk9 w0 (hb0.trans (hSw.mono hb0.size)) HK.out.1)
            refine hK.out _ _ trivial (fun _ => ?_)
            clear hK K
            try simp only [List.setIfInBounds_toArray, List.set_cons_zero, List.set_cons_succ]
            refine wpAnyH_ready (rs := [22]) (by kernel_rfl) (by simp) ?_
            refine AllReadyH.cons (o := _) rfl (fun K hK => ?_) ?_
            · -- assign
              go_simp
              refine hK.out _ _ trivial (fun _ => ?_)
              clear hK K
              try simp only [List.setIfInBounds_toArray, List.set_cons_zero, List.set_cons_succ]
              refine wpAnyH_done (by kernel_rfl) ?_ _
              have hbz := hb0
              go_wp2_with fail
              go_roundw
              case rel => exact ⟨j + 1, _, by omega, by go_num, hu, HE2, hI2, hb9, hkp9, hbs9⟩
              case measure => simp [numOf'] <;> omega
            exact AllReadyH.nil
          exact AllReadyH.nil
        · obtain rfl : j = (g i).k := by omega
          have hE2 : Hid (R = gamT s g (i + 1) (n - (i + 1)) Ld) := Lib.hid (by rw [hE.out, Nat.sub_self, linT])
          have hI2 : InvT (m + (i + 1) * 62) Ld := hIc.mono (by rw [Nat.add_mul]; omega)
          clear hE hIc hli
          go_wp2_with fail
          go_roundw
          case rel => exact ⟨i + 1, Ld, by omega, by go_num, hl, hE2, hI2, hb0, hkp, hbs⟩
          case measure => simp [numOf'] <;> omega
    · obtain rfl : i = n := by omega
      have hl2 : OwnTots wr base 56 u0 R := by rw [hE.out, Nat.sub_self, gamT]; exact hl
      clear hl hE hIc
      go_wp2_with fail
      go_ret
      exact ⟨⟨_, rfl, hl2⟩, hkp, hbs⟩
end Go.Proofs.Tryz
