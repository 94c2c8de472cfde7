/- The reference's standings: by the kit's walk. -/
import Derived.Test.YtbfonnoebbjenaaGreatDoorAxSb
import Derived.Test.YtbfonnoebbjenaaGreatDoorAxH
import Derived.Deep.CutBlock
import Derived.Deep.CutRange
namespace Go.Proofs.Tryz
open Go Go.Am Go.RowKit Go.Op
set_option maxRecDepth 100000

theorem info84 : (prog.info? 84).map (fun i => (i.zero, i.size, i.bytes)) = some (some (.agg #[.string ⟨#[]⟩, .int .i64 0, .int .i64 0, .int .i64 0, .int .i64 0, .int .i64 0]), 6, 56) := by kernel_rfl
theorem el84 : ∃ i, ElT 94 84 6 i (.agg #[.string ⟨#[]⟩, .int .i64 0, .int .i64 0, .int .i64 0, .int .i64 0, .int .i64 0]) 56 := by
  obtain ⟨i0, hi, hz0, hz1, hz2⟩ := info_more info84
  exact ⟨i0, by kernel_rfl, hi, hz0, hz1, hz2, rfl, by decide, by decide⟩
theorem run_slice84 (w : World) (s : Std) : (Instr.buildSlice 94 1 #[(0, .agg s.arr)]).run prog w = .ok (.slice (some ⟨w.heap.size, 0, none⟩) 1 1) (w.alloc (.cells s.arr 84)) := by unfold Std.arr; simp [go_sem]
def SideR (B : Nat) (g : Nat → GmD) (i : Nat) (s3 s5 : Value) (wr : World) : Prop := (s5 = .int .i64 0 ∧ OwnRow wr B 84 6 s3 ((stdsK g i).map Std.cells)) ∨ (s5 = .int .i64 1 ∧ OwnRow wr B 84 6 s3 ((bump (g i).t0 (g i).s0 (g i).s1 (stdsK g i)).map Std.cells)) ∨ (s5 = .int .i64 2 ∧ OwnRow wr B 84 6 s3 ((stdsK g (i + 1)).map Std.cells))
theorem OwnRow.lenS {L L' : List Std} {a : Nat} {x : Std} (h : L = L'.set a x) : L.length = L'.length := by rw [h, List.length_set]
set_option maxHeartbeats 12800000 in
theorem standingsR_w {w : World} {g : Nat → GmD} {n : Nat} {v : Value} (h : IsGames w v g n) (hn : n ≤ 66) (hsc0 : ∀ i, i < n → ScOk (g i)) :
    Calls prog 50 #[v] w fun e w' => (∃ u, e = .returned u ∧ ∃ S, Hid (S.Perm (stdsK g n) ∧ SortS S) ∧ OwnRow w' w.heap.size 84 6 u (S.map Std.cells)) ∧ Below w.heap.size w w' := by
  have HG := Lib.hid (And.intro h hsc0)
  obtain ⟨lv, hr, -⟩ := h
  obtain ⟨ad, c, rfl, hnc⟩ := hr.slice
  obtain ⟨iT, TT⟩ := el84
  have HT := Lib.hid TT
  clear TT hr hsc0
  go_enter func50, ntmps50
  go_upto_block 0 with fail
  go_cut [3] from 4 (fun s wx => OwnRow wx w.heap.size 84 6 s ((stdsK g n).map Std.cells) ∧ Below w.heap.size w wx)
  case first =>
    go_wp2_with fail
    go_loopw [3, 4] (fun s3 s4 wr => ∃ i : Nat, i ≤ n ∧ s4 = .int .i64 i ∧ OwnRow wr w.heap.size 84 6 s3 ((stdsK g i).map Std.cells) ∧ Below w.heap.size w wr) (fun _ s4 _ => n - (numOf' s4).toNat)
    case atStart => exact ⟨0, Nat.zero_le _, rfl, OwnRow.start _ _ _ _, Below.refl _ _⟩
    case round =>
      obtain ⟨i, hi, rfl, hrow, hb⟩ := hrel
      by_cases hin : i < n
      · have hii : (i : Int) < (n : Int) := by omega
        obtain ⟨bb, off, c1, a1, kc, e, -, -, p0, p1, p2, p3, p4, p5, p6, p7⟩ := HG.out.1.at hin
        simp only [Value.slice.injEq, true_and] at e
        obtain ⟨rfl, rfl⟩ := e
        rw [show off + i * 8 + 3 = off + i * 8 + 3 from rfl] at p3
        have hsc := HG.out.2 i hin
        have hinv00 := InvS.all (g := g) (n := i) fun j hj => HG.out.2 j (by omega)
        have hinv0 : InvS (2 * i + 1) (stdsK g i) := hinv00.mono (by omega)
        have hinv1 : InvS (2 * i + 1) (bump (g i).t0 (g i).s0 (g i).s1 (stdsK g i)) := hinv00.bump _ hsc.1 hsc.2
        clear hinv00 p0 p1 p2 p7
        go_wp2_with fail
        go_loopw [3, 5] (fun s3 s5 wr => ∃ q : Nat, 0 ≤ q ∧ SideR w.heap.size g i s3 s5 wr ∧ Below w.heap.size w wr) (fun _ s5 _ => 2 - (numOf' s5).toNat)
        case atStart => exact ⟨0, Nat.zero_le _, Or.inl ⟨rfl, hrow⟩, hb⟩
        case round =>
          clear hrow hb
          obtain ⟨_, -, hcase, hb⟩ := hrel
          unfold SideR at hcase
          rcases hcase with ⟨rfl, hrow⟩ | ⟨rfl, hrow⟩ | ⟨rfl, hrow⟩
          · clear hinv1
            obtain ⟨tm, htm⟩ : ∃ x, (g i).t0 = x := ⟨_, rfl⟩
            obtain ⟨ow, how⟩ : ∃ x, (g i).s0 = x := ⟨_, rfl⟩
            obtain ⟨oth, hoth⟩ : ∃ x, (g i).s1 = x := ⟨_, rfl⟩
            obtain ⟨L, hL⟩ : ∃ L, stdsK g i = L := ⟨_, rfl⟩
            have hrng : (0 ≤ ow ∧ ow ≤ 999) ∧ 0 ≤ oth ∧ oth ≤ 999 := by rw [← how, ← hoth]; exact hsc
            have lt9 : (bA tm).toList = tm := bA_list _
            have hinv : InvS (2 * i + 1) L := by rw [← hL]; exact hinv0
            have HNX : Hid (bump (g i).t0 (g i).s0 (g i).s1 (stdsK g i) = bump tm ow oth L) := Lib.hid (by subst htm how hoth hL; rfl)
            rw [hL] at hrow
            have hll : L.length ≤ 200 := Nat.le_trans hinv.len (by omega)
            obtain ⟨M, hM⟩ : ∃ M, L.length = M := ⟨_, rfl⟩
            have HM := Lib.hid hM
            obtain ⟨ra, rc, hr⟩ := OwnRow.slice hrow
            rw [List.length_map, hM] at hr
            subst hr
            rw [hM] at hll
            have HINV := Lib.hid hinv
            have HG0 : Hid (w.cell? ⟨bb, off + i * 8 + 3, none⟩ = some (.string (bA tm)) ∧ w.cell? ⟨bb, off + i * 8 + 5, none⟩ = some (.int .i64 ow) ∧ w.cell? ⟨bb, off + i * 8 + 6, none⟩ = some (.int .i64 oth)) := Lib.hid (by rw [← htm, ← how, ← hoth]; exact ⟨p3, p5, p6⟩)
            clear hinv htm how hoth hL hM
            generalize wr = WS at hrow hb ⊢
            go_upto_block 4 with fail
            go_cut [6] from 21 to 121 (fun s6 wx => ∃ a : Nat, a ≤ M ∧ s6 = .int .i64 a ∧ Hid (∀ j x, j < a → L[j]? = some x → x.t ≠ tm) ∧ Hid (a < M → ∃ x, L[a]? = some x ∧ x.t = tm) ∧ OwnRow wx w.heap.size 84 6 (.slice ra M rc) (L.map Std.cells) ∧ Below w.heap.size w wx)
            case first =>
              go_wp2_with fail
              go_loopw [6] (fun s6 wx => ∃ a : Nat, a ≤ M ∧ s6 = .int .i64 a ∧ Hid (∀ j x, j < a → L[j]? = some x → x.t ≠ tm) ∧ OwnRow wx w.heap.size 84 6 (.slice ra M rc) (L.map Std.cells) ∧ Below w.heap.size w wx) (fun s6 _ => M - (numOf' s6).toNat)
              case atStart => exact ⟨0, Nat.zero_le _, rfl, Lib.hid (fun j x hj => absurd hj (Nat.not_lt_zero _)), hrow, hb⟩
              case round =>
                clear hrow hb
                obtain ⟨a, ha, rfl, hpre, hrow, hb⟩ := hrel
                have p1 := (hb.cell (cell_under HG0.out.1)).trans HG0.out.1
                by_cases haM : a < M
                · obtain ⟨x, hx⟩ : ∃ x, L[a]? = some x := ⟨_, List.getElem?_eq_getElem (by rw [HM.out]; exact haM)⟩
                  have hxr : (L.map Std.cells)[a]? = some x.cells := by rw [List.getElem?_map, hx]; rfl
                  obtain ⟨gg, cap, eo, -, -⟩ := OwnRow.own hrow (i := a) (by rw [List.length_map, HM.out]; exact haM)
                  rw [List.length_map, HM.out] at eo
                  simp only [Value.slice.injEq, true_and] at eo
                  obtain ⟨rfl, rfl⟩ := eo
                  have q0 := (OwnRow.cell hrow hxr (j := 0) (u := .string (bA x.t)) rfl).1
                  rw [Nat.add_zero] at q0
                  have haa : (a : Int) < (M : Int) := by omega
                  have lx : (bA x.t).toList = x.t := bA_list _
                  by_cases hq : x.t = tm
                  · have hfin : Hid (a < M → ∃ x, L[a]? = some x ∧ x.t = tm) := Lib.hid fun _ => ⟨x, hx, hq⟩
                    have hqb : (x.t == tm) = true := by simpa using hq
                    clear hx hxr hq
                    go_wp2_with fail
                    go_quiet (fail)
                    have hbn := belowN hb nq
                    have hrn := OwnRow.below hrow (belowN (Below.refl _ _) nq)
                    go_wp2_with fail
                    go_meet
                    exact ⟨a, ha, rfl, hpre, hfin, hrn, hbn⟩
                  · have hpre2 : Hid (∀ j y, j < a + 1 → L[j]? = some y → y.t ≠ tm) := Lib.hid fun j y hj hy => by
                      rcases Nat.lt_succ_iff_lt_or_eq.1 hj with h | rfl
                      · exact hpre.out j y h hy
                      · rw [hx] at hy; cases hy; exact hq
                    have hqb : (x.t == tm) = false := by simpa using hq
                    clear hx hxr hq hpre
                    go_wp2_with fail
                    go_quiet (fail)
                    have hbn := belowN hb nq
                    have hrn := OwnRow.below hrow (belowN (Below.refl _ _) nq)
                    go_wp2_with fail
                    go_roundw
                    case rel => exact ⟨a + 1, by omega, by go_num, hpre2, hrn, hbn⟩
                    case measure => simp [numOf'] <;> omega
                · obtain rfl : a = M := by omega
                  have hfin : Hid (a < a → ∃ x, L[a]? = some x ∧ x.t = tm) := Lib.hid fun h => absurd h (Nat.lt_irrefl _)
                  have haa : ¬ (a : Int) < (a : Int) := by omega
                  go_wp2_with fail
                  go_quiet (fail)
                  have hbn := belowN hb nq
                  have hrn := OwnRow.below hrow (belowN (Below.refl _ _) nq)
                  go_wp2_with fail
                  go_meet
                  exact ⟨a, ha, rfl, hpre, hfin, hrn, hbn⟩
            case rest =>
            clear hrow hb
            obtain ⟨a, ha, rfl, hpre, hfin, hrow, hb⟩ := hcut
            generalize wc = WS2 at hrow hb ⊢
            go_upto_if 45 with fail
            go_cut [3, 45] from 46 to 121 (fun s3 s45 wx => ∃ (L' : List Std) (x : Std), Hid (L'[a]? = some x ∧ SmS (2 * i + 1) x ∧ bump tm ow oth L = L'.set a (addS x ow oth)) ∧ OwnRow wx w.heap.size 84 6 s3 (L'.map Std.cells) ∧ Below w.heap.size w wx)
            case first =>
              by_cases haM : a < M
              · obtain ⟨x, hx, hxt⟩ := hfin.out haM
                have hR : Hid (L[a]? = some x ∧ SmS (2 * i + 1) x ∧ bump tm ow oth L = L.set a (addS x ow oth)) := Lib.hid ⟨hx, HINV.out.small x (List.mem_of_getElem? hx), bump_at hpre.out hx hxt⟩
                have haa : ((a : Int) == (M : Int)) = false := by
                  have : ¬ (a : Int) = (M : Int) := by omega
                  exact beq_eq_false_iff_ne.2 this
                clear hx hxt hpre hfin
                go_wp2_with fail
                go_meet
                exact ⟨L, x, hR, hrow, hb⟩
              · have haE : a = M := by omega
                have hbn : bump tm ow oth L = L ++ [addS (zeroS tm) ow oth] := bump_new fun j x hj hx => hpre.out j x (by rw [haE, ← HM.out]; exact hj) hx
                have hR : Hid ((L ++ [zeroS tm])[a]? = some (zeroS tm) ∧ SmS (2 * i + 1) (zeroS tm) ∧ bump tm ow oth L = (L ++ [zeroS tm]).set a (addS (zeroS tm) ow oth)) := Lib.hid ⟨by rw [haE, ← HM.out]; simp, SmS.zero _ _, by rw [hbn, haE, ← HM.out]; simp⟩
                have haa : ((a : Int) == (M : Int)) = true := by
                  have : (a : Int) = (M : Int) := by omega
                  exact beq_iff_eq.2 this
                have p1 := (hb.cell (cell_under HG0.out.1)).trans HG0.out.1
                clear hbn hpre hfin haE
                go_wp2_with (first
                  | (with_reducible refine haltR ?_)
                  | fail)
                unfold Halt
                have hal := fun o => (Below.refl WS2.heap.size WS2).alloc (Nat.le_refl _) o
                refine wpList_sliceR (fun w => run_slice84 w (zeroS tm)) _ rfl _ rfl rfl ?_
                refine wpList_appendR HT.out _ rfl _ _ rfl w.heap.size _ (L.map Std.cells) _ rfl 1 rfl (OwnRow.below hrow (hal _)) (by rw [List.length_map, HM.out]; omega) (zeroS tm).cells rfl (Std.one _) (at_new _ _ _) (Nat.le_trans hb.size (hal _).size) ?_
                intro a9 k9 c9 w9 hA
                have hrow9 : OwnRow w9 w.heap.size 84 6 (.slice a9 k9 c9) ((L ++ [zeroS tm]).map Std.cells) := by
                  have := hA.row
                  rw [List.map_append]
                  exact this
                have hb9 := hA.below w (hb.trans ((hal _).mono hb.size)) (Nat.le_refl _)
                clear hA hal hrow hb p1
                go_wp2_with fail
                go_meet
                exact ⟨_, _, hR, hrow9, hb9⟩
            case rest =>
            clear hrow hb hpre hfin
            obtain ⟨L', x, hR, hrow, hb⟩ := hcut
            generalize wc = WS3 at hrow hb ⊢
            have hxr : (L'.map Std.cells)[a]? = some x.cells := by rw [List.getElem?_map, hR.out.1]; rfl
            obtain ⟨gg, cap, eo, hbg, -⟩ := OwnRow.own hrow (i := a) (List.getElem?_eq_some_iff.1 hxr).1
            subst eo
            obtain ⟨M', hM'⟩ : ∃ m, (L'.map Std.cells).length = m := ⟨_, rfl⟩
            have haM' : a < M' := by rw [← hM']; exact (List.getElem?_eq_some_iff.1 hxr).1
            rw [hM'] at hrow ⊢
            have hM2 : M' ≤ 300 := by
              have := OwnRow.lenS hR.out.2.2
              rw [List.length_map] at hM'
              have h2 := bump_len (p := tm) (o := ow) (h := oth) (L := L)
              rw [HM.out] at h2
              omega
            have haa : (a : Int) < (M' : Int) := by omega
            have p2 := (hb.cell (cell_under HG0.out.2.1)).trans HG0.out.2.1
            have p3 := (hb.cell (cell_under HG0.out.2.2)).trans HG0.out.2.2
            obtain ⟨s1, s2, s3, s4, s5⟩ := hR.out.2.1
            have i64 : (i : Int) ≤ 66 := by omega
            go_wp2_with fail
            go_cut [7, 8] from 57 to 121 (fun s7 s8 wx => s7 = .int .i64 ow ∧ s8 = .int .i64 oth ∧ Below WS3.heap.size WS3 wx)
            case first =>
              go_quiet (fail)
              have hbn := belowN (Below.refl WS3.heap.size WS3) nq
              go_wp2_with fail
              go_meet
              exact ⟨rfl, rfl, hbn⟩
            case rest =>
            obtain ⟨rfl, rfl, hbc⟩ := hcut
            have hrow := OwnRow.below hrow hbc
            have hb := hb.trans (hbc.mono hb.size)
            generalize wc = WS4 at hrow hb ⊢
            obtain ⟨X, Y⟩ : True ∧ True := ⟨trivial, trivial⟩
            obtain ⟨tx, Wx, Lx, Dx, Fx, Ax⟩ := x
            simp only at s1 s2 s3 s4 s5
            obtain ⟨r1, r2⟩ := inI_wrap (show inI (Fx + ow) by unfold inI; omega)
            obtain ⟨r3, r4⟩ := inI_wrap (show inI (Ax + oth) by unfold inI; omega)
            obtain ⟨r5, r6⟩ := inI_wrap (show inI (Wx + 1) by unfold inI; omega)
            obtain ⟨r7, r8⟩ := inI_wrap (show inI (Lx + 1) by unfold inI; omega)
            obtain ⟨r9, r10⟩ := inI_wrap (show inI (Dx + 1) by unfold inI; omega)
            obtain ⟨c4, f4⟩ := OwnRow.cell hrow hxr (j := 4) (u := .int .i64 Fx) rfl
            obtain ⟨c5, f5⟩ := OwnRow.cell hrow hxr (j := 5) (u := .int .i64 Ax) rfl
            obtain ⟨c1, f1⟩ := OwnRow.cell hrow hxr (j := 1) (u := .int .i64 Wx) rfl
            obtain ⟨c2, f2⟩ := OwnRow.cell hrow hxr (j := 2) (u := .int .i64 Lx) rfl
            obtain ⟨c3, f3⟩ := OwnRow.cell hrow hxr (j := 3) (u := .int .i64 Dx) rfl
            have h4 := OwnRow.write hrow hxr (j := 4) (by decide) (.int .i64 (Fx + ow))
            have hx4 : ((L'.map Std.cells).set a ((Std.cells ⟨tx, Wx, Lx, Dx, Fx, Ax⟩).set 4 (.int .i64 (Fx + ow))))[a]? = some ((Std.cells ⟨tx, Wx, Lx, Dx, Fx, Ax⟩).set 4 (.int .i64 (Fx + ow))) := List.getElem?_set_self (List.getElem?_eq_some_iff.1 hxr).1
            have h5 := OwnRow.write h4 hx4 (j := 5) (by decide) (.int .i64 (Ax + oth))
            rw [List.set_set] at h5
            have hx5 : ((L'.map Std.cells).set a (((Std.cells ⟨tx, Wx, Lx, Dx, Fx, Ax⟩).set 4 (.int .i64 (Fx + ow))).set 5 (.int .i64 (Ax + oth))))[a]? = some (((Std.cells ⟨tx, Wx, Lx, Dx, Fx, Ax⟩).set 4 (.int .i64 (Fx + ow))).set 5 (.int .i64 (Ax + oth))) := List.getElem?_set_self (List.getElem?_eq_some_iff.1 hxr).1
            have hb5 := (hb.setCell (p := ⟨gg, a * 6 + 4, none⟩) hbg (.int .i64 (Fx + ow))).setCell (p := ⟨gg, a * 6 + 5, none⟩) hbg (.int .i64 (Ax + oth))
            clear h4 hx4 s1 s2 s3 s4 s5 p2 p3
            by_cases k1 : oth < ow
            · have h6 := OwnRow.write h5 hx5 (j := 1) (by decide) (.int .i64 (Wx + 1))
              have hb6 := hb5.setCell (p := ⟨gg, a * 6 + 1, none⟩) hbg (.int .i64 (Wx + 1))
              rw [List.set_set] at h6
              have hE : Hid ((bump (g i).t0 (g i).s0 (g i).s1 (stdsK g i)).map Std.cells = (L'.map Std.cells).set a ((((Std.cells ⟨tx, Wx, Lx, Dx, Fx, Ax⟩).set 4 (.int .i64 (Fx + ow))).set 5 (.int .i64 (Ax + oth))).set 1 (.int .i64 (Wx + 1)))) := Lib.hid (by
                rw [HNX.out, hR.out.2.2, List.map_set]
                unfold addS
                rw [if_pos k1, if_neg (show ¬ ow < oth by omega), if_pos k1]
                rfl)
              have hrow9 : OwnRow (((WS4.setCell ⟨gg, a * 6 + 4, none⟩ (.int .i64 (Fx + ow))).setCell ⟨gg, a * 6 + 5, none⟩ (.int .i64 (Ax + oth))).setCell ⟨gg, a * 6 + 1, none⟩ (.int .i64 (Wx + 1))) w.heap.size 84 6 (.slice (some ⟨gg, 0, none⟩) M' cap) ((bump (g i).t0 (g i).s0 (g i).s1 (stdsK g i)).map Std.cells) := by rw [hE.out]; exact h6
              clear h5 h6 hx5 hrow hb hb5 hE hxr
              go_wp2_with fail
              go_roundw
              case rel => exact ⟨0, Nat.zero_le _, Or.inr (Or.inl ⟨rfl, hrow9⟩), hb6⟩
              case measure => simp [numOf']
            · by_cases k2 : ow < oth
              · have h6 := OwnRow.write h5 hx5 (j := 2) (by decide) (.int .i64 (Lx + 1))
                have hb6 := hb5.setCell (p := ⟨gg, a * 6 + 2, none⟩) hbg (.int .i64 (Lx + 1))
                rw [List.set_set] at h6
                have hE : Hid ((bump (g i).t0 (g i).s0 (g i).s1 (stdsK g i)).map Std.cells = (L'.map Std.cells).set a ((((Std.cells ⟨tx, Wx, Lx, Dx, Fx, Ax⟩).set 4 (.int .i64 (Fx + ow))).set 5 (.int .i64 (Ax + oth))).set 2 (.int .i64 (Lx + 1)))) := Lib.hid (by
                  rw [HNX.out, hR.out.2.2, List.map_set]
                  unfold addS
                  rw [if_neg k1, if_pos k2, if_neg k1, if_pos k2]
                  rfl)
                have hrow9 : OwnRow (((WS4.setCell ⟨gg, a * 6 + 4, none⟩ (.int .i64 (Fx + ow))).setCell ⟨gg, a * 6 + 5, none⟩ (.int .i64 (Ax + oth))).setCell ⟨gg, a * 6 + 2, none⟩ (.int .i64 (Lx + 1))) w.heap.size 84 6 (.slice (some ⟨gg, 0, none⟩) M' cap) ((bump (g i).t0 (g i).s0 (g i).s1 (stdsK g i)).map Std.cells) := by rw [hE.out]; exact h6
                clear h5 h6 hx5 hrow hb hb5 hE hxr
                go_wp2_with fail
                go_roundw
                case rel => exact ⟨0, Nat.zero_le _, Or.inr (Or.inl ⟨rfl, hrow9⟩), hb6⟩
                case measure => simp [numOf']
              · have h6 := OwnRow.write h5 hx5 (j := 3) (by decide) (.int .i64 (Dx + 1))
                have hb6 := hb5.setCell (p := ⟨gg, a * 6 + 3, none⟩) hbg (.int .i64 (Dx + 1))
                rw [List.set_set] at h6
                have hE : Hid ((bump (g i).t0 (g i).s0 (g i).s1 (stdsK g i)).map Std.cells = (L'.map Std.cells).set a ((((Std.cells ⟨tx, Wx, Lx, Dx, Fx, Ax⟩).set 4 (.int .i64 (Fx + ow))).set 5 (.int .i64 (Ax + oth))).set 3 (.int .i64 (Dx + 1)))) := Lib.hid (by
                  rw [HNX.out, hR.out.2.2, List.map_set]
                  unfold addS
                  rw [if_neg k1, if_neg k2, if_neg k1, if_neg k2]
                  rfl)
                have hrow9 : OwnRow (((WS4.setCell ⟨gg, a * 6 + 4, none⟩ (.int .i64 (Fx + ow))).setCell ⟨gg, a * 6 + 5, none⟩ (.int .i64 (Ax + oth))).setCell ⟨gg, a * 6 + 3, none⟩ (.int .i64 (Dx + 1))) w.heap.size 84 6 (.slice (some ⟨gg, 0, none⟩) M' cap) ((bump (g i).t0 (g i).s0 (g i).s1 (stdsK g i)).map Std.cells) := by rw [hE.out]; exact h6
                clear h5 h6 hx5 hrow hb hb5 hE hxr
                go_wp2_with fail
                go_roundw
                case rel => exact ⟨0, Nat.zero_le _, Or.inr (Or.inl ⟨rfl, hrow9⟩), hb6⟩
                case measure => simp [numOf']
          · clear hinv0
            obtain ⟨tm, htm⟩ : ∃ x, (g i).t1 = x := ⟨_, rfl⟩
            obtain ⟨ow, how⟩ : ∃ x, (g i).s1 = x := ⟨_, rfl⟩
            obtain ⟨oth, hoth⟩ : ∃ x, (g i).s0 = x := ⟨_, rfl⟩
            obtain ⟨L, hL⟩ : ∃ L, bump (g i).t0 (g i).s0 (g i).s1 (stdsK g i) = L := ⟨_, rfl⟩
            have hrng : (0 ≤ ow ∧ ow ≤ 999) ∧ 0 ≤ oth ∧ oth ≤ 999 := by rw [← how, ← hoth]; exact ⟨hsc.2, hsc.1⟩
            have lt9 : (bA tm).toList = tm := bA_list _
            have hinv : InvS (2 * i + 1) L := by rw [← hL]; exact hinv1
            have HNX : Hid (stdsK g (i + 1) = bump tm ow oth L) := Lib.hid (by subst htm how hoth hL; rfl)
            rw [hL] at hrow
            have hll : L.length ≤ 200 := Nat.le_trans hinv.len (by omega)
            obtain ⟨M, hM⟩ : ∃ M, L.length = M := ⟨_, rfl⟩
            have HM := Lib.hid hM
            obtain ⟨ra, rc, hr⟩ := OwnRow.slice hrow
            rw [List.length_map, hM] at hr
            subst hr
            rw [hM] at hll
            have HINV := Lib.hid hinv
            have HG0 : Hid (w.cell? ⟨bb, off + i * 8 + 4, none⟩ = some (.string (bA tm)) ∧ w.cell? ⟨bb, off + i * 8 + 6, none⟩ = some (.int .i64 ow) ∧ w.cell? ⟨bb, off + i * 8 + 5, none⟩ = some (.int .i64 oth)) := Lib.hid (by rw [← htm, ← how, ← hoth]; exact ⟨p4, p6, p5⟩)
            clear hinv htm how hoth hL hM
            generalize wr = WS at hrow hb ⊢
            go_upto_block 4 with fail
            go_cut [6] from 21 to 121 (fun s6 wx => ∃ a : Nat, a ≤ M ∧ s6 = .int .i64 a ∧ Hid (∀ j x, j < a → L[j]? = some x → x.t ≠ tm) ∧ Hid (a < M → ∃ x, L[a]? = some x ∧ x.t = tm) ∧ OwnRow wx w.heap.size 84 6 (.slice ra M rc) (L.map Std.cells) ∧ Below w.heap.size w wx)
            case first =>
              go_wp2_with fail
              go_loopw [6] (fun s6 wx => ∃ a : Nat, a ≤ M ∧ s6 = .int .i64 a ∧ Hid (∀ j x, j < a → L[j]? = some x → x.t ≠ tm) ∧ OwnRow wx w.heap.size 84 6 (.slice ra M rc) (L.map Std.cells) ∧ Below w.heap.size w wx) (fun s6 _ => M - (numOf' s6).toNat)
              case atStart => exact ⟨0, Nat.zero_le _, rfl, Lib.hid (fun j x hj => absurd hj (Nat.not_lt_zero _)), hrow, hb⟩
              case round =>
                clear hrow hb
                obtain ⟨a, ha, rfl, hpre, hrow, hb⟩ := hrel
                have p1 := (hb.cell (cell_under HG0.out.1)).trans HG0.out.1
                by_cases haM : a < M
                · obtain ⟨x, hx⟩ : ∃ x, L[a]? = some x := ⟨_, List.getElem?_eq_getElem (by rw [HM.out]; exact haM)⟩
                  have hxr : (L.map Std.cells)[a]? = some x.cells := by rw [List.getElem?_map, hx]; rfl
                  obtain ⟨gg, cap, eo, -, -⟩ := OwnRow.own hrow (i := a) (by rw [List.length_map, HM.out]; exact haM)
                  rw [List.length_map, HM.out] at eo
                  simp only [Value.slice.injEq, true_and] at eo
                  obtain ⟨rfl, rfl⟩ := eo
                  have q0 := (OwnRow.cell hrow hxr (j := 0) (u := .string (bA x.t)) rfl).1
                  rw [Nat.add_zero] at q0
                  have haa : (a : Int) < (M : Int) := by omega
                  have lx : (bA x.t).toList = x.t := bA_list _
                  by_cases hq : x.t = tm
                  · have hfin : Hid (a < M → ∃ x, L[a]? = some x ∧ x.t = tm) := Lib.hid fun _ => ⟨x, hx, hq⟩
                    have hqb : (x.t == tm) = true := by simpa using hq
                    clear hx hxr hq
                    go_wp2_with fail
                    go_quiet (fail)
                    have hbn := belowN hb nq
                    have hrn := OwnRow.below hrow (belowN (Below.refl _ _) nq)
                    go_wp2_with fail
                    go_meet
                    exact ⟨a, ha, rfl, hpre, hfin, hrn, hbn⟩
                  · have hpre2 : Hid (∀ j y, j < a + 1 → L[j]? = some y → y.t ≠ tm) := Lib.hid fun j y hj hy => by
                      rcases Nat.lt_succ_iff_lt_or_eq.1 hj with h | rfl
                      · exact hpre.out j y h hy
                      · rw [hx] at hy; cases hy; exact hq
                    have hqb : (x.t == tm) = false := by simpa using hq
                    clear hx hxr hq hpre
                    go_wp2_with fail
                    go_quiet (fail)
                    have hbn := belowN hb nq
                    have hrn := OwnRow.below hrow (belowN (Below.refl _ _) nq)
                    go_wp2_with fail
                    go_roundw
                    case rel => exact ⟨a + 1, by omega, by go_num, hpre2, hrn, hbn⟩
                    case measure => simp [numOf'] <;> omega
                · obtain rfl : a = M := by omega
                  have hfin : Hid (a < a → ∃ x, L[a]? = some x ∧ x.t = tm) := Lib.hid fun h => absurd h (Nat.lt_irrefl _)
                  have haa : ¬ (a : Int) < (a : Int) := by omega
                  go_wp2_with fail
                  go_quiet (fail)
                  have hbn := belowN hb nq
                  have hrn := OwnRow.below hrow (belowN (Below.refl _ _) nq)
                  go_wp2_with fail
                  go_meet
                  exact ⟨a, ha, rfl, hpre, hfin, hrn, hbn⟩
            case rest =>
            clear hrow hb
            obtain ⟨a, ha, rfl, hpre, hfin, hrow, hb⟩ := hcut
            generalize wc = WS2 at hrow hb ⊢
            go_upto_if 45 with fail
            go_cut [3, 45] from 46 to 121 (fun s3 s45 wx => ∃ (L' : List Std) (x : Std), Hid (L'[a]? = some x ∧ SmS (2 * i + 1) x ∧ bump tm ow oth L = L'.set a (addS x ow oth)) ∧ OwnRow wx w.heap.size 84 6 s3 (L'.map Std.cells) ∧ Below w.heap.size w wx)
            case first =>
              by_cases haM : a < M
              · obtain ⟨x, hx, hxt⟩ := hfin.out haM
                have hR : Hid (L[a]? = some x ∧ SmS (2 * i + 1) x ∧ bump tm ow oth L = L.set a (addS x ow oth)) := Lib.hid ⟨hx, HINV.out.small x (List.mem_of_getElem? hx), bump_at hpre.out hx hxt⟩
                have haa : ((a : Int) == (M : Int)) = false := by
                  have : ¬ (a : Int) = (M : Int) := by omega
                  exact beq_eq_false_iff_ne.2 this
                clear hx hxt hpre hfin
                go_wp2_with fail
                go_meet
                exact ⟨L, x, hR, hrow, hb⟩
              · have haE : a = M := by omega
                have hbn : bump tm ow oth L = L ++ [addS (zeroS tm) ow oth] := bump_new fun j x hj hx => hpre.out j x (by rw [haE, ← HM.out]; exact hj) hx
                have hR : Hid ((L ++ [zeroS tm])[a]? = some (zeroS tm) ∧ SmS (2 * i + 1) (zeroS tm) ∧ bump tm ow oth L = (L ++ [zeroS tm]).set a (addS (zeroS tm) ow oth)) := Lib.hid ⟨by rw [haE, ← HM.out]; simp, SmS.zero _ _, by rw [hbn, haE, ← HM.out]; simp⟩
                have haa : ((a : Int) == (M : Int)) = true := by
                  have : (a : Int) = (M : Int) := by omega
                  exact beq_iff_eq.2 this
                have p1 := (hb.cell (cell_under HG0.out.1)).trans HG0.out.1
                clear hbn hpre hfin haE
                go_wp2_with (first
                  | (with_reducible refine haltR ?_)
                  | fail)
                unfold Halt
                have hal := fun o => (Below.refl WS2.heap.size WS2).alloc (Nat.le_refl _) o
                refine wpList_sliceR (fun w => run_slice84 w (zeroS tm)) _ rfl _ rfl rfl ?_
                refine wpList_appendR HT.out _ rfl _ _ rfl w.heap.size _ (L.map Std.cells) _ rfl 1 rfl (OwnRow.below hrow (hal _)) (by rw [List.length_map, HM.out]; omega) (zeroS tm).cells rfl (Std.one _) (at_new _ _ _) (Nat.le_trans hb.size (hal _).size) ?_
                intro a9 k9 c9 w9 hA
                have hrow9 : OwnRow w9 w.heap.size 84 6 (.slice a9 k9 c9) ((L ++ [zeroS tm]).map Std.cells) := by
                  have := hA.row
                  rw [List.map_append]
                  exact this
                have hb9 := hA.below w (hb.trans ((hal _).mono hb.size)) (Nat.le_refl _)
                clear hA hal hrow hb p1
                go_wp2_with fail
                go_meet
                exact ⟨_, _, hR, hrow9, hb9⟩
            case rest =>
            clear hrow hb hpre hfin
            obtain ⟨L', x, hR, hrow, hb⟩ := hcut
            generalize wc = WS3 at hrow hb ⊢
            have hxr : (L'.map Std.cells)[a]? = some x.cells := by rw [List.getElem?_map, hR.out.1]; rfl
            obtain ⟨gg, cap, eo, hbg, -⟩ := OwnRow.own hrow (i := a) (List.getElem?_eq_some_iff.1 hxr).1
            subst eo
            obtain ⟨M', hM'⟩ : ∃ m, (L'.map Std.cells).length = m := ⟨_, rfl⟩
            have haM' : a < M' := by rw [← hM']; exact (List.getElem?_eq_some_iff.1 hxr).1
            rw [hM'] at hrow ⊢
            have hM2 : M' ≤ 300 := by
              have := OwnRow.lenS hR.out.2.2
              rw [List.length_map] at hM'
              have h2 := bump_len (p := tm) (o := ow) (h := oth) (L := L)
              rw [HM.out] at h2
              omega
            have haa : (a : Int) < (M' : Int) := by omega
            have p2 := (hb.cell (cell_under HG0.out.2.1)).trans HG0.out.2.1
            have p3 := (hb.cell (cell_under HG0.out.2.2)).trans HG0.out.2.2
            obtain ⟨s1, s2, s3, s4, s5⟩ := hR.out.2.1
            have i64 : (i : Int) ≤ 66 := by omega
            go_wp2_with fail
            go_cut [7, 8] from 57 to 121 (fun s7 s8 wx => s7 = .int .i64 ow ∧ s8 = .int .i64 oth ∧ Below WS3.heap.size WS3 wx)
            case first =>
              go_quiet (fail)
              have hbn := belowN (Below.refl WS3.heap.size WS3) nq
              go_wp2_with fail
              go_meet
              exact ⟨rfl, rfl, hbn⟩
            case rest =>
            obtain ⟨rfl, rfl, hbc⟩ := hcut
            have hrow := OwnRow.below hrow hbc
            have hb := hb.trans (hbc.mono hb.size)
            generalize wc = WS4 at hrow hb ⊢
            obtain ⟨X, Y⟩ : True ∧ True := ⟨trivial, trivial⟩
            obtain ⟨tx, Wx, Lx, Dx, Fx, Ax⟩ := x
            simp only at s1 s2 s3 s4 s5
            obtain ⟨r1, r2⟩ := inI_wrap (show inI (Fx + ow) by unfold inI; omega)
            obtain ⟨r3, r4⟩ := inI_wrap (show inI (Ax + oth) by unfold inI; omega)
            obtain ⟨r5, r6⟩ := inI_wrap (show inI (Wx + 1) by unfold inI; omega)
            obtain ⟨r7, r8⟩ := inI_wrap (show inI (Lx + 1) by unfold inI; omega)
            obtain ⟨r9, r10⟩ := inI_wrap (show inI (Dx + 1) by unfold inI; omega)
            obtain ⟨c4, f4⟩ := OwnRow.cell hrow hxr (j := 4) (u := .int .i64 Fx) rfl
            obtain ⟨c5, f5⟩ := OwnRow.cell hrow hxr (j := 5) (u := .int .i64 Ax) rfl
            obtain ⟨c1, f1⟩ := OwnRow.cell hrow hxr (j := 1) (u := .int .i64 Wx) rfl
            obtain ⟨c2, f2⟩ := OwnRow.cell hrow hxr (j := 2) (u := .int .i64 Lx) rfl
            obtain ⟨c3, f3⟩ := OwnRow.cell hrow hxr (j := 3) (u := .int .i64 Dx) rfl
            have h4 := OwnRow.write hrow hxr (j := 4) (by decide) (.int .i64 (Fx + ow))
            have hx4 : ((L'.map Std.cells).set a ((Std.cells ⟨tx, Wx, Lx, Dx, Fx, Ax⟩).set 4 (.int .i64 (Fx + ow))))[a]? = some ((Std.cells ⟨tx, Wx, Lx, Dx, Fx, Ax⟩).set 4 (.int .i64 (Fx + ow))) := List.getElem?_set_self (List.getElem?_eq_some_iff.1 hxr).1
            have h5 := OwnRow.write h4 hx4 (j := 5) (by decide) (.int .i64 (Ax + oth))
            rw [List.set_set] at h5
            have hx5 : ((L'.map Std.cells).set a (((Std.cells ⟨tx, Wx, Lx, Dx, Fx, Ax⟩).set 4 (.int .i64 (Fx + ow))).set 5 (.int .i64 (Ax + oth))))[a]? = some (((Std.cells ⟨tx, Wx, Lx, Dx, Fx, Ax⟩).set 4 (.int .i64 (Fx + ow))).set 5 (.int .i64 (Ax + oth))) := List.getElem?_set_self (List.getElem?_eq_some_iff.1 hxr).1
            have hb5 := (hb.setCell (p := ⟨gg, a * 6 + 4, none⟩) hbg (.int .i64 (Fx + ow))).setCell (p := ⟨gg, a * 6 + 5, none⟩) hbg (.int .i64 (Ax + oth))
            clear h4 hx4 s1 s2 s3 s4 s5 p2 p3
            by_cases k1 : oth < ow
            · have h6 := OwnRow.write h5 hx5 (j := 1) (by decide) (.int .i64 (Wx + 1))
              have hb6 := hb5.setCell (p := ⟨gg, a * 6 + 1, none⟩) hbg (.int .i64 (Wx + 1))
              rw [List.set_set] at h6
              have hE : Hid ((stdsK g (i + 1)).map Std.cells = (L'.map Std.cells).set a ((((Std.cells ⟨tx, Wx, Lx, Dx, Fx, Ax⟩).set 4 (.int .i64 (Fx + ow))).set 5 (.int .i64 (Ax + oth))).set 1 (.int .i64 (Wx + 1)))) := Lib.hid (by
                rw [HNX.out, hR.out.2.2, List.map_set]
                unfold addS
                rw [if_pos k1, if_neg (show ¬ ow < oth by omega), if_pos k1]
                rfl)
              have hrow9 : OwnRow (((WS4.setCell ⟨gg, a * 6 + 4, none⟩ (.int .i64 (Fx + ow))).setCell ⟨gg, a * 6 + 5, none⟩ (.int .i64 (Ax + oth))).setCell ⟨gg, a * 6 + 1, none⟩ (.int .i64 (Wx + 1))) w.heap.size 84 6 (.slice (some ⟨gg, 0, none⟩) M' cap) ((stdsK g (i + 1)).map Std.cells) := by rw [hE.out]; exact h6
              clear h5 h6 hx5 hrow hb hb5 hE hxr
              go_wp2_with fail
              go_roundw
              case rel => exact ⟨0, Nat.zero_le _, Or.inr (Or.inr ⟨rfl, hrow9⟩), hb6⟩
              case measure => simp [numOf']
            · by_cases k2 : ow < oth
              · have h6 := OwnRow.write h5 hx5 (j := 2) (by decide) (.int .i64 (Lx + 1))
                have hb6 := hb5.setCell (p := ⟨gg, a * 6 + 2, none⟩) hbg (.int .i64 (Lx + 1))
                rw [List.set_set] at h6
                have hE : Hid ((stdsK g (i + 1)).map Std.cells = (L'.map Std.cells).set a ((((Std.cells ⟨tx, Wx, Lx, Dx, Fx, Ax⟩).set 4 (.int .i64 (Fx + ow))).set 5 (.int .i64 (Ax + oth))).set 2 (.int .i64 (Lx + 1)))) := Lib.hid (by
                  rw [HNX.out, hR.out.2.2, List.map_set]
                  unfold addS
                  rw [if_neg k1, if_pos k2, if_neg k1, if_pos k2]
                  rfl)
                have hrow9 : OwnRow (((WS4.setCell ⟨gg, a * 6 + 4, none⟩ (.int .i64 (Fx + ow))).setCell ⟨gg, a * 6 + 5, none⟩ (.int .i64 (Ax + oth))).setCell ⟨gg, a * 6 + 2, none⟩ (.int .i64 (Lx + 1))) w.heap.size 84 6 (.slice (some ⟨gg, 0, none⟩) M' cap) ((stdsK g (i + 1)).map Std.cells) := by rw [hE.out]; exact h6
                clear h5 h6 hx5 hrow hb hb5 hE hxr
                go_wp2_with fail
                go_roundw
                case rel => exact ⟨0, Nat.zero_le _, Or.inr (Or.inr ⟨rfl, hrow9⟩), hb6⟩
                case measure => simp [numOf']
              · have h6 := OwnRow.write h5 hx5 (j := 3) (by decide) (.int .i64 (Dx + 1))
                have hb6 := hb5.setCell (p := ⟨gg, a * 6 + 3, none⟩) hbg (.int .i64 (Dx + 1))
                rw [List.set_set] at h6
                have hE : Hid ((stdsK g (i + 1)).map Std.cells = (L'.map Std.cells).set a ((((Std.cells ⟨tx, Wx, Lx, Dx, Fx, Ax⟩).set 4 (.int .i64 (Fx + ow))).set 5 (.int .i64 (Ax + oth))).set 3 (.int .i64 (Dx + 1)))) := Lib.hid (by
                  rw [HNX.out, hR.out.2.2, List.map_set]
                  unfold addS
                  rw [if_neg k1, if_neg k2, if_neg k1, if_neg k2]
                  rfl)
                have hrow9 : OwnRow (((WS4.setCell ⟨gg, a * 6 + 4, none⟩ (.int .i64 (Fx + ow))).setCell ⟨gg, a * 6 + 5, none⟩ (.int .i64 (Ax + oth))).setCell ⟨gg, a * 6 + 3, none⟩ (.int .i64 (Dx + 1))) w.heap.size 84 6 (.slice (some ⟨gg, 0, none⟩) M' cap) ((stdsK g (i + 1)).map Std.cells) := by rw [hE.out]; exact h6
                clear h5 h6 hx5 hrow hb hb5 hE hxr
                go_wp2_with fail
                go_roundw
                case rel => exact ⟨0, Nat.zero_le _, Or.inr (Or.inr ⟨rfl, hrow9⟩), hb6⟩
                case measure => simp [numOf']
          · clear hinv0 hinv1 p3 p4 p5 p6 hsc
            go_wp2_with fail
            go_roundw
            case rel => exact ⟨i + 1, by omega, by go_num, hrow, hb⟩
            case measure => simp [numOf'] <;> omega
      · obtain rfl : i = n := by omega
        go_wp2_with fail
        go_meet
        exact ⟨hrow, hb⟩
  case rest =>
    obtain ⟨hrowA, hbA⟩ := hcut
    have hFI := InvS.all (g := g) (n := n) HG.out.2
    obtain ⟨F, hF⟩ : ∃ F, stdsK g n = F := ⟨_, rfl⟩
    rw [hF] at hFI hrowA
    have HFF := Lib.hid hF
    have hFl : F.length ≤ 200 := Nat.le_trans hFI.len (by omega)
    obtain ⟨M, hM⟩ : ∃ M, F.length = M := ⟨_, rfl⟩
    have HM := Lib.hid hM
    obtain ⟨ra, rc, hr⟩ := OwnRow.slice hrowA
    rw [List.length_map, hM] at hr
    subst hr
    rw [hM] at hFl
    have HFS := Lib.hid (And.intro hFI.names hFI.small)
    have hm0 : 2 * n ≤ 10000 := by omega
    generalize wc = W1 at hrowA hbA ⊢
    clear hFI hF hM
    go_wp2_with fail
    go_loopw [9] (fun s9 wr => ∃ (p : Nat) (S : List Std), 1 ≤ p ∧ (p ≤ M ∨ p = 1) ∧ s9 = .int .i64 p ∧ S.Perm (F.take p) ∧ SortS S ∧ OwnRow wr w.heap.size 84 6 (.slice ra M rc) ((S ++ F.drop p).map Std.cells) ∧ Below w.heap.size w wr) (fun s9 _ => M + 1 - (numOf' s9).toNat)
    case atStart => exact ⟨1, F.take 1, Nat.le_refl _, .inr rfl, rfl, List.Perm.refl _, by unfold SortS; cases F <;> simp, by rw [List.take_append_drop]; exact hrowA, hbA⟩
    case round =>
      clear hrowA hbA
      obtain ⟨p, S, hp1, hpM, rfl, hSp, hSs, hrow, hb⟩ := hrel
      by_cases hlt : p < M
      · obtain ⟨x, hx⟩ : ∃ x, F[p]? = some x := ⟨_, List.getElem?_eq_getElem (by rw [HM.out]; exact hlt)⟩
        have hSl : S.length = p := by rw [hSp.length_eq, List.length_take, HM.out]; omega
        have e1 : F.drop p = x :: F.drop (p + 1) := by rw [List.drop_eq_getElem_cons (by rw [HM.out]; exact hlt), (List.getElem?_eq_some_iff.1 hx).2]
        obtain ⟨L, hL⟩ : ∃ L, S ++ F.drop (p + 1) = L := ⟨_, rfl⟩
        have hLl : L.length + 1 = M := by rw [← hL, List.length_append, hSl, List.length_drop, HM.out]; omega
        have HLL := Lib.hid (And.intro hL (And.intro hSl hLl))
        have hrow : OwnRow wr w.heap.size 84 6 (.slice ra M rc) ((L.take p ++ x :: L.drop p).map Std.cells) := by
          rw [e1] at hrow
          rw [← hL, ← hSl, List.take_left, List.drop_left, hSl]
          exact hrow
        have hml : ((L.take p ++ x :: L.drop p).map Std.cells).length = M := by rw [List.length_map, List.length_append, List.length_cons, List.length_take, List.length_drop]; omega
        obtain ⟨gg, cap, eo, hbg, -⟩ := OwnRow.own hrow (i := p) (by rw [hml]; exact hlt)
        rw [hml] at eo
        simp only [Value.slice.injEq, true_and] at eo
        obtain ⟨rfl, rfl⟩ := eo
        have hpp : (p : Int) < (M : Int) := by omega
        have HSS := Lib.hid (And.intro hSp hSs)
        have HX := Lib.hid hx
        have hpx := HFS.out.2 x (List.mem_of_getElem? hx)
        have hE0 : Hid (∀ r y, p ≤ r → r < p → L[r]? = some y → ltS x y) := Lib.hid fun r y h1 h2 => absurd h2 (by omega)
        have HPX := Lib.hid hpx
        clear hml hSp hSs e1 hL hSl hx hpx
        go_wp2_with fail
        go_loopw [10] (fun s10 wx => ∃ q : Nat, q ≤ p ∧ s10 = .int .i64 q ∧ OwnRow wx w.heap.size 84 6 (.slice (some ⟨gg, 0, none⟩) M rc) ((L.take q ++ x :: L.drop q).map Std.cells) ∧ Hid (∀ r y, q ≤ r → r < p → L[r]? = some y → ltS x y) ∧ Below w.heap.size w wx) (fun s10 _ => (numOf' s10).toNat)
        case atStart => exact ⟨p, Nat.le_refl _, rfl, hrow, hE0, hb⟩
        case round =>
          clear hrow hE0 hb
          obtain ⟨q, hq, rfl, hM, hE, hb⟩ := hrel
          have hdr : Below wr.heap.size wr wr.drew := (Below.refl _ _).drew
          have hSL : ∀ r, r < p → S[r]? = L[r]? := fun r hr => by rw [← HLL.out.1, List.getElem?_append_left (by rw [HLL.out.2.1]; exact hr)]
          have hBq : ∀ r y, q ≤ r → S[r]? = some y → ltS x y := fun r y h1 h2 => by
            have h3 := (List.getElem?_eq_some_iff.1 h2).1
            rw [HLL.out.2.1] at h3
            rw [hSL r h3] at h2
            exact hE.out r y h1 h3 h2
          rcases Nat.eq_zero_or_pos q with hq0 | hq0
          · have i1 : ¬ (0 : Int) < (q : Int) := by omega
            have HIN := Lib.hid (insS_ok (q := q) HFS.out.1 HSS.out.1 HSS.out.2 HX.out (by rw [HLL.out.2.1]; exact hq) (fun a h => by omega) hBq)
            clear hq0 hE hBq hSL
            go_wp2_with fail
            refine wp_region_quiet_to (C := (fun W => Below wr.heap.size wr W)) 13 1 #[true, true, true, true, true, true, true, true, true, true, true, true, true, false] (by kernel_rfl) (by kernel_rfl) ?_ ?_
            · (try dsimp only)
              exact hdr
            simp only [List.take_succ_cons, List.take_zero]
            with_reducible refine quiet_take (v := ?_) ?_ ?_ ?_
            rotate_left
            · rfl
            · (intro w hSw; (try dsimp only at hSw); go_simp); all_goals (with_reducible rfl)
            try simp only [Act.put, List.setIfInBounds_toArray, List.set_cons_zero, List.set_cons_succ]
            with_reducible refine quiet_take (v := .bool false) ?_ ?_ ?_
            · rfl
            · (intro w hSw; go_simp; first | done | omega | (simp; omega))
            try simp only [Act.put, List.setIfInBounds_toArray, List.set_cons_zero, List.set_cons_succ]
            with_reducible refine quiet_take (v := ?_) ?_ ?_ ?_
            rotate_left
            · rfl
            · (intro w hSw; (try dsimp only at hSw); go_simp); all_goals (with_reducible rfl)
            try simp only [Act.put, List.setIfInBounds_toArray, List.set_cons_zero, List.set_cons_succ]
            with_reducible refine quiet_skip ?_ ?_
            · rfl
            try simp only [Act.put, List.setIfInBounds_toArray, List.set_cons_zero, List.set_cons_succ]
            with_reducible refine quiet_skip ?_ ?_
            · rfl
            try simp only [Act.put, List.setIfInBounds_toArray, List.set_cons_zero, List.set_cons_succ]
            with_reducible refine quiet_skip ?_ ?_
            · rfl
            try simp only [Act.put, List.setIfInBounds_toArray, List.set_cons_zero, List.set_cons_succ]
            with_reducible refine quiet_skip ?_ ?_
            · rfl
            try simp only [Act.put, List.setIfInBounds_toArray, List.set_cons_zero, List.set_cons_succ]
            with_reducible refine quiet_skip ?_ ?_
            · rfl
            try simp only [Act.put, List.setIfInBounds_toArray, List.set_cons_zero, List.set_cons_succ]
            with_reducible refine quiet_skip ?_ ?_
            · rfl
            try simp only [Act.put, List.setIfInBounds_toArray, List.set_cons_zero, List.set_cons_succ]
            with_reducible refine quiet_skip ?_ ?_
            · rfl
            try simp only [Act.put, List.setIfInBounds_toArray, List.set_cons_zero, List.set_cons_succ]
            with_reducible refine quiet_skip ?_ ?_
            · rfl
            try simp only [Act.put, List.setIfInBounds_toArray, List.set_cons_zero, List.set_cons_succ]
            with_reducible refine quiet_skip ?_ ?_
            · rfl
            try simp only [Act.put, List.setIfInBounds_toArray, List.set_cons_zero, List.set_cons_succ]
            with_reducible refine quiet_skip ?_ ?_
            · rfl
            try simp only [Act.put, List.setIfInBounds_toArray, List.set_cons_zero, List.set_cons_succ]
            refine wpQuiet_nil ?_
            intro W hSw
            refine wpAny_of_held (S := fun _ => True) _ _ _ _ ?_
            refine wpAnyH_ready (rs := [13]) (by kernel_rfl) (by simp) ?_
            refine AllReadyH.cons (o := _) rfl (fun K hK => ?_) ?_
            · -- pick
              go_simp
              refine hK.out _ _ trivial (fun _ => ?_)
              clear hK K
              try simp only [List.setIfInBounds_toArray, List.set_cons_zero, List.set_cons_succ]
              refine wpAnyH_done (by kernel_rfl) ?_ _
              have hM9 := OwnRow.below hM hSw
              have hb9 := hb.trans (hSw.mono hb.size)
              have hM9 : OwnRow W w.heap.size 84 6 (.slice (some ⟨gg, 0, none⟩) M rc) (((S.take q ++ x :: S.drop q) ++ F.drop (p + 1)).map Std.cells) := by
                have e1 : L.take q = S.take q := by rw [← HLL.out.1, List.take_append_of_le_length (by rw [HLL.out.2.1]; omega)]
                have e2 : L.drop q = S.drop q ++ F.drop (p + 1) := by rw [← HLL.out.1, List.drop_append_of_le_length (by rw [HLL.out.2.1]; omega)]
                rw [e1, e2] at hM9
                rw [List.append_assoc, List.cons_append]
                exact hM9
              clear hSw hM hdr hb
              go_wp2_with fail
              go_roundw
              case rel => exact ⟨p + 1, S.take q ++ x :: S.drop q, by omega, by omega, by go_num, HIN.out.1, HIN.out.2, hM9, hb9⟩
              case measure => simp [numOf'] <;> omega
            exact AllReadyH.nil
          · obtain ⟨r, rfl⟩ : ∃ r, q = r + 1 := ⟨q - 1, by omega⟩
            obtain ⟨y, hy⟩ : ∃ y, L[r]? = some y := ⟨_, List.getElem?_eq_getElem (by have := HLL.out.2.2; omega)⟩
            have hM1 : ((L.take (r + 1) ++ x :: L.drop (r + 1)).map Std.cells)[r + 1]? = some x.cells := by rw [List.getElem?_map, mid_get (by have := HLL.out.2.2; omega)]; rfl
            have hM0 : ((L.take (r + 1) ++ x :: L.drop (r + 1)).map Std.cells)[r]? = some y.cells := by rw [List.getElem?_map, mid_low hy]; rfl
            have hSy : S[r]? = some y := by rw [hSL r (by omega)]; exact hy
            have hyF : y ∈ F := List.mem_of_mem_take (HSS.out.1.subset (List.mem_of_getElem? hSy))
            have cC := ahead_w hm0 HPX.out (HFS.out.2 y hyF)
            have i1 : (0 : Int) < ((r + 1 : Nat) : Int) := by omega
            have i2 : ((r + 1 : Nat) : Int) - 1 = (r : Int) := by omega
            have i3 : (r : Int) < (M : Int) := by omega
            have i4 : IntKind.i64.wrap (r : Int) = (r : Int) := IntWalk.i64_in _ (by omega)
            have i6 : IntKind.i64.wrap ((r : Int) + 1 - 1) = (r : Int) := by rw [IntWalk.i64_in _ (by omega)]; omega
            have i7 : (0 : Int) ≤ (r : Int) + 1 := by omega
            have i8 : (r : Int) + 1 < (M : Int) := by omega
            have i9 : (0 : Int) < (r : Int) + 1 := by omega
            clear hq0 hyF
            by_cases hR : ltS x y
            · have hE2 : Hid (∀ r' z, r ≤ r' → r' < p → L[r']? = some z → ltS x z) := Lib.hid fun r' z h1 h2 hz => by
                rcases Nat.lt_or_ge r r' with h | h
                · exact hE.out r' z h h2 hz
                · obtain rfl : r' = r := by omega
                  rw [hy] at hz; cases hz; exact hR
              rw [decide_eq_true hR] at cC
              clear hE hBq hSL hSy hR
              go_wp2_with fail
              refine wp_region_quiet_to (C := (fun W => Below wr.heap.size wr W)) 13 1 #[true, true, true, true, true, true, true, true, true, true, true, true, true, false] (by kernel_rfl) (by kernel_rfl) ?_ ?_
              · (try dsimp only)
                exact hdr
              simp only [List.take_succ_cons, List.take_zero]
              with_reducible refine quiet_take (v := ?_) ?_ ?_ ?_
              rotate_left
              · rfl
              · (intro w hSw; (try dsimp only at hSw); go_simp); all_goals (with_reducible rfl)
              try simp only [Act.put, List.setIfInBounds_toArray, List.set_cons_zero, List.set_cons_succ]
              with_reducible refine quiet_take (v := .bool true) ?_ ?_ ?_
              · rfl
              · (intro w hSw; go_simp; first | done | omega | (simp; omega))
              try simp only [Act.put, List.setIfInBounds_toArray, List.set_cons_zero, List.set_cons_succ]
              with_reducible refine quiet_take (v := ?_) ?_ ?_ ?_
              rotate_left
              · rfl
              · (intro w hSw; (try dsimp only at hSw); go_simp); all_goals (with_reducible rfl)
              try simp only [Act.put, List.setIfInBounds_toArray, List.set_cons_zero, List.set_cons_succ]
              with_reducible refine quiet_take (v := ?_) ?_ ?_ ?_
              rotate_left
              · rfl
              · (intro w hSw; (try dsimp only at hSw); go_simp); all_goals (with_reducible rfl)
              try simp only [Act.put, List.setIfInBounds_toArray, List.set_cons_zero, List.set_cons_succ]
              with_reducible refine quiet_take (v := ?_) ?_ ?_ ?_
              rotate_left
              · rfl
              · (intro w hSw; (try dsimp only at hSw); go_simp); all_goals (with_reducible rfl)
              try simp only [Act.put, List.setIfInBounds_toArray, List.set_cons_zero, List.set_cons_succ]
              with_reducible refine quiet_take (v := ?_) ?_ ?_ ?_
              rotate_left
              · rfl
              · (intro w hSw; (try dsimp only at hSw); go_simp); all_goals (with_reducible rfl)
              try simp only [Act.put, List.setIfInBounds_toArray, List.set_cons_zero, List.set_cons_succ]
              with_reducible refine quiet_take (v := ?_) ?_ ?_ ?_
              rotate_left
              · rfl
              · (intro w hSw; have a0 := (OwnRow.cell (OwnRow.below hM hSw) hM1 (j := 0) (u := .string (bA x.t)) rfl).1; have a1 := (OwnRow.cell (OwnRow.below hM hSw) hM1 (j := 1) (u := .int .i64 x.w) rfl).1; have a2 := (OwnRow.cell (OwnRow.below hM hSw) hM1 (j := 2) (u := .int .i64 x.l) rfl).1; have a3 := (OwnRow.cell (OwnRow.below hM hSw) hM1 (j := 3) (u := .int .i64 x.d) rfl).1; have a4 := (OwnRow.cell (OwnRow.below hM hSw) hM1 (j := 4) (u := .int .i64 x.f) rfl).1; have a5 := (OwnRow.cell (OwnRow.below hM hSw) hM1 (j := 5) (u := .int .i64 x.a) rfl).1; rw [Nat.add_zero] at a0; (try dsimp only at hSw); go_simp); all_goals (with_reducible rfl)
              try simp only [Act.put, List.setIfInBounds_toArray, List.set_cons_zero, List.set_cons_succ]
              with_reducible refine quiet_take (v := ?_) ?_ ?_ ?_
              rotate_left
              · rfl
              · (intro w hSw; (try dsimp only at hSw); go_simp); all_goals (with_reducible rfl)
              try simp only [Act.put, List.setIfInBounds_toArray, List.set_cons_zero, List.set_cons_succ]
              with_reducible refine quiet_take (v := ?_) ?_ ?_ ?_
              rotate_left
              · rfl
              · (intro w hSw; (try dsimp only at hSw); go_simp); all_goals (with_reducible rfl)
              try simp only [Act.put, List.setIfInBounds_toArray, List.set_cons_zero, List.set_cons_succ]
              with_reducible refine quiet_take (v := ?_) ?_ ?_ ?_
              rotate_left
              · rfl
              · (intro w hSw; (try dsimp only at hSw); go_simp); all_goals (with_reducible rfl)
              try simp only [Act.put, List.setIfInBounds_toArray, List.set_cons_zero, List.set_cons_succ]
              with_reducible refine quiet_take (v := ?_) ?_ ?_ ?_
              rotate_left
              · rfl
              · (intro w hSw; (try dsimp only at hSw); go_simp); all_goals (with_reducible rfl)
              try simp only [Act.put, List.setIfInBounds_toArray, List.set_cons_zero, List.set_cons_succ]
              with_reducible refine quiet_take (v := ?_) ?_ ?_ ?_
              rotate_left
              · rfl
              · (intro w hSw; have b0 := (OwnRow.cell (OwnRow.below hM hSw) hM0 (j := 0) (u := .string (bA y.t)) rfl).1; have b1 := (OwnRow.cell (OwnRow.below hM hSw) hM0 (j := 1) (u := .int .i64 y.w) rfl).1; have b2 := (OwnRow.cell (OwnRow.below hM hSw) hM0 (j := 2) (u := .int .i64 y.l) rfl).1; have b3 := (OwnRow.cell (OwnRow.below hM hSw) hM0 (j := 3) (u := .int .i64 y.d) rfl).1; have b4 := (OwnRow.cell (OwnRow.below hM hSw) hM0 (j := 4) (u := .int .i64 y.f) rfl).1; have b5 := (OwnRow.cell (OwnRow.below hM hSw) hM0 (j := 5) (u := .int .i64 y.a) rfl).1; rw [Nat.add_zero] at b0; (try dsimp only at hSw); go_simp); all_goals (with_reducible rfl)
              try simp only [Act.put, List.setIfInBounds_toArray, List.set_cons_zero, List.set_cons_succ]
              with_reducible refine quiet_call (f := 120) (args := ?_) (v := .bool true) ?_ ?_ ?_ ?_
              rotate_left
              · rfl
              · (intro w hSw; (try dsimp only at hSw); go_simp); all_goals (with_reducible rfl)
              · (intro W hSw); exact (cC W).mono fun e w' ⟨h1, h2⟩ => ⟨h1, hSw.trans (h2.mono hSw.size)⟩
              try simp only [Act.put, List.setIfInBounds_toArray, List.set_cons_zero, List.set_cons_succ]
              refine wpQuiet_nil ?_
              intro W hSw
              refine wpAny_of_held (S := fun _ => True) _ _ _ _ ?_
              refine wpAnyH_ready (rs := [13]) (by kernel_rfl) (by simp) ?_
              refine AllReadyH.cons (o := _) rfl (fun K hK => ?_) ?_
              · -- pick
                go_simp
                refine hK.out _ _ trivial (fun _ => ?_)
                clear hK K
                try simp only [List.setIfInBounds_toArray, List.set_cons_zero, List.set_cons_succ]
                refine wpAnyH_done (by kernel_rfl) ?_ _
                have hM2 := OwnRow.below hM hSw
                have hb2 := hb.trans (hSw.mono hb.size)
                clear hSw hdr hM hb
                generalize W = wr2 at hM2 hb2 ⊢
                have hdr : Below wr2.heap.size wr2 wr2.drew := (Below.refl _ _).drew
                go_wp2_with fail
                refine wp_region_held_drew (S := (fun _ => True)) (by kernel_rfl) ?_ (fun hHeld => ?_)
                · (try dsimp only)
                  try trivial
                have hMW := OwnRow.below hM2 hdr
                have hkW := hb2.trans (hdr.mono hb2.size)
                generalize wr2.drew = W at hMW hkW ⊢
                obtain ⟨a0, e0⟩ := OwnRow.cell hMW hM0 (j := 0) (u := .string (bA y.t)) rfl
                obtain ⟨a1, e1⟩ := OwnRow.cell hMW hM0 (j := 1) (u := .int .i64 y.w) rfl
                obtain ⟨a2, e2⟩ := OwnRow.cell hMW hM0 (j := 2) (u := .int .i64 y.l) rfl
                obtain ⟨a3, e3⟩ := OwnRow.cell hMW hM0 (j := 3) (u := .int .i64 y.d) rfl
                obtain ⟨a4, e4⟩ := OwnRow.cell hMW hM0 (j := 4) (u := .int .i64 y.f) rfl
                obtain ⟨a5, e5⟩ := OwnRow.cell hMW hM0 (j := 5) (u := .int .i64 y.a) rfl
                rw [Nat.add_zero] at a0 e0
                obtain ⟨b0, f0⟩ := OwnRow.cell hMW hM1 (j := 0) (u := .string (bA x.t)) rfl
                obtain ⟨b1, f1⟩ := OwnRow.cell hMW hM1 (j := 1) (u := .int .i64 x.w) rfl
                obtain ⟨b2, f2⟩ := OwnRow.cell hMW hM1 (j := 2) (u := .int .i64 x.l) rfl
                obtain ⟨b3, f3⟩ := OwnRow.cell hMW hM1 (j := 3) (u := .int .i64 x.d) rfl
                obtain ⟨b4, f4⟩ := OwnRow.cell hMW hM1 (j := 4) (u := .int .i64 x.f) rfl
                obtain ⟨b5, f5⟩ := OwnRow.cell hMW hM1 (j := 5) (u := .int .i64 x.a) rfl
                rw [Nat.add_zero] at b0 f0
                refine wpAnyH_take (i := 0) (oi := { dst := some 145, op := Op.move (Operand.tmp 3), type := 94, pos := "ref.go:485", after := #[], guard := none }) (v := ?_) rfl (by kernel_rfl) (by kernel_rfl) (by kernel_rfl) (fun _ _ _ h => h) (Or.inl ⟨by rfl, ?_⟩) (by assumption) ?_
                rotate_left
                · (intro w hSw; (try dsimp only at hSw); go_simp); all_goals (with_reducible rfl)
                try simp only [Act.put, List.setIfInBounds_toArray, List.set_cons_zero, List.set_cons_succ]
                refine wpAnyH_take (i := 1) (oi := { dst := some 146, op := Op.move (Operand.tmp 10), type := 3, pos := "ref.go:485", after := #[], guard := none }) (v := ?_) rfl (by kernel_rfl) (by kernel_rfl) (by kernel_rfl) (fun _ _ _ h => h) (Or.inl ⟨by rfl, ?_⟩) (by assumption) ?_
                rotate_left
                · (intro w hSw; (try dsimp only at hSw); go_simp); all_goals (with_reducible rfl)
                try simp only [Act.put, List.setIfInBounds_toArray, List.set_cons_zero, List.set_cons_succ]
                refine wpAnyH_take (i := 2) (oi := { dst := some 147, op := Op.move (Operand.tmp 3), type := 94, pos := "ref.go:485", after := #[{ on := 15, ground := Ground.gcOnly Departure.lateStores }], guard := none }) (v := ?_) rfl (by kernel_rfl) (by kernel_rfl) (by kernel_rfl) (fun _ _ _ h => h) (Or.inl ⟨by rfl, ?_⟩) (by assumption) ?_
                rotate_left
                · (intro w hSw; (try dsimp only at hSw); go_simp); all_goals (with_reducible rfl)
                try simp only [Act.put, List.setIfInBounds_toArray, List.set_cons_zero, List.set_cons_succ]
                refine wpAnyH_take (i := 3) (oi := { dst := some 148, op := Op.move (Operand.tmp 10), type := 3, pos := "ref.go:485", after := #[{ on := 15, ground := Ground.gcOnly Departure.lateStores }], guard := none }) (v := ?_) rfl (by kernel_rfl) (by kernel_rfl) (by kernel_rfl) (fun _ _ _ h => h) (Or.inl ⟨by rfl, ?_⟩) (by assumption) ?_
                rotate_left
                · (intro w hSw; (try dsimp only at hSw); go_simp); all_goals (with_reducible rfl)
                try simp only [Act.put, List.setIfInBounds_toArray, List.set_cons_zero, List.set_cons_succ]
                refine wpAnyH_take (i := 4) (oi := { dst := some 149, op := Op.binOp BinOp.sub 3 (Operand.tmp 148) (Operand.const (Value.int IntKind.i64 1)) 3, type := 3, pos := "ref.go:485", after := #[{ on := 3, ground := Ground.data }, { on := 15, ground := Ground.gcOnly Departure.lateStores }], guard := none }) (v := ?_) rfl (by kernel_rfl) (by kernel_rfl) (by kernel_rfl) (fun _ _ _ h => h) (Or.inl ⟨by rfl, ?_⟩) (by assumption) ?_
                rotate_left
                · (intro w hSw; (try dsimp only at hSw); go_simp); all_goals (with_reducible rfl)
                try simp only [Act.put, List.setIfInBounds_toArray, List.set_cons_zero, List.set_cons_succ]
                refine wpAnyH_take (i := 5) (oi := { dst := some 150, op := Op.move (Operand.tmp 3), type := 94, pos := "ref.go:485", after := #[], guard := none }) (v := ?_) rfl (by kernel_rfl) (by kernel_rfl) (by kernel_rfl) (fun _ _ _ h => h) (Or.inl ⟨by rfl, ?_⟩) (by assumption) ?_
                rotate_left
                · (intro w hSw; (try dsimp only at hSw); go_simp); all_goals (with_reducible rfl)
                try simp only [Act.put, List.setIfInBounds_toArray, List.set_cons_zero, List.set_cons_succ]
                refine wpAnyH_take (i := 6) (oi := { dst := some 151, op := Op.move (Operand.tmp 10), type := 3, pos := "ref.go:485", after := #[], guard := none }) (v := ?_) rfl (by kernel_rfl) (by kernel_rfl) (by kernel_rfl) (fun _ _ _ h => h) (Or.inl ⟨by rfl, ?_⟩) (by assumption) ?_
                rotate_left
                · (intro w hSw; (try dsimp only at hSw); go_simp); all_goals (with_reducible rfl)
                try simp only [Act.put, List.setIfInBounds_toArray, List.set_cons_zero, List.set_cons_succ]
                refine wpAnyH_take (i := 7) (oi := { dst := some 152, op := Op.binOp BinOp.sub 3 (Operand.tmp 151) (Operand.const (Value.int IntKind.i64 1)) 3, type := 3, pos := "ref.go:485", after := #[{ on := 6, ground := Ground.data }], guard := none }) (v := ?_) rfl (by kernel_rfl) (by kernel_rfl) (by kernel_rfl) (fun _ _ _ h => h) (Or.inl ⟨by rfl, ?_⟩) (by assumption) ?_
                rotate_left
                · (intro w hSw; (try dsimp only at hSw); go_simp); all_goals (with_reducible rfl)
                try simp only [Act.put, List.setIfInBounds_toArray, List.set_cons_zero, List.set_cons_succ]
                refine wpAnyH_take (i := 8) (oi := { dst := some 153, op := Op.indexAddr 94 (Operand.tmp 150) (Operand.tmp 152), type := 0, pos := "ref.go:485", after := #[{ on := 5, ground := Ground.data }, { on := 7, ground := Ground.data }], guard := none }) (v := ?_) rfl (by kernel_rfl) (by kernel_rfl) (by kernel_rfl) (fun _ _ _ h => h) (Or.inl ⟨by rfl, ?_⟩) (by assumption) ?_
                rotate_left
                · (intro w hSw; (try dsimp only at hSw); go_simp); all_goals (with_reducible rfl)
                try simp only [Act.put, List.setIfInBounds_toArray, List.set_cons_zero, List.set_cons_succ]
                refine wpAnyH_take (i := 10) (oi := { dst := some 155, op := Op.move (Operand.tmp 3), type := 94, pos := "ref.go:485", after := #[], guard := none }) (v := ?_) rfl (by kernel_rfl) (by kernel_rfl) (by kernel_rfl) (fun _ _ _ h => h) (Or.inl ⟨by rfl, ?_⟩) (by assumption) ?_
                rotate_left
                · (intro w hSw; (try dsimp only at hSw); go_simp); all_goals (with_reducible rfl)
                try simp only [Act.put, List.setIfInBounds_toArray, List.set_cons_zero, List.set_cons_succ]
                refine wpAnyH_take (i := 11) (oi := { dst := some 156, op := Op.move (Operand.tmp 10), type := 3, pos := "ref.go:485", after := #[], guard := none }) (v := ?_) rfl (by kernel_rfl) (by kernel_rfl) (by kernel_rfl) (fun _ _ _ h => h) (Or.inl ⟨by rfl, ?_⟩) (by assumption) ?_
                rotate_left
                · (intro w hSw; (try dsimp only at hSw); go_simp); all_goals (with_reducible rfl)
                try simp only [Act.put, List.setIfInBounds_toArray, List.set_cons_zero, List.set_cons_succ]
                refine wpAnyH_take (i := 12) (oi := { dst := some 157, op := Op.indexAddr 94 (Operand.tmp 155) (Operand.tmp 156), type := 0, pos := "ref.go:485", after := #[{ on := 10, ground := Ground.data }, { on := 11, ground := Ground.data }], guard := none }) (v := ?_) rfl (by kernel_rfl) (by kernel_rfl) (by kernel_rfl) (fun _ _ _ h => h) (Or.inl ⟨by rfl, ?_⟩) (by assumption) ?_
                rotate_left
                · (intro w hSw; (try dsimp only at hSw); go_simp); all_goals (with_reducible rfl)
                try simp only [Act.put, List.setIfInBounds_toArray, List.set_cons_zero, List.set_cons_succ]
                refine wpAnyH_ready (rs := [9, 13]) (by kernel_rfl) (by simp) ?_
                refine AllReadyH.cons (o := _) rfl (fun K hK => ?_) ?_
                · -- load
                  go_simp
                  refine hK.out _ _ ?_ (fun hHeld => ?_)
                  · (try dsimp only)
                    try trivial
                  clear hK K
                  try simp only [Act.put, List.setIfInBounds_toArray, List.set_cons_zero, List.set_cons_succ]
                  refine wpAnyH_ready (rs := [13]) (by kernel_rfl) (by simp) ?_
                  refine AllReadyH.cons (o := _) rfl (fun K hK => ?_) ?_
                  · -- load
                    go_simp
                    refine hK.out _ _ ?_ (fun hHeld => ?_)
                    · (try dsimp only)
                      try trivial
                    clear hK K
                    try simp only [Act.put, List.setIfInBounds_toArray, List.set_cons_zero, List.set_cons_succ]
                    refine wpAnyH_take (i := 14) (oi := { dst := some 159, op := Op.indexAddr 94 (Operand.tmp 145) (Operand.tmp 146), type := 0, pos := "ref.go:485", after := #[{ on := 0, ground := Ground.data }, { on := 1, ground := Ground.data }, { on := 0, ground := Ground.phase }, { on := 1, ground := Ground.phase }, { on := 2, ground := Ground.textOnly Departure.lateStores }, { on := 3, ground := Ground.textOnly Departure.lateStores }, { on := 4, ground := Ground.textOnly Departure.lateStores }, { on := 5, ground := Ground.phase }, { on := 6, ground := Ground.phase }, { on := 7, ground := Ground.phase }, { on := 8, ground := Ground.phase }, { on := 9, ground := Ground.phase }, { on := 10, ground := Ground.textOnly Departure.lateStores }, { on := 11, ground := Ground.textOnly Departure.lateStores }, { on := 12, ground := Ground.textOnly Departure.lateStoresUnsure }, { on := 13, ground := Ground.phase }], guard := none }) (v := ?_) rfl (by kernel_rfl) (by kernel_rfl) (by kernel_rfl) (fun _ _ _ h => h) (Or.inl ⟨by rfl, ?_⟩) (by assumption) ?_
                    rotate_left
                    · (intro w hSw; (try dsimp only at hSw); go_simp); all_goals (with_reducible rfl)
                    try simp only [Act.put, List.setIfInBounds_toArray, List.set_cons_zero, List.set_cons_succ]
                    refine wpAnyH_ready (rs := [15]) (by kernel_rfl) (by simp) ?_
                    refine AllReadyH.cons (o := _) rfl (fun K hK => ?_) ?_
                    · -- store
                      go_simp
                      refine hK.out _ _ ?_ (fun hHeld => ?_)
                      · (try dsimp only)
                        try trivial
                      clear hK K
                      try simp only [Act.put, List.setIfInBounds_toArray, List.set_cons_zero, List.set_cons_succ]
                      have hr1 : OwnRow (setN W gg ((r + 1) * 6) y.cells) w.heap.size 84 6 (.slice (some ⟨gg, 0, none⟩) M rc) (((L.take (r + 1) ++ x :: L.drop (r + 1)).map Std.cells).set (r + 1) y.cells) := OwnRow.writes (vs := y.cells) (j := 0) hMW hM1 (Nat.le_refl _)
                      have hM0' : (((L.take (r + 1) ++ x :: L.drop (r + 1)).map Std.cells).set (r + 1) y.cells)[r]? = some y.cells := by rw [List.getElem?_set_ne (by omega)]; exact hM0
                      have hk1 : Below w.heap.size w (setN W gg ((r + 1) * 6) y.cells) := Below.setN hbg hkW
                      refine castW (P := fun w => wpAnyH _ _ _ _ _ _ _ _ w) (w' := setN W gg ((r + 1) * 6) y.cells) rfl ?_
                      clear a0 e0 b0 f0 a1 e1 b1 f1 a2 e2 b2 f2 a3 e3 b3 f3 a4 e4 b4 f4 a5 e5 b5 f5
                      generalize setN W gg ((r + 1) * 6) y.cells = W9 at hr1 hk1 ⊢
                      obtain ⟨a0, f0⟩ := OwnRow.cell hr1 hM0' (j := 0) (u := .string (bA y.t)) rfl
                      obtain ⟨a1, f1⟩ := OwnRow.cell hr1 hM0' (j := 1) (u := .int .i64 y.w) rfl
                      obtain ⟨a2, f2⟩ := OwnRow.cell hr1 hM0' (j := 2) (u := .int .i64 y.l) rfl
                      obtain ⟨a3, f3⟩ := OwnRow.cell hr1 hM0' (j := 3) (u := .int .i64 y.d) rfl
                      obtain ⟨a4, f4⟩ := OwnRow.cell hr1 hM0' (j := 4) (u := .int .i64 y.f) rfl
                      obtain ⟨a5, f5⟩ := OwnRow.cell hr1 hM0' (j := 5) (u := .int .i64 y.a) rfl
                      rw [Nat.add_zero] at a0 f0
                      refine wpAnyH_take (i := 16) (oi := { dst := some 160, op := Op.indexAddr 94 (Operand.tmp 147) (Operand.tmp 149), type := 0, pos := "ref.go:485", after := #[{ on := 2, ground := Ground.data }, { on := 4, ground := Ground.data }, { on := 0, ground := Ground.phase }, { on := 1, ground := Ground.phase }, { on := 2, ground := Ground.phase }, { on := 3, ground := Ground.phase }, { on := 4, ground := Ground.phase }, { on := 5, ground := Ground.phase }, { on := 6, ground := Ground.phase }, { on := 7, ground := Ground.phase }, { on := 8, ground := Ground.phase }, { on := 9, ground := Ground.phase }, { on := 10, ground := Ground.phase }, { on := 11, ground := Ground.phase }, { on := 12, ground := Ground.phase }, { on := 13, ground := Ground.phase }, { on := 14, ground := Ground.phase }, { on := 15, ground := Ground.phase }], guard := none }) (v := ?_) rfl (by kernel_rfl) (by kernel_rfl) (by kernel_rfl) (fun _ _ _ h => h) (Or.inl ⟨by rfl, ?_⟩) (by assumption) ?_
                      rotate_left
                      · (intro w hSw; (try dsimp only at hSw); go_simp); all_goals (with_reducible rfl)
                      try simp only [Act.put, List.setIfInBounds_toArray, List.set_cons_zero, List.set_cons_succ]
                      refine wpAnyH_ready (rs := [17]) (by kernel_rfl) (by simp) ?_
                      refine AllReadyH.cons (o := _) rfl (fun K hK => ?_) ?_
                      · -- store
                        go_simp
                        refine hK.out _ _ ?_ (fun hHeld => ?_)
                        · (try dsimp only)
                          try trivial
                        clear hK K
                        try simp only [Act.put, List.setIfInBounds_toArray, List.set_cons_zero, List.set_cons_succ]
                        refine wpAnyH_done (by kernel_rfl) ?_ _
                        have hr2 : OwnRow (setN W9 gg (r * 6) x.cells) w.heap.size 84 6 (.slice (some ⟨gg, 0, none⟩) M rc) ((((L.take (r + 1) ++ x :: L.drop (r + 1)).map Std.cells).set (r + 1) y.cells).set r x.cells) := OwnRow.writes (vs := x.cells) (j := 0) hr1 hM0' (Nat.le_refl _)
                        have hfin : OwnRow (setN W9 gg (r * 6) x.cells) w.heap.size 84 6 (.slice (some ⟨gg, 0, none⟩) M rc) ((L.take r ++ x :: L.drop r).map Std.cells) := by
                          rw [← swap_list hy, List.map_set, List.map_set]
                          exact hr2
                        have hk2 : Below w.heap.size w (setN W9 gg (r * 6) x.cells) := Below.setN hbg hk1
                        clear a0 f0 a1 f1 a2 f2 a3 f3 a4 f4 a5 f5 hr1 hr2
                        go_wp2_with fail
                        go_roundw
                        case rel => exact ⟨r, by omega, by go_num, hfin, hE2, hk2⟩
                        case measure => simp [numOf'] <;> omega
                      exact AllReadyH.nil
                    exact AllReadyH.nil
                  exact AllReadyH.nil
                refine AllReadyH.cons (o := _) rfl (fun K hK => ?_) ?_
                · -- load
                  go_simp
                  refine hK.out _ _ ?_ (fun hHeld => ?_)
                  · (try dsimp only)
                    try trivial
                  clear hK K
                  try simp only [Act.put, List.setIfInBounds_toArray, List.set_cons_zero, List.set_cons_succ]
                  refine wpAnyH_ready (rs := [9]) (by kernel_rfl) (by simp) ?_
                  refine AllReadyH.cons (o := _) rfl (fun K hK => ?_) ?_
                  · -- load
                    go_simp
                    refine hK.out _ _ ?_ (fun hHeld => ?_)
                    · (try dsimp only)
                      try trivial
                    clear hK K
                    try simp only [Act.put, List.setIfInBounds_toArray, List.set_cons_zero, List.set_cons_succ]
                    refine wpAnyH_take (i := 14) (oi := { dst := some 159, op := Op.indexAddr 94 (Operand.tmp 145) (Operand.tmp 146), type := 0, pos := "ref.go:485", after := #[{ on := 0, ground := Ground.data }, { on := 1, ground := Ground.data }, { on := 0, ground := Ground.phase }, { on := 1, ground := Ground.phase }, { on := 2, ground := Ground.textOnly Departure.lateStores }, { on := 3, ground := Ground.textOnly Departure.lateStores }, { on := 4, ground := Ground.textOnly Departure.lateStores }, { on := 5, ground := Ground.phase }, { on := 6, ground := Ground.phase }, { on := 7, ground := Ground.phase }, { on := 8, ground := Ground.phase }, { on := 9, ground := Ground.phase }, { on := 10, ground := Ground.textOnly Departure.lateStores }, { on := 11, ground := Ground.textOnly Departure.lateStores }, { on := 12, ground := Ground.textOnly Departure.lateStoresUnsure }, { on := 13, ground := Ground.phase }], guard := none }) (v := ?_) rfl (by kernel_rfl) (by kernel_rfl) (by kernel_rfl) (fun _ _ _ h => h) (Or.inl ⟨by rfl, ?_⟩) (by assumption) ?_
                    rotate_left
                    · (intro w hSw; (try dsimp only at hSw); go_simp); all_goals (with_reducible rfl)
                    try simp only [Act.put, List.setIfInBounds_toArray, List.set_cons_zero, List.set_cons_succ]
                    refine wpAnyH_ready (rs := [15]) (by kernel_rfl) (by simp) ?_
                    refine AllReadyH.cons (o := _) rfl (fun K hK => ?_) ?_
                    · -- store
                      go_simp
                      refine hK.out _ _ ?_ (fun hHeld => ?_)
                      · (try dsimp only)
                        try trivial
                      clear hK K
                      try simp only [Act.put, List.setIfInBounds_toArray, List.set_cons_zero, List.set_cons_succ]
                      have hr1 : OwnRow (setN W gg ((r + 1) * 6) y.cells) w.heap.size 84 6 (.slice (some ⟨gg, 0, none⟩) M rc) (((L.take (r + 1) ++ x :: L.drop (r + 1)).map Std.cells).set (r + 1) y.cells) := OwnRow.writes (vs := y.cells) (j := 0) hMW hM1 (Nat.le_refl _)
                      have hM0' : (((L.take (r + 1) ++ x :: L.drop (r + 1)).map Std.cells).set (r + 1) y.cells)[r]? = some y.cells := by rw [List.getElem?_set_ne (by omega)]; exact hM0
                      have hk1 : Below w.heap.size w (setN W gg ((r + 1) * 6) y.cells) := Below.setN hbg hkW
                      refine castW (P := fun w => wpAnyH _ _ _ _ _ _ _ _ w) (w' := setN W gg ((r + 1) * 6) y.cells) rfl ?_
                      clear a0 e0 b0 f0 a1 e1 b1 f1 a2 e2 b2 f2 a3 e3 b3 f3 a4 e4 b4 f4 a5 e5 b5 f5
                      generalize setN W gg ((r + 1) * 6) y.cells = W9 at hr1 hk1 ⊢
                      obtain ⟨a0, f0⟩ := OwnRow.cell hr1 hM0' (j := 0) (u := .string (bA y.t)) rfl
                      obtain ⟨a1, f1⟩ := OwnRow.cell hr1 hM0' (j := 1) (u := .int .i64 y.w) rfl
                      obtain ⟨a2, f2⟩ := OwnRow.cell hr1 hM0' (j := 2) (u := .int .i64 y.l) rfl
                      obtain ⟨a3, f3⟩ := OwnRow.cell hr1 hM0' (j := 3) (u := .int .i64 y.d) rfl
                      obtain ⟨a4, f4⟩ := OwnRow.cell hr1 hM0' (j := 4) (u := .int .i64 y.f) rfl
                      obtain ⟨a5, f5⟩ := OwnRow.cell hr1 hM0' (j := 5) (u := .int .i64 y.a) rfl
                      rw [Nat.add_zero] at a0 f0
                      refine wpAnyH_take (i := 16) (oi := { dst := some 160, op := Op.indexAddr 94 (Operand.tmp 147) (Operand.tmp 149), type := 0, pos := "ref.go:485", after := #[{ on := 2, ground := Ground.data }, { on := 4, ground := Ground.data }, { on := 0, ground := Ground.phase }, { on := 1, ground := Ground.phase }, { on := 2, ground := Ground.phase }, { on := 3, ground := Ground.phase }, { on := 4, ground := Ground.phase }, { on := 5, ground := Ground.phase }, { on := 6, ground := Ground.phase }, { on := 7, ground := Ground.phase }, { on := 8, ground := Ground.phase }, { on := 9, ground := Ground.phase }, { on := 10, ground := Ground.phase }, { on := 11, ground := Ground.phase }, { on := 12, ground := Ground.phase }, { on := 13, ground := Ground.phase }, { on := 14, ground := Ground.phase }, { on := 15, ground := Ground.phase }], guard := none }) (v := ?_) rfl (by kernel_rfl) (by kernel_rfl) (by kernel_rfl) (fun _ _ _ h => h) (Or.inl ⟨by rfl, ?_⟩) (by assumption) ?_
                      rotate_left
                      · (intro w hSw; (try dsimp only at hSw); go_simp); all_goals (with_reducible rfl)
                      try simp only [Act.put, List.setIfInBounds_toArray, List.set_cons_zero, List.set_cons_succ]
                      refine wpAnyH_ready (rs := [17]) (by kernel_rfl) (by simp) ?_
                      refine AllReadyH.cons (o := _) rfl (fun K hK => ?_) ?_
                      · -- store
                        go_simp
                        refine hK.out _ _ ?_ (fun hHeld => ?_)
                        · (try dsimp only)
                          try trivial
                        clear hK K
                        try simp only [Act.put, List.setIfInBounds_toArray, List.set_cons_zero, List.set_cons_succ]
                        refine wpAnyH_done (by kernel_rfl) ?_ _
                        have hr2 : OwnRow (setN W9 gg (r * 6) x.cells) w.heap.size 84 6 (.slice (some ⟨gg, 0, none⟩) M rc) ((((L.take (r + 1) ++ x :: L.drop (r + 1)).map Std.cells).set (r + 1) y.cells).set r x.cells) := OwnRow.writes (vs := x.cells) (j := 0) hr1 hM0' (Nat.le_refl _)
                        have hfin : OwnRow (setN W9 gg (r * 6) x.cells) w.heap.size 84 6 (.slice (some ⟨gg, 0, none⟩) M rc) ((L.take r ++ x :: L.drop r).map Std.cells) := by
                          rw [← swap_list hy, List.map_set, List.map_set]
                          exact hr2
                        have hk2 : Below w.heap.size w (setN W9 gg (r * 6) x.cells) := Below.setN hbg hk1
                        clear a0 f0 a1 f1 a2 f2 a3 f3 a4 f4 a5 f5 hr1 hr2
                        go_wp2_with fail
                        go_roundw
                        case rel => exact ⟨r, by omega, by go_num, hfin, hE2, hk2⟩
                        case measure => simp [numOf'] <;> omega
                      exact AllReadyH.nil
                    exact AllReadyH.nil
                  exact AllReadyH.nil
                exact AllReadyH.nil
              exact AllReadyH.nil
            · have HIN := Lib.hid (insS_ok (q := r + 1) HFS.out.1 HSS.out.1 HSS.out.2 HX.out (by rw [HLL.out.2.1]; exact hq) (fun a _ ha => by
                rw [Nat.add_sub_cancel, hSy] at ha
                cases ha
                exact hR) hBq)
              rw [decide_eq_false hR] at cC
              clear hE hBq hSL hSy hR
              go_wp2_with fail
              refine wp_region_quiet_to (C := (fun W => Below wr.heap.size wr W)) 13 1 #[true, true, true, true, true, true, true, true, true, true, true, true, true, false] (by kernel_rfl) (by kernel_rfl) ?_ ?_
              · (try dsimp only)
                exact hdr
              simp only [List.take_succ_cons, List.take_zero]
              with_reducible refine quiet_take (v := ?_) ?_ ?_ ?_
              rotate_left
              · rfl
              · (intro w hSw; (try dsimp only at hSw); go_simp); all_goals (with_reducible rfl)
              try simp only [Act.put, List.setIfInBounds_toArray, List.set_cons_zero, List.set_cons_succ]
              with_reducible refine quiet_take (v := .bool true) ?_ ?_ ?_
              · rfl
              · (intro w hSw; go_simp; first | done | omega | (simp; omega))
              try simp only [Act.put, List.setIfInBounds_toArray, List.set_cons_zero, List.set_cons_succ]
              with_reducible refine quiet_take (v := ?_) ?_ ?_ ?_
              rotate_left
              · rfl
              · (intro w hSw; (try dsimp only at hSw); go_simp); all_goals (with_reducible rfl)
              try simp only [Act.put, List.setIfInBounds_toArray, List.set_cons_zero, List.set_cons_succ]
              with_reducible refine quiet_take (v := ?_) ?_ ?_ ?_
              rotate_left
              · rfl
              · (intro w hSw; (try dsimp only at hSw); go_simp); all_goals (with_reducible rfl)
              try simp only [Act.put, List.setIfInBounds_toArray, List.set_cons_zero, List.set_cons_succ]
              with_reducible refine quiet_take (v := ?_) ?_ ?_ ?_
              rotate_left
              · rfl
              · (intro w hSw; (try dsimp only at hSw); go_simp); all_goals (with_reducible rfl)
              try simp only [Act.put, List.setIfInBounds_toArray, List.set_cons_zero, List.set_cons_succ]
              with_reducible refine quiet_take (v := ?_) ?_ ?_ ?_
              rotate_left
              · rfl
              · (intro w hSw; (try dsimp only at hSw); go_simp); all_goals (with_reducible rfl)
              try simp only [Act.put, List.setIfInBounds_toArray, List.set_cons_zero, List.set_cons_succ]
              with_reducible refine quiet_take (v := ?_) ?_ ?_ ?_
              rotate_left
              · rfl
              · (intro w hSw; have a0 := (OwnRow.cell (OwnRow.below hM hSw) hM1 (j := 0) (u := .string (bA x.t)) rfl).1; have a1 := (OwnRow.cell (OwnRow.below hM hSw) hM1 (j := 1) (u := .int .i64 x.w) rfl).1; have a2 := (OwnRow.cell (OwnRow.below hM hSw) hM1 (j := 2) (u := .int .i64 x.l) rfl).1; have a3 := (OwnRow.cell (OwnRow.below hM hSw) hM1 (j := 3) (u := .int .i64 x.d) rfl).1; have a4 := (OwnRow.cell (OwnRow.below hM hSw) hM1 (j := 4) (u := .int .i64 x.f) rfl).1; have a5 := (OwnRow.cell (OwnRow.below hM hSw) hM1 (j := 5) (u := .int .i64 x.a) rfl).1; rw [Nat.add_zero] at a0; (try dsimp only at hSw); go_simp); all_goals (with_reducible rfl)
              try simp only [Act.put, List.setIfInBounds_toArray, List.set_cons_zero, List.set_cons_succ]
              with_reducible refine quiet_take (v := ?_) ?_ ?_ ?_
              rotate_left
              · rfl
              · (intro w hSw; (try dsimp only at hSw); go_simp); all_goals (with_reducible rfl)
              try simp only [Act.put, List.setIfInBounds_toArray, List.set_cons_zero, List.set_cons_succ]
              with_reducible refine quiet_take (v := ?_) ?_ ?_ ?_
              rotate_left
              · rfl
              · (intro w hSw; (try dsimp only at hSw); go_simp); all_goals (with_reducible rfl)
              try simp only [Act.put, List.setIfInBounds_toArray, List.set_cons_zero, List.set_cons_succ]
              with_reducible refine quiet_take (v := ?_) ?_ ?_ ?_
              rotate_left
              · rfl
              · (intro w hSw; (try dsimp only at hSw); go_simp); all_goals (with_reducible rfl)
              try simp only [Act.put, List.setIfInBounds_toArray, List.set_cons_zero, List.set_cons_succ]
              with_reducible refine quiet_take (v := ?_) ?_ ?_ ?_
              rotate_left
              · rfl
              · (intro w hSw; (try dsimp only at hSw); go_simp); all_goals (with_reducible rfl)
              try simp only [Act.put, List.setIfInBounds_toArray, List.set_cons_zero, List.set_cons_succ]
              with_reducible refine quiet_take (v := ?_) ?_ ?_ ?_
              rotate_left
              · rfl
              · (intro w hSw; have b0 := (OwnRow.cell (OwnRow.below hM hSw) hM0 (j := 0) (u := .string (bA y.t)) rfl).1; have b1 := (OwnRow.cell (OwnRow.below hM hSw) hM0 (j := 1) (u := .int .i64 y.w) rfl).1; have b2 := (OwnRow.cell (OwnRow.below hM hSw) hM0 (j := 2) (u := .int .i64 y.l) rfl).1; have b3 := (OwnRow.cell (OwnRow.below hM hSw) hM0 (j := 3) (u := .int .i64 y.d) rfl).1; have b4 := (OwnRow.cell (OwnRow.below hM hSw) hM0 (j := 4) (u := .int .i64 y.f) rfl).1; have b5 := (OwnRow.cell (OwnRow.below hM hSw) hM0 (j := 5) (u := .int .i64 y.a) rfl).1; rw [Nat.add_zero] at b0; (try dsimp only at hSw); go_simp); all_goals (with_reducible rfl)
              try simp only [Act.put, List.setIfInBounds_toArray, List.set_cons_zero, List.set_cons_succ]
              with_reducible refine quiet_call (f := 120) (args := ?_) (v := .bool false) ?_ ?_ ?_ ?_
              rotate_left
              · rfl
              · (intro w hSw; (try dsimp only at hSw); go_simp); all_goals (with_reducible rfl)
              · (intro W hSw); exact (cC W).mono fun e w' ⟨h1, h2⟩ => ⟨h1, hSw.trans (h2.mono hSw.size)⟩
              try simp only [Act.put, List.setIfInBounds_toArray, List.set_cons_zero, List.set_cons_succ]
              refine wpQuiet_nil ?_
              intro W hSw
              refine wpAny_of_held (S := fun _ => True) _ _ _ _ ?_
              refine wpAnyH_ready (rs := [13]) (by kernel_rfl) (by simp) ?_
              refine AllReadyH.cons (o := _) rfl (fun K hK => ?_) ?_
              · -- pick
                go_simp
                refine hK.out _ _ trivial (fun _ => ?_)
                clear hK K
                try simp only [List.setIfInBounds_toArray, List.set_cons_zero, List.set_cons_succ]
                refine wpAnyH_done (by kernel_rfl) ?_ _
                have hM9 := OwnRow.below hM hSw
                have hb9 := hb.trans (hSw.mono hb.size)
                have hM9 : OwnRow W w.heap.size 84 6 (.slice (some ⟨gg, 0, none⟩) M rc) (((S.take (r + 1) ++ x :: S.drop (r + 1)) ++ F.drop (p + 1)).map Std.cells) := by
                  have e1 : L.take (r + 1) = S.take (r + 1) := by rw [← HLL.out.1, List.take_append_of_le_length (by rw [HLL.out.2.1]; omega)]
                  have e2 : L.drop (r + 1) = S.drop (r + 1) ++ F.drop (p + 1) := by rw [← HLL.out.1, List.drop_append_of_le_length (by rw [HLL.out.2.1]; omega)]
                  rw [e1, e2] at hM9
                  rw [List.append_assoc, List.cons_append]
                  exact hM9
                clear hSw hM hdr hb
                go_wp2_with fail
                go_roundw
                case rel => exact ⟨p + 1, S.take (r + 1) ++ x :: S.drop (r + 1), by omega, by omega, by go_num, HIN.out.1, HIN.out.2, hM9, hb9⟩
                case measure => simp [numOf'] <;> omega
              exact AllReadyH.nil
      · have hfin : ∃ S', Hid (S'.Perm F ∧ SortS S') ∧ OwnRow wr w.heap.size 84 6 (.slice ra M rc) (S'.map Std.cells) := by
          refine ⟨S, Lib.hid ⟨?_, hSs⟩, ?_⟩
          · rw [List.take_of_length_le (by rw [HM.out]; omega)] at hSp; exact hSp
          · rw [List.drop_eq_nil_of_le (by rw [HM.out]; omega), List.append_nil] at hrow; exact hrow
        have HFIN := Lib.hid hfin
        have hpp : ¬ (p : Int) < (M : Int) := by omega
        clear hSp hSs hrow hfin
        go_wp2_with fail
        go_ret
        obtain ⟨S', q1, q2⟩ := HFIN.out
        exact ⟨⟨_, rfl, S', by rw [HFF.out]; exact q1, q2⟩, hb⟩
end Go.Proofs.Tryz
