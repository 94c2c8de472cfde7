/- Streaks by the reference: by the kit's walk. Short lists of games, as the reference sees them: by the kit's walk. -/
import Derived.Test.YtbfonnoebbjenaaGreatDoorAxSc
import Derived.Test.YtbfonnoebbjenaaGreatDoorAxPb
namespace Go.Proofs.Tryz
open Go Go.Am Go.RowKit Go.Op
set_option maxRecDepth 100000

set_option maxHeartbeats 3200000 in
theorem streakOf_w {l : List Bool} {v : Value} {w : World} (h : IsBools w v l) (hn : l.length ≤ 100000) : Calls prog 41 #[v] w fun e w' => e = .returned (.agg (strk l).arr) ∧ Below w.heap.size w w' := by
  have HV := Lib.hid h
  have hr : Row w v 1 l.length _ := h
  obtain ⟨va, vc, rfl, hk⟩ := hr.slice
  obtain ⟨N, hN⟩ : ∃ N, l.length = N := ⟨_, rfl⟩
  have HN := Lib.hid hN
  rw [hN] at hn hk ⊢
  have hx2 := (at_new w #[.int .i64 0, .int .i64 0, .int .i64 0, .int .i64 0] 72).alloc (.cells #[.int .i64 (N : Int), .int .i64 0, .int .i64 0, .int .i64 0] 72)
  have hx3 : At ((w.alloc (.cells #[.int .i64 0, .int .i64 0, .int .i64 0, .int .i64 0] 72)).alloc (.cells #[.int .i64 (N : Int), .int .i64 0, .int .i64 0, .int .i64 0] 72)) (w.heap.size + 1) #[.int .i64 (N : Int), .int .i64 0, .int .i64 0, .int .i64 0] 72 := by
    have := at_new (w.alloc (.cells #[.int .i64 0, .int .i64 0, .int .i64 0, .int .i64 0] 72)) #[.int .i64 (N : Int), .int .i64 0, .int .i64 0, .int .i64 0] 72
    simpa using this
  have hB : Below w.heap.size w ((w.alloc (.cells #[.int .i64 0, .int .i64 0, .int .i64 0, .int .i64 0] 72)).alloc (.cells #[.int .i64 (N : Int), .int .i64 0, .int .i64 0, .int .i64 0] 72)) := ((Below.refl _ _).alloc (Nat.le_refl _) _).alloc (by simp) _
  obtain ⟨W1, hW⟩ : ∃ W1, (w.alloc (.cells #[.int .i64 0, .int .i64 0, .int .i64 0, .int .i64 0] 72)).alloc (.cells #[.int .i64 (N : Int), .int .i64 0, .int .i64 0, .int .i64 0] 72) = W1 := ⟨_, rfl⟩
  rw [hW] at hx2 hx3 hB
  obtain ⟨F, hF⟩ : ∃ F, strk l = F := ⟨_, rfl⟩
  have HF := Lib.hid hF
  have HG : Hid (F.g = (N : Int)) := Lib.hid (by rw [← hF]; exact (strk_inv N l hN).g)
  rw [hF]
  unfold Skk.arr
  have HWW := Lib.hid hW
  clear h hr hN hF hW
  go_enter func41, ntmps41
  go_wp2_with fail
  rw [HWW.out]
  clear HWW
  go_loopw [4, 5] (fun s4 s5 wr => ∃ (j : Nat) (f m n : Int), j ≤ N ∧ s5 = .int .i64 j ∧ s4 = .int .i64 n ∧ Hid (strk (l.take j) = ⟨j, f, n, m⟩) ∧ At wr w.heap.size #[.int .i64 0, .int .i64 0, .int .i64 0, .int .i64 0] 72 ∧ At wr (w.heap.size + 1) #[.int .i64 (N : Int), .int .i64 f, .int .i64 0, .int .i64 m] 72 ∧ Below w.heap.size w wr) (fun _ s5 _ => N - (numOf' s5).toNat)
  case atStart => exact ⟨0, 0, 0, 0, Nat.zero_le _, rfl, rfl, Lib.hid rfl, hx2, hx3, hB⟩
  case round =>
    clear hx2 hx3 hB
    obtain ⟨j, f, m, n, hj, rfl, rfl, hS, hx2, hx3, hb⟩ := hrel
    by_cases hjN : j < N
    · obtain ⟨b, hbj⟩ : ∃ b, l[j]? = some b := ⟨_, List.getElem?_eq_getElem (by rw [HN.out]; exact hjN)⟩
      obtain ⟨kb, off, c1, e, -, p0⟩ := (HV.out.below hb).at hbj
      simp only [HN.out, Value.slice.injEq, true_and] at e
      obtain ⟨rfl, rfl⟩ := e
      have hjj : (j : Int) < (N : Int) := by omega
      have hinv := strk_inv j (l.take j) (by rw [List.length_take, HN.out]; omega)
      have hst := (joinK_step hinv b).2
      rw [← strk_snoc, ← take_snoc hbj, hS.out] at hst
      rw [hS.out] at hinv
      obtain ⟨-, i2, i3, i4, -⟩ := hinv
      dsimp only at i2 i3 i4 hst
      have r1 : IntKind.i64.wrap ((j : Int) + 1) = (j : Int) + 1 := IntWalk.i64_in _ (by omega)
      have hcast : ((j + 1 : Nat) : Int) = (j : Int) + 1 := by omega
      have hn0 : w.heap.size ≠ w.heap.size + 1 := by omega
      have hlt1 : w.heap.size ≤ w.heap.size + 1 := Nat.le_succ _
      obtain ⟨⟨x0, x1, x2, x3⟩, f0, f1, f2, f3⟩ := box4 hx3
      cases b with
      | true =>
        have hst2 : strk (l.take (j + 1)) = ⟨(j : Int) + 1, if n + 1 = (j : Int) + 1 then n + 1 else f, n + 1, max m (n + 1)⟩ := hst
        by_cases hq : n = (j : Int)
        · subst hq
          have HS2 : Hid (strk (l.take (j + 1)) = ⟨((j + 1 : Nat) : Int), (j : Int) + 1, (j : Int) + 1, max m ((j : Int) + 1)⟩) := Lib.hid (by rw [hst2, if_pos rfl, hcast])
          have h2b := (hx2.setCell (a := ⟨w.heap.size + 1, 3, none⟩) hn0 (.int .i64 (max m ((j : Int) + 1)))).setCell (a := ⟨w.heap.size + 1, 1, none⟩) hn0 (.int .i64 ((j : Int) + 1))
          have h3b := (hx3.set 3 (.int .i64 (max m ((j : Int) + 1)))).set 1 (.int .i64 ((j : Int) + 1))
          have hbb := (hb.setCell (p := ⟨w.heap.size + 1, 3, none⟩) hlt1 (.int .i64 (max m ((j : Int) + 1)))).setCell (p := ⟨w.heap.size + 1, 1, none⟩) hlt1 (.int .i64 ((j : Int) + 1))
          clear hst hst2 hx2 hx3 hb hS hcast
          go_wp2_with fail
          go_roundw
          case rel => exact ⟨j + 1, _, _, _, by omega, by go_num, rfl, HS2, h2b, h3b, hbb⟩
          case measure => simp [numOf'] <;> omega
        · have q1 : ¬ n + 1 = (j : Int) + 1 := by omega
          have hq1 : (n + 1 == (j : Int) + 1) = false := beq_eq_false_iff_ne.2 q1
          have hq2 : (n == (j : Int)) = false := beq_eq_false_iff_ne.2 hq
          have r2 : IntKind.i64.wrap (n + 1) = n + 1 := IntWalk.i64_in _ (by omega)
          have HS2 : Hid (strk (l.take (j + 1)) = ⟨((j + 1 : Nat) : Int), f, n + 1, max m (n + 1)⟩) := Lib.hid (by rw [hst2, if_neg q1, hcast])
          have h2b := hx2.setCell (a := ⟨w.heap.size + 1, 3, none⟩) hn0 (.int .i64 (max m (n + 1)))
          have h3b := hx3.set 3 (.int .i64 (max m (n + 1)))
          have hbb := hb.setCell (p := ⟨w.heap.size + 1, 3, none⟩) hlt1 (.int .i64 (max m (n + 1)))
          clear hst hst2 hx2 hx3 hb hS hcast
          go_wp2_with fail
          go_roundw
          case rel => exact ⟨j + 1, _, _, _, by omega, by go_num, rfl, HS2, h2b, h3b, hbb⟩
          case measure => simp [numOf'] <;> omega
      | false =>
        have hst2 : strk (l.take (j + 1)) = ⟨(j : Int) + 1, if (0 : Int) = (j : Int) + 1 then 0 else f, 0, max m 0⟩ := hst
        have q1 : ¬ (0 : Int) = (j : Int) + 1 := by omega
        have hq1 : ((0 : Int) == (j : Int) + 1) = false := beq_eq_false_iff_ne.2 q1
        have HS2 : Hid (strk (l.take (j + 1)) = ⟨((j + 1 : Nat) : Int), f, 0, max m 0⟩) := Lib.hid (by rw [hst2, if_neg q1, hcast])
        have h2b := hx2.setCell (a := ⟨w.heap.size + 1, 3, none⟩) hn0 (.int .i64 (max m 0))
        have h3b := hx3.set 3 (.int .i64 (max m 0))
        have hbb := hb.setCell (p := ⟨w.heap.size + 1, 3, none⟩) hlt1 (.int .i64 (max m 0))
        clear hst hst2 hx2 hx3 hb hS hcast
        go_wp2_with fail
        go_roundw
        case rel => exact ⟨j + 1, _, _, _, by omega, by go_num, rfl, HS2, h2b, h3b, hbb⟩
        case measure => simp [numOf'] <;> omega
    · obtain rfl : j = N := by omega
      have hlen : l.take j = l := List.take_of_length_le (by rw [HN.out]; exact Nat.le_refl _)
      have hFF := hS.out
      rw [hlen, HF.out] at hFF
      subst hFF
      have hn0 : w.heap.size ≠ w.heap.size + 1 := by omega
      have hlt1 : w.heap.size ≤ w.heap.size + 1 := Nat.le_succ _
      have h2a := hx2.setCell (a := ⟨w.heap.size + 1, 2, none⟩) hn0 (.int .i64 n)
      have h3a := hx3.set 2 (.int .i64 n)
      have hba := hb.setCell (p := ⟨w.heap.size + 1, 2, none⟩) hlt1 (.int .i64 n)
      have hz := h2a.put4 (.int .i64 (j : Int)) (.int .i64 f) (.int .i64 n) (.int .i64 m)
      have hbz := below_put4 hba (Nat.le_refl _) (.int .i64 (j : Int)) (.int .i64 f) (.int .i64 n) (.int .i64 m)
      obtain ⟨⟨x0, x1, x2, x3⟩, f0, f1, f2, f3⟩ := box4 hx3
      obtain ⟨⟨z0, z1, z2, z3⟩, e0, e1, e2, e3⟩ := box4 h3a
      obtain ⟨⟨y0, y1, y2, y3⟩, g0, g1, g2, g3⟩ := box4 h2a
      clear hx2 hx3 hb hlen h2a h3a hba hS
      go_wp2_with fail
      exact bodyPost_ret (res41 rfl hz) rfl ⟨rfl, hbz⟩
end Go.Proofs.Tryz

namespace Go.Proofs.Tryz
open Go Go.Am Go.RowKit Go.Op
set_option maxRecDepth 100000

def shLn (x : LnD) : Prop := x.p.length ≤ 60 ∧ x.t.length ≤ 60
def shHd (g : GmD) : Prop := g.nm.length ≤ 60 ∧ g.t0.length ≤ 60 ∧ g.t1.length ≤ 60 ∧ ¬ (6 < g.k ∧ g.k ≤ 60) ∧ g.k ≤ 62
instance (g : GmD) : Decidable (shHd g) := by unfold shHd; infer_instance
def shGm (g : GmD) : Prop := shHd g ∧ ∀ j, j < g.k → shLn (g.l j)
/-- What Short lets pass. -/
def ShortOk (N : Nat) (g : Nat → GmD) (n : Nat) : Prop := ¬ (N < n ∧ n ≤ 64) ∧ n ≤ 66 ∧ ∀ i, i < n → shGm (g i)

/-- A truth value that is true only if p holds. -/
def AnsB (e : Ending) (p : Prop) : Prop := ∃ b : Bool, e = .returned (.bool b) ∧ (b = true → p)
set_option maxHeartbeats 3200000 in
theorem short_w {g : Nat → GmD} {n : Nat} {v : Value} {w : World} (h : IsGames w v g n) (N : Nat) :
    Calls prog 16 #[v, .int .i64 (N : Int)] w fun e w' => AnsB e (ShortOk N g n) ∧ w' = w := by
  have h0 := h
  obtain ⟨lv0, hr, -⟩ := h0
  obtain ⟨ad, c, rfl, hnc⟩ := hr.slice
  clear hr
  go_enter func16, ntmps16
  obtain ⟨bad, hbad⟩ : ∃ b, decide ((N < n ∧ n ≤ 64) ∨ 66 < n) = b := ⟨_, rfl⟩
  go_upto_region 1 with fail
  go_cut [20] (fun s wx => s = .bool bad ∧ wx = w)
  case first =>
    by_cases q1 : N < n
    · have q1' : (N : Int) < (n : Int) := by omega
      by_cases q2 : n ≤ 64
      · have q2' : (n : Int) ≤ 64 := by omega
        obtain rfl : true = bad := by rw [← hbad]; symm; rw [decide_eq_true_eq]; omega
        clear q1 q2 hbad
        go_wp2_with fail
        go_meet
        exact ⟨rfl, rfl⟩
      · have q2' : ¬ (n : Int) ≤ 64 := by omega
        by_cases q3 : n ≤ 66
        · have q3' : ¬ (66 : Int) < (n : Int) := by omega
          obtain rfl : false = bad := by rw [← hbad]; symm; rw [decide_eq_false_iff_not]; omega
          clear q1 q2 q3 hbad
          go_wp2_with fail
          go_meet
          exact ⟨rfl, rfl⟩
        · have q3' : (66 : Int) < (n : Int) := by omega
          obtain rfl : true = bad := by rw [← hbad]; symm; rw [decide_eq_true_eq]; omega
          clear q1 q2 q3 hbad
          go_wp2_with fail
          go_meet
          exact ⟨rfl, rfl⟩
    · have q1' : ¬ (N : Int) < (n : Int) := by omega
      by_cases q3 : n ≤ 66
      · have q3' : ¬ (66 : Int) < (n : Int) := by omega
        obtain rfl : false = bad := by rw [← hbad]; symm; rw [decide_eq_false_iff_not]; omega
        clear q1 q3 hbad
        go_wp2_with fail
        go_meet
        exact ⟨rfl, rfl⟩
      · have q3' : (66 : Int) < (n : Int) := by omega
        obtain rfl : true = bad := by rw [← hbad]; symm; rw [decide_eq_true_eq]; omega
        clear q1 q3 hbad
        go_wp2_with fail
        go_meet
        exact ⟨rfl, rfl⟩
  case rest =>
    obtain ⟨rfl, rfl⟩ := hcut
    cases bad with
    | true =>
      clear hbad
      go_wp2_with fail
      go_ret
      exact ⟨⟨_, rfl, fun h => by cases h⟩, rfl⟩
    | false =>
    rw [decide_eq_false_iff_not] at hbad
    have hn66 : n ≤ 66 := by omega
    have HQ : Hid (¬ (N < n ∧ n ≤ 64) ∧ n ≤ 66) := Lib.hid ⟨fun h => hbad (.inl h), hn66⟩
    clear hbad
    have HE : Hid (∀ i, i < 0 → shGm (g i)) := Lib.hid fun i hi => absurd hi (Nat.not_lt_zero _)
    go_wp2_with fail
    go_loopw [5] (fun s wr => ∃ i : Nat, i ≤ n ∧ s = .int .i64 i ∧ Hid (∀ i', i' < i → shGm (g i')) ∧ wr = wc) (fun s _ => n - (numOf' s).toNat)
    case atStart => exact ⟨0, Nat.zero_le _, rfl, HE, rfl⟩
    case round =>
      clear HE
      obtain ⟨i, hi, rfl, hE, rfl⟩ := hrel
      by_cases hin : i < n
      · obtain ⟨b, off, c1, a1, kc, e, -, hli, p0, p1, p2, p3, p4, p5, p6, p7⟩ := h.at hin
        simp only [Value.slice.injEq, true_and] at e
        obtain ⟨rfl, rfl⟩ := e
        have hii : (i : Int) < (n : Int) := by omega
        have s0 : (bA (g i).nm).size = (g i).nm.length := bA_size _
        have s1 : (bA (g i).t0).size = (g i).t0.length := bA_size _
        have s2 : (bA (g i).t1).size = (g i).t1.length := bA_size _
        clear p1 p2 p5 p6
        obtain ⟨bad, hbad⟩ : ∃ b, decide (¬ shHd (g i)) = b := ⟨_, rfl⟩
        go_upto_region 6 with fail
        go_cut [80] (fun s wx => s = .bool bad ∧ wx = wr)
        case first =>
          by_cases q1 : 60 < (g i).nm.length
          · have q1' : (60 : Int) < ((g i).nm.length : Int) := by omega
            obtain rfl : true = bad := by rw [← hbad]; symm; rw [decide_eq_true_eq]; unfold shHd; omega
            clear q1 hbad
            go_wp2_with fail
            go_meet
            exact ⟨rfl, rfl⟩
          have q1' : ¬ (60 : Int) < ((g i).nm.length : Int) := by omega
          by_cases q2 : 60 < (g i).t0.length
          · have q2' : (60 : Int) < ((g i).t0.length : Int) := by omega
            obtain rfl : true = bad := by rw [← hbad]; symm; rw [decide_eq_true_eq]; unfold shHd; omega
            clear q1 q2 hbad
            go_wp2_with fail
            go_meet
            exact ⟨rfl, rfl⟩
          have q2' : ¬ (60 : Int) < ((g i).t0.length : Int) := by omega
          by_cases q3 : 60 < (g i).t1.length
          · have q3' : (60 : Int) < ((g i).t1.length : Int) := by omega
            obtain rfl : true = bad := by rw [← hbad]; symm; rw [decide_eq_true_eq]; unfold shHd; omega
            clear q1 q2 q3 hbad
            go_wp2_with fail
            go_meet
            exact ⟨rfl, rfl⟩
          have q3' : ¬ (60 : Int) < ((g i).t1.length : Int) := by omega
          by_cases q4 : 6 < (g i).k
          · have q4' : (6 : Int) < ((g i).k : Int) := by omega
            by_cases q5 : (g i).k ≤ 60
            · have q5' : ((g i).k : Int) ≤ 60 := by omega
              obtain rfl : true = bad := by rw [← hbad]; symm; rw [decide_eq_true_eq]; unfold shHd; omega
              clear q1 q2 q3 q4 q5 hbad
              go_wp2_with fail
              go_meet
              exact ⟨rfl, rfl⟩
            have q5' : ¬ ((g i).k : Int) ≤ 60 := by omega
            by_cases q6 : 62 < (g i).k
            · have q6' : (62 : Int) < ((g i).k : Int) := by omega
              obtain rfl : true = bad := by rw [← hbad]; symm; rw [decide_eq_true_eq]; unfold shHd; omega
              clear q1 q2 q3 q4 q5 q6 hbad
              go_wp2_with fail
              go_meet
              exact ⟨rfl, rfl⟩
            have q6' : ¬ (62 : Int) < ((g i).k : Int) := by omega
            obtain rfl : false = bad := by rw [← hbad]; symm; rw [decide_eq_false_iff_not]; unfold shHd; omega
            clear q1 q2 q3 q4 q5 q6 hbad
            go_wp2_with fail
            go_meet
            exact ⟨rfl, rfl⟩
          have q4' : ¬ (6 : Int) < ((g i).k : Int) := by omega
          have q6' : ¬ (62 : Int) < ((g i).k : Int) := by omega
          obtain rfl : false = bad := by rw [← hbad]; symm; rw [decide_eq_false_iff_not]; unfold shHd; omega
          clear q1 q2 q3 q4 hbad
          go_wp2_with fail
          go_meet
          exact ⟨rfl, rfl⟩
        case rest =>
          obtain ⟨rfl, rfl⟩ := hcut
          cases bad with
          | true =>
            clear hbad
            go_wp2_with fail
            go_ret
            exact ⟨⟨_, rfl, fun h => by cases h⟩, rfl⟩
          | false =>
          rw [decide_eq_false_iff_not, Classical.not_not] at hbad
          have hk62 := hbad.2.2.2.2
          have HOK := Lib.hid hbad
          clear hbad p0 p3 p4 s0 s1 s2
          have HE : Hid (∀ j, j < 0 → shLn ((g i).l j)) := Lib.hid fun i hi => absurd hi (Nat.not_lt_zero _)
          go_wp2_with fail
          go_loopw [6] (fun s wx => ∃ j : Nat, j ≤ (g i).k ∧ s = .int .i64 j ∧ Hid (∀ j', j' < j → shLn ((g i).l j')) ∧ wx = wc) (fun s _ => (g i).k - (numOf' s).toNat)
          case atStart => exact ⟨0, Nat.zero_le _, rfl, HE, rfl⟩
          case round =>
            clear HE
            obtain ⟨j, hj, rfl, hE2, rfl⟩ := hrel
            by_cases hjk : j < (g i).k
            · obtain ⟨b2, off2, c2, e2, -, r0, r1, -⟩ := hli.at hjk
              simp only [Value.slice.injEq, true_and] at e2
              obtain ⟨rfl, rfl⟩ := e2
              have hjj : (j : Int) < ((g i).k : Int) := by omega
              have s0 : (bA ((g i).l j).p).size = ((g i).l j).p.length := bA_size _
              have s1 : (bA ((g i).l j).t).size = ((g i).l j).t.length := bA_size _
              by_cases q1 : 60 < ((g i).l j).p.length
              · have q1' : (60 : Int) < (((g i).l j).p.length : Int) := by omega
                clear q1
                go_wp2_with fail
                go_ret
                exact ⟨⟨_, rfl, fun h => by cases h⟩, rfl⟩
              have q1' : ¬ (60 : Int) < (((g i).l j).p.length : Int) := by omega
              by_cases q2 : 60 < ((g i).l j).t.length
              · have q2' : (60 : Int) < (((g i).l j).t.length : Int) := by omega
                clear q1 q2
                go_wp2_with fail
                go_ret
                exact ⟨⟨_, rfl, fun h => by cases h⟩, rfl⟩
              have q2' : ¬ (60 : Int) < (((g i).l j).t.length : Int) := by omega
              have hE3 : Hid (∀ j', j' < j + 1 → shLn ((g i).l j')) := Lib.hid fun j' h' => by
                rcases Nat.lt_succ_iff_lt_or_eq.1 h' with q | rfl
                · exact hE2.out j' q
                · exact ⟨by omega, by omega⟩
              clear q1 q2 hE2
              go_wp2_with fail
              go_roundw
              case rel => exact ⟨j + 1, by omega, by go_num, hE3, by first | trivial | rfl | assumption⟩
              case measure => simp [numOf'] <;> omega
            · obtain rfl : j = (g i).k := by omega
              have hE3 : Hid (∀ i', i' < i + 1 → shGm (g i')) := Lib.hid fun i' h' => by
                rcases Nat.lt_succ_iff_lt_or_eq.1 h' with q | rfl
                · exact hE.out i' q
                · exact ⟨HOK.out, hE2.out⟩
              clear hE hE2 HOK
              go_wp2_with fail
              go_roundw
              case rel => exact ⟨i + 1, by omega, by go_num, hE3, by first | trivial | rfl | assumption⟩
              case measure => simp [numOf'] <;> omega
      · obtain rfl : i = n := by omega
        have HF : Hid (ShortOk N g i) := Lib.hid ⟨HQ.out.1, HQ.out.2, hE.out⟩
        clear hE
        go_wp2_with fail
        go_ret
        exact ⟨⟨_, rfl, fun _ => HF.out⟩, rfl⟩
end Go.Proofs.Tryz
