/- Short lists of games, as the reference sees them: by the kit's walk. -/
import Derived.Test.YtbfonnoebbjenaaGreatDoorAxT
namespace Go.Proofs.Tryz
open Go Go.Am Go.RowKit Go.Op
set_option maxRecDepth 100000

def shLn (x : LnD) : Prop := x.p.length ≤ 60 ∧ x.t.length ≤ 60
def shHd (g : GmD) : Prop := g.nm.length ≤ 60 ∧ g.t0.length ≤ 60 ∧ g.t1.length ≤ 60 ∧ ¬ (6 < g.k ∧ g.k ≤ 60) ∧ g.k ≤ 62
instance (g : GmD) : Decidable (shHd g) := by unfold shHd; infer_instance
def shGm (g : GmD) : Prop := shHd g ∧ ∀ j, j < g.k → shLn (g.l j)
/-- What Short lets pass. -/
def ShortOk (N : Nat) (g : Nat → GmD) (n : Nat) : Prop := ¬ (N < n ∧ n ≤ 64) ∧ n ≤ 66 ∧ ∀ i, i < n → shGm (g i)

/-- A truth value that is true only if p holds. -/
def AnsB (e : Ending) (p : Prop) : Prop := ∃ b : Bool, e = .returned (.bool b) ∧ (b = true → p)
set_option maxHeartbeats 3200000 in
theorem short_w {g : Nat → GmD} {n : Nat} {v : Value} {w : World} (h : IsGames w v g n) (N : Nat) :
    Calls prog 16 #[v, .int .i64 (N : Int)] w fun e w' => AnsB e (ShortOk N g n) ∧ w' = w := by
  have h0 := h
  obtain ⟨lv0, hr, -⟩ := h0
  obtain ⟨ad, c, rfl, hnc⟩ := hr.slice
  clear hr
  go_enter func16, ntmps16
  obtain ⟨bad, hbad⟩ : ∃ b, decide ((N < n ∧ n ≤ 64) ∨ 66 < n) = b := ⟨_, rfl⟩
  go_upto_region 1 with fail
  go_cut [20] (fun s wx => s = .bool bad ∧ wx = w)
  case first =>
    by_cases q1 : N < n
    · have q1' : (N : Int) < (n : Int) := by omega
      by_cases q2 : n ≤ 64
      · have q2' : (n : Int) ≤ 64 := by omega
        obtain rfl : true = bad := by rw [← hbad]; symm; rw [decide_eq_true_eq]; omega
        clear q1 q2 hbad
        go_wp2_with fail
        go_meet
        exact ⟨rfl, rfl⟩
      · have q2' : ¬ (n : Int) ≤ 64 := by omega
        by_cases q3 : n ≤ 66
        · have q3' : ¬ (66 : Int) < (n : Int) := by omega
          obtain rfl : false = bad := by rw [← hbad]; symm; rw [decide_eq_false_iff_not]; omega
          clear q1 q2 q3 hbad
          go_wp2_with fail
          go_meet
          exact ⟨rfl, rfl⟩
        · have q3' : (66 : Int) < (n : Int) := by omega
          obtain rfl : true = bad := by rw [← hbad]; symm; rw [decide_eq_true_eq]; omega
          clear q1 q2 q3 hbad
          go_wp2_with fail
          go_meet
          exact ⟨rfl, rfl⟩
    · have q1' : ¬ (N : Int) < (n : Int) := by omega
      by_cases q3 : n ≤ 66
      · have q3' : ¬ (66 : Int) < (n : Int) := by omega
        obtain rfl : false = bad := by rw [← hbad]; symm; rw [decide_eq_false_iff_not]; omega
        clear q1 q3 hbad
        go_wp2_with fail
        go_meet
        exact ⟨rfl, rfl⟩
      · have q3' : (66 : Int) < (n : Int) := by omega
        obtain rfl : true = bad := by rw [← hbad]; symm; rw [decide_eq_true_eq]; omega
        clear q1 q3 hbad
        go_wp2_with fail
        go_meet
        exact ⟨rfl, rfl⟩
  case rest =>
    obtain ⟨rfl, rfl⟩ := hcut
    cases bad with
    | true =>
      clear hbad
      go_wp2_with fail
      go_ret
      exact ⟨⟨_, rfl, fun h => by cases h⟩, rfl⟩
    | false =>
    rw [decide_eq_false_iff_not] at hbad
    have hn66 : n ≤ 66 := by omega
    have HQ : Hid (¬ (N < n ∧ n ≤ 64) ∧ n ≤ 66) := Lib.hid ⟨fun h => hbad (.inl h), hn66⟩
    clear hbad
    have HE : Hid (∀ i, i < 0 → shGm (g i)) := Lib.hid fun i hi => absurd hi (Nat.not_lt_zero _)
    go_wp2_with fail
    go_loopw [5] (fun s wr => ∃ i : Nat, i ≤ n ∧ s = .int .i64 i ∧ Hid (∀ i', i' < i → shGm (g i')) ∧ wr = wc) (fun s _ => n - (numOf' s).toNat)
    case atStart => exact ⟨0, Nat.zero_le _, rfl, HE, rfl⟩
    case round =>
      clear HE
      obtain ⟨i, hi, rfl, hE, rfl⟩ := hrel
      by_cases hin : i < n
      · obtain ⟨b, off, c1, a1, kc, e, -, hli, p0, p1, p2, p3, p4, p5, p6, p7⟩ := h.at hin
        simp only [Value.slice.injEq, true_and] at e
        obtain ⟨rfl, rfl⟩ := e
        have hii : (i : Int) < (n : Int) := by omega
        have s0 : (bA (g i).nm).size = (g i).nm.length := bA_size _
        have s1 : (bA (g i).t0).size = (g i).t0.length := bA_size _
        have s2 : (bA (g i).t1).size = (g i).t1.length := bA_size _
        clear p1 p2 p5 p6
        obtain ⟨bad, hbad⟩ : ∃ b, decide (¬ shHd (g i)) = b := ⟨_, rfl⟩
        go_upto_region 6 with fail
        go_cut [80] (fun s wx => s = .bool bad ∧ wx = wr)
        case first =>
          by_cases q1 : 60 < (g i).nm.length
          · have q1' : (60 : Int) < ((g i).nm.length : Int) := by omega
            obtain rfl : true = bad := by rw [← hbad]; symm; rw [decide_eq_true_eq]; unfold shHd; omega
            clear q1 hbad
            go_wp2_with fail
            go_meet
            exact ⟨rfl, rfl⟩
          have q1' : ¬ (60 : Int) < ((g i).nm.length : Int) := by omega
          by_cases q2 : 60 < (g i).t0.length
          · have q2' : (60 : Int) < ((g i).t0.length : Int) := by omega
            obtain rfl : true = bad := by rw [← hbad]; symm; rw [decide_eq_true_eq]; unfold shHd; omega
            clear q1 q2 hbad
            go_wp2_with fail
            go_meet
            exact ⟨rfl, rfl⟩
          have q2' : ¬ (60 : Int) < ((g i).t0.length : Int) := by omega
          by_cases q3 : 60 < (g i).t1.length
          · have q3' : (60 : Int) < ((g i).t1.length : Int) := by omega
            obtain rfl : true = bad := by rw [← hbad]; symm; rw [decide_eq_true_eq]; unfold shHd; omega
            clear q1 q2 q3 hbad
            go_wp2_with fail
            go_meet
            exact ⟨rfl, rfl⟩
          have q3' : ¬ (60 : Int) < ((g i).t1.length : Int) := by omega
          by_cases q4 : 6 < (g i).k
          · have q4' : (6 : Int) < ((g i).k : Int) := by omega
            by_cases q5 : (g i).k ≤ 60
            · have q5' : ((g i).k : Int) ≤ 60 := by omega
              obtain rfl : true = bad := by rw [← hbad]; symm; rw [decide_eq_true_eq]; unfold shHd; omega
              clear q1 q2 q3 q4 q5 hbad
              go_wp2_with fail
              go_meet
              exact ⟨rfl, rfl⟩
            have q5' : ¬ ((g i).k : Int) ≤ 60 := by omega
            by_cases q6 : 62 < (g i).k
            · have q6' : (62 : Int) < ((g i).k : Int) := by omega
              obtain rfl : true = bad := by rw [← hbad]; symm; rw [decide_eq_true_eq]; unfold shHd; omega
              clear q1 q2 q3 q4 q5 q6 hbad
              go_wp2_with fail
              go_meet
              exact ⟨rfl, rfl⟩
            have q6' : ¬ (62 : Int) < ((g i).k : Int) := by omega
            obtain rfl : false = bad := by rw [← hbad]; symm; rw [decide_eq_false_iff_not]; unfold shHd; omega
            clear q1 q2 q3 q4 q5 q6 hbad
            go_wp2_with fail
            go_meet
            exact ⟨rfl, rfl⟩
          have q4' : ¬ (6 : Int) < ((g i).k : Int) := by omega
          have q6' : ¬ (62 : Int) < ((g i).k : Int) := by omega
          obtain rfl : false = bad := by rw [← hbad]; symm; rw [decide_eq_false_iff_not]; unfold shHd; omega
          clear q1 q2 q3 q4 hbad
          go_wp2_with fail
          go_meet
          exact ⟨rfl, rfl⟩
        case rest =>
          obtain ⟨rfl, rfl⟩ := hcut
          cases bad with
          | true =>
            clear hbad
            go_wp2_with fail
            go_ret
            exact ⟨⟨_, rfl, fun h => by cases h⟩, rfl⟩
          | false =>
          rw [decide_eq_false_iff_not, Classical.not_not] at hbad
          have hk62 := hbad.2.2.2.2
          have HOK := Lib.hid hbad
          clear hbad p0 p3 p4 s0 s1 s2
          have HE : Hid (∀ j, j < 0 → shLn ((g i).l j)) := Lib.hid fun i hi => absurd hi (Nat.not_lt_zero _)
          go_wp2_with fail
          go_loopw [6] (fun s wx => ∃ j : Nat, j ≤ (g i).k ∧ s = .int .i64 j ∧ Hid (∀ j', j' < j → shLn ((g i).l j')) ∧ wx = wc) (fun s _ => (g i).k - (numOf' s).toNat)
          case atStart => exact ⟨0, Nat.zero_le _, rfl, HE, rfl⟩
          case round =>
            clear HE
            obtain ⟨j, hj, rfl, hE2, rfl⟩ := hrel
            by_cases hjk : j < (g i).k
            · obtain ⟨b2, off2, c2, e2, -, r0, r1, -⟩ := hli.at hjk
              simp only [Value.slice.injEq, true_and] at e2
              obtain ⟨rfl, rfl⟩ := e2
              have hjj : (j : Int) < ((g i).k : Int) := by omega
              have s0 : (bA ((g i).l j).p).size = ((g i).l j).p.length := bA_size _
              have s1 : (bA ((g i).l j).t).size = ((g i).l j).t.length := bA_size _
              by_cases q1 : 60 < ((g i).l j).p.length
              · have q1' : (60 : Int) < (((g i).l j).p.length : Int) := by omega
                clear q1
                go_wp2_with fail
                go_ret
                exact ⟨⟨_, rfl, fun h => by cases h⟩, rfl⟩
              have q1' : ¬ (60 : Int) < (((g i).l j).p.length : Int) := by omega
              by_cases q2 : 60 < ((g i).l j).t.length
              · have q2' : (60 : Int) < (((g i).l j).t.length : Int) := by omega
                clear q1 q2
                go_wp2_with fail
                go_ret
                exact ⟨⟨_, rfl, fun h => by cases h⟩, rfl⟩
              have q2' : ¬ (60 : Int) < (((g i).l j).t.length : Int) := by omega
              have hE3 : Hid (∀ j', j' < j + 1 → shLn ((g i).l j')) := Lib.hid fun j' h' => by
                rcases Nat.lt_succ_iff_lt_or_eq.1 h' with q | rfl
                · exact hE2.out j' q
                · exact ⟨by omega, by omega⟩
              clear q1 q2 hE2
              go_wp2_with fail
              go_roundw
              case rel => exact ⟨j + 1, by omega, by go_num, hE3, by first | trivial | rfl | assumption⟩
              case measure => simp [numOf'] <;> omega
            · obtain rfl : j = (g i).k := by omega
              have hE3 : Hid (∀ i', i' < i + 1 → shGm (g i')) := Lib.hid fun i' h' => by
                rcases Nat.lt_succ_iff_lt_or_eq.1 h' with q | rfl
                · exact hE.out i' q
                · exact ⟨HOK.out, hE2.out⟩
              clear hE hE2 HOK
              go_wp2_with fail
              go_roundw
              case rel => exact ⟨i + 1, by omega, by go_num, hE3, by first | trivial | rfl | assumption⟩
              case measure => simp [numOf'] <;> omega
      · obtain rfl : i = n := by omega
        have HF : Hid (ShortOk N g i) := Lib.hid ⟨HQ.out.1, HQ.out.2, hE.out⟩
        clear hE
        go_wp2_with fail
        go_ret
        exact ⟨⟨_, rfl, fun _ => HF.out⟩, rfl⟩
end Go.Proofs.Tryz
