/- Leaders and ratios compared by '==' and '!='. Short lists of totals, as the reference sees them: by the kit's walk. Totals without those of nothing, by the reference: by the kit's walk. A book checked by the reference: by the kit's walk. Lists of games checked, on both sides: by the kit's walk. Totals and differences by the reference; what valid games hold: by the kit's walk. Totals and differences by the season: by the kit's walk. SeasonTotals: the law returns true. -/
import Derived.Test.YtbfonnoebbjenaaGreatDoorAxS
import Derived.Test.YtbfonnoebbjenaaGreatDoorAxUb
import Derived.Test.YtbfonnoebbjenaaGreatDoorAxLk
import Derived.Test.YtbfonnoebbjenaaGreatDoorAxD
import Derived.Test.YtbfonnoebbjenaaGreatDoorAxTb
import Derived.Test.YtbfonnoebbjenaaGreatDoorAxTg
namespace Go.Proofs.Tryz
open Go Go.Am Go.RowKit Go.Op
set_option maxRecDepth 100000

theorem eq_rat (D : Nat) (a b c d : Int) (W : World) : (Op.equalIn (D + 1 + 1) 60 (.agg #[.int .i64 a, .int .i64 b]) (.agg #[.int .i64 c, .int .i64 d])).run prog W = .ok ((a == c) && (b == d)) W := by
  have hS : prog.underlying 60 = some (.struct (prog.fieldsOf 60)) := by kernel_rfl
  have hp : prog.stoodInHeld 60 = false := by kernel_rfl
  rw [run_equalIn_agg W (D + 1) 60 _ _ hS hp]
  simp only [Program.fieldsOf, underlying60]
  go_simp
  by_cases h1 : a = c
  · by_cases h2 : b = d <;> simp [h1, h2]
  · simp [h1]
theorem eql_rat (a b c d : Int) (W : World) : (binOp .eql 60 (.agg #[.int .i64 a, .int .i64 b]) (.agg #[.int .i64 c, .int .i64 d])).run prog W = .ok (.bool ((a == c) && (b == d))) W := by
  have h := eq_rat 9998 a b c d W
  simp only [binOp]
  simp [Op.equal, Op.maxDepth, h]
theorem eq_ld62 (p : List UInt8) (a b c : Int) (W : World) : (Op.equalIn 10000 62 (.agg #[.string (bA p), .int .i64 a, .int .i64 b, .int .i64 c]) (.agg #[.string (bA p), .int .i64 a, .int .i64 b, .int .i64 c])).run prog W = .ok true W := by
  have hS : prog.underlying 62 = some (.struct (prog.fieldsOf 62)) := by kernel_rfl
  have hp : prog.stoodInHeld 62 = false := by kernel_rfl
  have hc := eq_rat 9997 a b a b
  simp only [beq_self_eq_true, Bool.and_self] at hc
  rw [show (10000 : Nat) = 9999 + 1 from rfl, run_equalIn_agg W 9999 62 _ _ hS hp]
  simp only [Program.fieldsOf, underlying62]
  go_simp
theorem neq_ld62 (p : List UInt8) (a b c : Int) (W : World) : (binOp .neq 62 (.agg #[.string (bA p), .int .i64 a, .int .i64 b, .int .i64 c]) (.agg #[.string (bA p), .int .i64 a, .int .i64 b, .int .i64 c])).run prog W = .ok (.bool false) W := by
  have h := eq_ld62 p a b c W
  rw [run_neq_struct, show (10000 : Nat) = 9998 + 1 + 1 from rfl, h]
  rfl
end Go.Proofs.Tryz

namespace Go.Proofs.Tryz
open Go Go.Am Go.RowKit Go.Op
set_option maxRecDepth 100000

/-- What ShortTotals lets pass. -/
def ShortT (N : Nat) (l : List Tot) : Prop := ¬ (N < l.length ∧ l.length ≤ 4096) ∧ l.length ≤ 4098
set_option maxHeartbeats 3200000 in
theorem shortT_w {l : List Tot} {v : Value} {w : World} (h : IsTots w v l) (N : Nat) :
    Calls prog 28 #[v, .int .i64 (N : Int)] w fun e w' => AnsB e (ShortT N l) ∧ w' = w := by
  have h0 := h
  obtain ⟨ad, c, rfl, hnc⟩ := h0.slice
  obtain ⟨n, hln⟩ : ∃ n, l.length = n := ⟨_, rfl⟩
  have HL := Lib.hid hln
  have HP : Hid (∀ p, AnsB p (ShortT N l) = AnsB p (¬ (N < n ∧ n ≤ 4096) ∧ n ≤ 4098)) := Lib.hid fun p => by unfold ShortT; rw [hln]
  rw [hln] at hnc ⊢
  have HP2 : (fun (e : Ending) (w' : World) => AnsB e (ShortT N l) ∧ w' = w) = fun e w' => AnsB e (¬ (N < n ∧ n ≤ 4096) ∧ n ≤ 4098) ∧ w' = w := by funext e w'; rw [HP.out]
  rw [HP2]
  clear hln HP HP2 h0
  go_enter func28, ntmps28
  obtain ⟨bad, hbad⟩ : ∃ b, decide ((N < n ∧ n ≤ 4096) ∨ 4098 < n) = b := ⟨_, rfl⟩
  go_upto_region 1 with fail
  go_cut [19] (fun s wx => s = .bool bad ∧ wx = w)
  case first =>
    by_cases q1 : N < n
    · have q1' : (N : Int) < (n : Int) := by omega
      by_cases q2 : n ≤ 4096
      · have q2' : (n : Int) ≤ 4096 := by omega
        obtain rfl : true = bad := by rw [← hbad]; symm; rw [decide_eq_true_eq]; omega
        clear q1 q2 hbad
        go_wp2_with fail
        go_meet
        exact ⟨rfl, rfl⟩
      · have q2' : ¬ (n : Int) ≤ 4096 := by omega
        by_cases q3 : n ≤ 4098
        · have q3' : ¬ (4098 : Int) < (n : Int) := by omega
          obtain rfl : false = bad := by rw [← hbad]; symm; rw [decide_eq_false_iff_not]; omega
          clear q1 q2 q3 hbad
          go_wp2_with fail
          go_meet
          exact ⟨rfl, rfl⟩
        · have q3' : (4098 : Int) < (n : Int) := by omega
          obtain rfl : true = bad := by rw [← hbad]; symm; rw [decide_eq_true_eq]; omega
          clear q1 q2 q3 hbad
          go_wp2_with fail
          go_meet
          exact ⟨rfl, rfl⟩
    · have q1' : ¬ (N : Int) < (n : Int) := by omega
      by_cases q3 : n ≤ 4098
      · have q3' : ¬ (4098 : Int) < (n : Int) := by omega
        obtain rfl : false = bad := by rw [← hbad]; symm; rw [decide_eq_false_iff_not]; omega
        clear q1 q3 hbad
        go_wp2_with fail
        go_meet
        exact ⟨rfl, rfl⟩
      · have q3' : (4098 : Int) < (n : Int) := by omega
        obtain rfl : true = bad := by rw [← hbad]; symm; rw [decide_eq_true_eq]; omega
        clear q1 q3 hbad
        go_wp2_with fail
        go_meet
        exact ⟨rfl, rfl⟩
  case rest =>
    obtain ⟨rfl, rfl⟩ := hcut
    cases bad with
    | true =>
      clear hbad
      go_wp2_with fail
      go_ret
      exact ⟨⟨_, rfl, fun h => by cases h⟩, rfl⟩
    | false =>
    rw [decide_eq_false_iff_not] at hbad
    have hn66 : n ≤ 4098 := by omega
    have HQ : Hid (¬ (N < n ∧ n ≤ 4096) ∧ n ≤ 4098) := Lib.hid ⟨fun h => hbad (.inl h), hn66⟩
    clear hbad
    go_wp2_with fail
    go_loopw [5] (fun s wr => ∃ i : Nat, i ≤ n ∧ s = .int .i64 i ∧ wr = wc) (fun s _ => n - (numOf' s).toNat)
    case atStart => exact ⟨0, Nat.zero_le _, rfl, rfl⟩
    case round =>
      obtain ⟨i, hi, rfl, rfl⟩ := hrel
      by_cases hin : i < n
      · have hii : (i : Int) < (n : Int) := by omega
        by_cases h100 : i < 100
        · have h100' : (i : Int) < 100 := by omega
          obtain ⟨t, ht⟩ : ∃ t, l[i]? = some t := ⟨_, List.getElem?_eq_getElem (by rw [HL.out]; exact hin)⟩
          obtain ⟨b, off, c1, e, -, p0, -, -⟩ := h.at ht
          simp only [HL.out, Value.slice.injEq, true_and] at e
          obtain ⟨rfl, rfl⟩ := e
          have s0 : (bA t.p).size = t.p.length := bA_size _
          clear ht
          by_cases q1 : 60 < t.p.length
          · have q1' : (60 : Int) < (t.p.length : Int) := by omega
            clear q1
            go_wp2_with fail
            go_ret
            exact ⟨⟨_, rfl, fun h => by cases h⟩, rfl⟩
          · have q1' : ¬ (60 : Int) < (t.p.length : Int) := by omega
            clear q1
            go_wp2_with fail
            go_roundw
            case rel => exact ⟨i + 1, by omega, by go_num, by first | trivial | rfl | assumption⟩
            case measure => simp [numOf'] <;> omega
        · have h100' : ¬ (i : Int) < 100 := by omega
          go_wp2_with fail
          go_ret
          exact ⟨⟨_, rfl, fun _ => by have := HQ.out; first | exact this | (intros; omega)⟩, rfl⟩
      · obtain rfl : i = n := by omega
        go_wp2_with fail
        go_ret
        exact ⟨⟨_, rfl, fun _ => by have := HQ.out; first | exact this | (intros; omega)⟩, rfl⟩
end Go.Proofs.Tryz

namespace Go.Proofs.Tryz
open Go Go.Am Go.RowKit Go.Op
set_option maxRecDepth 100000

end Go.Proofs.Tryz

namespace Go.Proofs.Tryz
open Go Go.Am Go.RowKit Go.Op
set_option maxRecDepth 100000

end Go.Proofs.Tryz

namespace Go.Proofs.Tryz
open Go Go.Am Go.RowKit Go.Op
set_option maxRecDepth 100000

/-! ### the season's -/
end Go.Proofs.Tryz

namespace Go.Proofs.Tryz
open Go Go.Am Go.RowKit Go.Op
set_option maxRecDepth 100000

/-! ### plain -/
/-! ### the reference's -/
end Go.Proofs.Tryz

namespace Go.Proofs.Tryz
open Go Go.Am Go.RowKit Go.Op Go.Maps Go.WideMaps
set_option maxRecDepth 100000

end Go.Proofs.Tryz

namespace Go.Proofs.Tryz
open Go Go.Am Go.RowKit Go.Op
set_option maxRecDepth 100000

end Go.Proofs.Tryz
