/- On the season seat's program: StreakOf, and the reference's, answer the streak of at most twelve answers. -/
import Derived.Test.YtbfonnoebbjenaaGreatDoorAmLr
namespace Go.Proofs.Tryz
open Go Go.Am
set_option maxRecDepth 100000

theorem all12 {p : Nat → Bool} (a : (nats 10).all p = true) (b : p 10 = true) (c : p 11 = true) (d : p 12 = true) {n : Nat} (h : n ≤ 12) : p n = true := by
  by_cases h1 : n < 10
  · exact List.all_eq_true.1 a n (mem_nats.2 h1)
  · have : n = 10 ∨ n = 11 ∨ n = 12 := by omega
    rcases this with rfl | rfl | rfl <;> assumption

def pre (bits : Nat → Bool) (i : Nat) : List Bool := (List.range i).map bits

theorem pre_len (bits : Nat → Bool) (i : Nat) : (pre bits i).length = i := by simp [pre]
theorem pre_succ (bits : Nat → Bool) (i : Nat) : pre bits (i + 1) = pre bits i ++ [bits i] := by simp [pre, List.range_succ]

def compP (bits : Nat → Bool) (i : Nat) : Nat → Int
  | 0 => i
  | 1 => Stk.lead (pre bits i)
  | 2 => Stk.trail (pre bits i)
  | _ => Stk.long (pre bits i)
def compR (bits : Nat → Bool) (i : Nat) : Nat → Int
  | 0 => Stk.trail (pre bits i)
  | 1 => Stk.lead (pre bits i)
  | 2 => Stk.long (pre bits i)
  | _ => 0

def vS (bits : Nat → Bool) (m : Nat) : Int :=
  if m < 100 then (if bits m then 1 else 0) else if m < 200 then compP bits ((m - 100) / 4) ((m - 100) % 4) else if m < 300 then compR bits ((m - 200) / 4) ((m - 200) % 4) else 0

theorem vS_b (bits : Nat → Bool) {i : Nat} (h : i < 100) : vS bits i = if bits i then 1 else 0 := by simp [vS, h]
theorem vS_p (bits : Nat → Bool) {i j : Nat} (hi : i < 25) (hj : j < 4) : vS bits (100 + 4 * i + j) = compP bits i j := by
  unfold vS
  rw [if_neg (by omega), if_pos (by omega), show (100 + 4 * i + j - 100) / 4 = i by omega, show (100 + 4 * i + j - 100) % 4 = j by omega]
theorem vS_r (bits : Nat → Bool) {i j : Nat} (hi : i < 25) (hj : j < 4) : vS bits (200 + 4 * i + j) = compR bits i j := by
  unfold vS
  rw [if_neg (by omega), if_neg (by omega), if_pos (by omega), show (200 + 4 * i + j - 200) / 4 = i by omega, show (200 + 4 * i + j - 200) % 4 = j by omega]

theorem wrap_small {x : Int} (h0 : 0 ≤ x) (h1 : x ≤ 1000000) : IntKind.wrap .i64 x = x := by
  have h : IntKind.wrap .i64 x = (if (true && decide (x % (2 : Int) ^ 64 ≥ 2 ^ 63)) = true then x % (2 : Int) ^ 64 - 2 ^ 64 else x % (2 : Int) ^ 64) := rfl
  have e : x % (2 : Int) ^ 64 = x := Int.emod_eq_of_lt h0 (by omega)
  rw [h, e, if_neg]
  simp; omega

theorem lead_snoc (l : List Bool) (b : Bool) : Stk.lead (l ++ [b]) = if Stk.lead l = l.length then l.length + (if b then 1 else 0) else Stk.lead l := by
  rw [Stk.lead_append]; cases b <;> rfl
theorem trail_snoc (l : List Bool) (b : Bool) : Stk.trail (l ++ [b]) = if b then 1 + Stk.trail l else 0 := by
  rw [Stk.trail_append]; cases b <;> simp [Stk.trail, Stk.lead]
theorem long_snoc (l : List Bool) (b : Bool) : Stk.long (l ++ [b]) = max (max (Stk.long l) (if b then 1 else 0)) (Stk.trail l + if b then 1 else 0) := by
  rw [Stk.long_append]; cases b <;> simp [Stk.long, Stk.lead]
theorem trail_le_long (l : List Bool) : Stk.trail l ≤ Stk.long l := by
  have := Stk.long_append l []
  simp only [List.append_nil, Stk.long, Stk.lead] at this
  omega

def ρS (w : World) (bits : Nat → Bool) (b off : Nat) : Env := ⟨vS bits, fun _ _ => 0, fun _ => (b, off), memOf w⟩

theorem evalOnB {w : World} {bits : Nat → Bool} {b off i : Nat} (hi : i < 100) (t f : DT) : (onB i t f).eval (ρS w bits b off) = if bits i then t.eval (ρS w bits b off) else f.eval (ρS w bits b off) := by
  have : Tst.holds (ρS w bits b off) (.eq (.var i) (L 0)) = !(bits i) := by
    simp only [Tst.holds, E.val, E.vals, L, List.headD_cons, ρS, vS_b bits hi]
    cases bits i <;> rfl
  simp only [onB, DT.eval, this]
  cases bits i <;> rfl

theorem defs_ok (w : World) (bits : Nat → Bool) (b off : Nat) : ∀ m d, defS m = some d → (ρS w bits b off).v m = d.eval (ρS w bits b off) := by
  intro m d hd
  have hval : ∀ e : E, E.val (ρS w bits b off) e = ((e.vals (ρS w bits b off)).headD 0) := fun _ => rfl
  unfold defS at hd
  cases h1 : Nat.blt m 100 with
  | true => rw [h1] at hd; cases hd
  | false =>
  rw [h1] at hd
  simp only [cond_false] at hd
  have n1 : ¬ m < 100 := fun h => by
    have : Nat.blt m 100 = true := by simp [Nat.blt, Nat.ble_eq]; omega
    rw [this] at h1; cases h1
  cases h2 : Nat.blt m 200 with
  | true =>
    rw [h2] at hd
    simp only [cond_true, Option.some.injEq] at hd; subst hd
    have n2 : m < 200 := by simpa [Nat.blt, Nat.ble_eq, Nat.succ_le_iff] using h2
    obtain ⟨i, j, hj, hi, rfl⟩ : ∃ i j, j < 4 ∧ i < 25 ∧ m = 100 + 4 * i + j := ⟨(m - 100) / 4, (m - 100) % 4, by omega, by omega, by omega⟩
    rw [show (100 + 4 * i + j - 100) / 4 = i by omega, show (100 + 4 * i + j - 100) % 4 = j by omega]
    show vS bits (100 + 4 * i + j) = _
    rw [vS_p bits hi hj]
    cases i with
    | zero =>
      have : compP bits 0 j = 0 := by
        have hj' : j = 0 ∨ j = 1 ∨ j = 2 ∨ j = 3 := by omega
        rcases hj' with rfl | rfl | rfl | rfl <;> rfl
      rw [this]; rfl
    | succ i =>
      have hi' : i < 25 := by omega
      have v0 : (ρS w bits b off).v (100 + 4 * i + 0) = i := vS_p bits hi' (by omega)
      have v1 : (ρS w bits b off).v (100 + 4 * i + 1) = Stk.lead (pre bits i) := vS_p bits hi' (by omega)
      have v2 : (ρS w bits b off).v (100 + 4 * i + 2) = Stk.trail (pre bits i) := vS_p bits hi' (by omega)
      have v3 : (ρS w bits b off).v (100 + 4 * i + 3) = Stk.long (pre bits i) := vS_p bits hi' (by omega)
      have l1 := Stk.lead_le (pre bits i)
      have l2 := Stk.trail_le (pre bits i)
      have l3 := Stk.long_le (pre bits i)
      rw [pre_len] at l1 l2 l3
      have hj' : j = 0 ∨ j = 1 ∨ j = 2 ∨ j = 3 := by omega
      rcases hj' with rfl | rfl | rfl | rfl
      · simp only [defP, DT.eval, hval, pE, pV, L, E.vals, List.headD_cons, v0, compP]
        rw [wrap_small (by omega) (by omega)]; omega
      · simp only [defP, evalOnB (show i < 100 by omega), DT.eval, Tst.holds, hval, pE, pV, L, E.vals, List.headD_cons, v0, v1, compP, pre_succ, lead_snoc, pre_len]
        by_cases he : Stk.lead (pre bits i) = i
        · simp only [he, if_true, beq_self_eq_true, cond_true]
          cases bits i
          · simp only [Bool.false_eq_true, if_false]; rw [wrap_small (by omega) (by omega)]; omega
          · simp only [if_true]; rw [wrap_small (by omega) (by omega)]; omega
        · have he' : ((Stk.lead (pre bits i) : Int) == (i : Int)) = false := by simp; omega
          simp only [if_neg he, he', cond_false, ite_self]
      · simp only [defP, evalOnB (show i < 100 by omega), DT.eval, hval, pE, pV, L, E.vals, List.headD_cons, v2, compP, pre_succ, trail_snoc]
        cases bits i
        · rfl
        · simp only [if_true]; rw [wrap_small (by omega) (by omega)]; omega
      · simp only [defP, evalOnB (show i < 100 by omega), DT.eval, hval, pE, pV, L, E.vals, List.headD_cons, v2, v3, compP, pre_succ, long_snoc]
        cases bits i
        · simp only [Bool.false_eq_true, if_false]; rw [wrap_small (by omega) (by omega)]; split <;> split <;> omega
        · simp only [if_true]; rw [wrap_small (by omega) (by omega)]; split <;> split <;> omega
  | false =>
  rw [h2] at hd
  simp only [cond_false] at hd
  have n2 : ¬ m < 200 := fun h => by
    have : Nat.blt m 200 = true := by simp [Nat.blt, Nat.ble_eq]; omega
    rw [this] at h2; cases h2
  cases h3 : Nat.blt m 300 with
  | false => rw [h3] at hd; cases hd
  | true =>
    rw [h3] at hd
    simp only [cond_true, Option.some.injEq] at hd; subst hd
    have n3 : m < 300 := by simpa [Nat.blt, Nat.ble_eq, Nat.succ_le_iff] using h3
    obtain ⟨i, j, hj, hi, rfl⟩ : ∃ i j, j < 4 ∧ i < 25 ∧ m = 200 + 4 * i + j := ⟨(m - 200) / 4, (m - 200) % 4, by omega, by omega, by omega⟩
    rw [show (200 + 4 * i + j - 200) / 4 = i by omega, show (200 + 4 * i + j - 200) % 4 = j by omega]
    show vS bits (200 + 4 * i + j) = _
    rw [vS_r bits hi hj]
    cases i with
    | zero =>
      have : compR bits 0 j = 0 := by
        have hj' : j = 0 ∨ j = 1 ∨ j = 2 ∨ j = 3 := by omega
        rcases hj' with rfl | rfl | rfl | rfl <;> rfl
      rw [this]; rfl
    | succ i =>
      have hi' : i < 25 := by omega
      have v0 : (ρS w bits b off).v (200 + 4 * i + 0) = Stk.trail (pre bits i) := vS_r bits hi' (by omega)
      have v1 : (ρS w bits b off).v (200 + 4 * i + 1) = Stk.lead (pre bits i) := vS_r bits hi' (by omega)
      have v2 : (ρS w bits b off).v (200 + 4 * i + 2) = Stk.long (pre bits i) := vS_r bits hi' (by omega)
      have l1 := Stk.lead_le (pre bits i)
      have l2 := Stk.trail_le (pre bits i)
      have l3 := Stk.long_le (pre bits i)
      have l4 := trail_le_long (pre bits i)
      have l5 := Stk.trail_all (l := pre bits i)
      rw [pre_len] at l1 l2 l3 l5
      have hj' : j = 0 ∨ j = 1 ∨ j = 2 ∨ j = 3 := by omega
      rcases hj' with rfl | rfl | rfl | rfl
      · simp only [defR, evalOnB (show i < 100 by omega), DT.eval, hval, pE, rV, L, E.vals, List.headD_cons, v0, compR, pre_succ, trail_snoc]
        cases bits i
        · rfl
        · simp only [if_true]; rw [wrap_small (by omega) (by omega)]; omega
      · simp only [defR, evalOnB (show i < 100 by omega), DT.eval, Tst.holds, hval, pE, rV, L, E.vals, List.headD_cons, v0, v1, compR, pre_succ, lead_snoc, pre_len]
        cases bits i
        · simp only [Bool.false_eq_true, if_false]; split <;> omega
        · simp only [if_true]
          rw [wrap_small (by omega) (by omega)]
          by_cases he : Stk.lead (pre bits i) = i
          · have ht := l5.2 he
            rw [if_pos he, ht]
            simp
          · have ht : Stk.trail (pre bits i) ≠ i := fun h => he (l5.1 h)
            have he' : ((Stk.trail (pre bits i) : Int) + 1 == (i : Int) + 1) = false := by simp; omega
            rw [if_neg he, he']; rfl
      · simp only [defR, evalOnB (show i < 100 by omega), DT.eval, hval, pE, rV, L, E.vals, List.headD_cons, v0, v2, compR, pre_succ, long_snoc]
        cases bits i
        · simp only [Bool.false_eq_true, if_false]; split <;> omega
        · simp only [if_true]; rw [wrap_small (by omega) (by omega)]; split <;> omega
      · rfl

/-- The streak of answers, as a value. -/
def strkV (l : List Bool) : Value := .agg #[.int .i64 l.length, .int .i64 (Stk.lead l), .int .i64 (Stk.trail l), .int .i64 (Stk.long l)]

theorem invS {w : World} (h : Laid w) {bits : Nat → Bool} {n b off : Nat} (hn : n ≤ 12) (hc : ∀ j, j < n → w.cell? ⟨b, off + j, none⟩ = some (.bool (bits j))) : Inv (cxS n) w.heap.size ⟨fun _ => none, ρS w bits b off⟩ ⟨.nil, 0⟩ w := by
  refine inv0 (ρS w bits b off) rfl rfl (defs_ok w bits b off) h fun k l hk j c hj => ?_
  unfold rowS at hk
  cases hb : Nat.beq k 0 with
  | false => rw [hb] at hk; cases hk
  | true =>
    rw [hb] at hk
    simp only [cond_true, Option.some.injEq] at hk; subst hk
    have hlt : j < n := by have := (List.getElem?_eq_some_iff.1 hj).1; simpa [bitsC] using this
    have hcj : c = .sb (.var j) := by
      simp only [bitsC, List.getElem?_map, List.getElem?_range hlt, Option.map_some, Option.some.injEq] at hj
      exact hj.symm
    subst hcj
    refine ⟨_, hc j hlt, ?_, rfl⟩
    show Value.bool _ = Value.bool _
    congr 1
    show bits j = decide (E.val (ρS w bits b off) (.var j) ≠ 0)
    simp only [E.val, E.vals, List.headD_cons, ρS, vS_b bits (show j < 100 by omega)]
    cases bits j <;> rfl

theorem arg_row {w : World} {bits : Nat → Bool} {n b off c : Nat} (hc : n ≤ c) : All2 (VRel ⟨fun _ => none, ρS w bits b off⟩) [.a (.c (.osl 0 0 n))] [.slice (some ⟨b, off, none⟩) n c] :=
  ⟨⟨c, hc, rfl⟩, trivial⟩

theorem streakOf {w : World} (h : Laid w) {bits : Nat → Bool} {n b off c : Nat} (hn : n ≤ 12) (hnc : n ≤ c) (hc : ∀ j, j < n → w.cell? ⟨b, off + j, none⟩ = some (.bool (bits j))) :
    CallRet prog 39 #[.slice (some ⟨b, off, none⟩) n c] w fun v' w' => v' = .tuple #[strkV (pre bits n), .int .i64 0] ∧ Kept w w' := by
  have hi := invS (bits := bits) h hn hc
  obtain ⟨l', h1, h2⟩ := symCallA (tl := noTails) (cx := cxS n) (l := []) (ann := annP n) (n := 100) (m := 5) (fl := 0) (args' := #[.slice (some ⟨b, off, none⟩) n c]) mixed cxWOk (primsOkG (cx' := cxS n) rfl rfl _) rfl (all12 runP_a runP_b runP_c runP_d hn) (fun p hp => nomatch hp) (Nat.le_refl _) hi (arg_row hnc)
  refine h2.mono ?_
  rintro v' w' ⟨v, st', β', q1, q2, q3⟩
  refine ⟨?_, Kept.ofNil q3⟩
  have hv := eqVv_ok q1
  subst hv
  have hβ : β'.env = ρS w bits b off := q3.ext.env
  have vp : ∀ j, j < 4 → E.val β'.env (pV n j) = compP bits n j := fun j hj => by rw [hβ]; exact vS_p bits (by omega) hj
  obtain ⟨⟨arr⟩, rfl, q5⟩ := q2
  match arr, q5 with
  | [x, y], ⟨q5, q6, _⟩ =>
    obtain ⟨⟨arr2⟩, rfl, q7, _⟩ := q5
    have hy : y = _ := q6
    match arr2, q7 with
    | [a1, a2, a3, a4], ⟨e1, e2, e3, e4, _⟩ =>
      have e1 : a1 = _ := e1
      have e2 : a2 = _ := e2
      have e3 : a3 = _ := e3
      have e4 : a4 = _ := e4
      rw [hy, e1, e2, e3, e4, vp 0 (by omega), vp 1 (by omega), vp 2 (by omega), vp 3 (by omega)]
      simp only [strkV, pre_len]; rfl

theorem refStreakOf {w : World} (h : Laid w) {bits : Nat → Bool} {n b off c : Nat} (hn : n ≤ 12) (hnc : n ≤ c) (hc : ∀ j, j < n → w.cell? ⟨b, off + j, none⟩ = some (.bool (bits j))) :
    CallRet prog 41 #[.slice (some ⟨b, off, none⟩) n c] w fun v' w' => v' = strkV (pre bits n) ∧ Kept w w' := by
  have hi := invS (bits := bits) h hn hc
  obtain ⟨l', h1, h2⟩ := symCallA (tl := noTails) (cx := cxS n) (l := []) (ann := annR n) (n := 100) (m := 5) (fl := 0) (args' := #[.slice (some ⟨b, off, none⟩) n c]) mixed cxWOk (primsOkG (cx' := cxS n) rfl rfl _) rfl (all12 runR_a runR_b runR_c runR_d hn) (fun p hp => nomatch hp) (Nat.le_refl _) hi (arg_row hnc)
  refine h2.mono ?_
  rintro v' w' ⟨v, st', β', q1, q2, q3⟩
  refine ⟨?_, Kept.ofNil q3⟩
  have hv := eqVv_ok q1
  subst hv
  have hβ : β'.env = ρS w bits b off := q3.ext.env
  have vr : ∀ j, j < 4 → E.val β'.env (rV n j) = compR bits n j := fun j hj => by rw [hβ]; exact vS_r bits (by omega) hj
  obtain ⟨⟨arr2⟩, rfl, q7, _⟩ := q2
  match arr2, q7 with
  | [a1, a2, a3, a4], ⟨e1, e2, e3, e4, _⟩ =>
    have e1 : a1 = _ := e1
    have e2 : a2 = _ := e2
    have e3 : a3 = _ := e3
    have e4 : a4 = _ := e4
    rw [e1, e2, e3, e4, vr 1 (by omega), vr 0 (by omega), vr 2 (by omega)]
    simp only [strkV, pre_len]; rfl
end Go.Proofs.Tryz
