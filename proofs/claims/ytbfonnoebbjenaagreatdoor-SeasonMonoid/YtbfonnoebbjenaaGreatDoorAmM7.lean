/- On the season seat's program: SeasonMonoid comes back with true from every input, and what was in memory is as it was. -/
import Derived.Test.YtbfonnoebbjenaaGreatDoorAmM5
import Derived.Test.YtbfonnoebbjenaaGreatDoorAmM6
namespace Go.Proofs.Tryz
open Go Go.Am
set_option maxRecDepth 100000

noncomputable def cxMb : Cx := cxW primM fnsF noDefs noRows
noncomputable def runMb : Bool := callF (withT cxMb [(.le (.var 300) (L 12), false)]) (runA cxMb noAnn 100 noTails [(.le (.var 300) (L 12), false)]) 0 7 (argsM (.slx (.var 300))) ⟨.nil, 0⟩ fun v _ => isTrueM v
theorem runMb_ok : runMb = true := by kernel_rfl

def vM (bits : Nat → Bool) (n : Nat) (c0 c1 : Int) (m : Nat) : Int :=
  if m < 300 then (if bits m then 1 else 0) else if m = 300 then n else if m < 500 then 0 else if m < 514 then Stk.upto (pre bits n) (m - 500) else if m = 600 then c0 else if m = 601 then c1 else 0
def ρM (w : World) (bits : Nat → Bool) (n b off : Nat) (c0 c1 : Int) : Env := ⟨vM bits n c0 c1, fnsF, fun _ => (b, off), memOf w⟩

section
variable {w : World} {bits : Nat → Bool} {n b off : Nat} {c0 c1 : Int}

theorem vM_bit {j : Nat} (h : j < 300) : E.val (ρM w bits n b off c0 c1) (.var j) = if bits j then 1 else 0 := by
  show vM bits n c0 c1 j = _
  simp [vM, h]
theorem vM_up {i : Nat} (h : i < 14) : E.val (ρM w bits n b off c0 c1) (.var (500 + i)) = Stk.upto (pre bits n) i := by
  show vM bits n c0 c1 (500 + i) = _
  unfold vM
  rw [if_neg (by omega), if_neg (by omega), if_neg (by omega), if_pos (by omega), show 500 + i - 500 = i by omega]

theorem pre_drop {i : Nat} (h : i < n) : (pre bits n).drop i = bits i :: (pre bits n).drop (i + 1) := by
  have hl : i < (pre bits n).length := by rw [pre_len]; exact h
  rw [List.drop_eq_getElem_cons hl]
  simp [pre]

theorem dtR_ok {i : Nat} (hi : i < 14) (hn : n ≤ 12) : ∀ (f r : Nat), f = n - i - r → i + r ≤ max n i → Stk.lead ((pre bits n).drop i) = r + Stk.lead ((pre bits n).drop (i + r)) →
    (dtR i f r).eval (ρM w bits n b off c0 c1) = (max (Stk.upto (pre bits n) i) (Stk.lead ((pre bits n).drop i)) : Nat)
  | 0, r, hf, hr, hl => by
    have hd : (pre bits n).drop (i + r) = [] := List.drop_eq_nil_of_le (by rw [pre_len]; omega)
    rw [hd] at hl
    simp only [Stk.lead] at hl
    show E.val (ρM w bits n b off c0 c1) (.max (.var (500 + i)) (L r)) = _
    have : E.val (ρM w bits n b off c0 c1) (.max (.var (500 + i)) (L r)) = if (r : Int) > E.val (ρM w bits n b off c0 c1) (.var (500 + i)) then (r : Int) else E.val (ρM w bits n b off c0 c1) (.var (500 + i)) := rfl
    rw [this, vM_up hi, hl]
    split <;> omega
  | f + 1, r, hf, hr, hl => by
    have hlt : i + r < n := by omega
    have hd := pre_drop (bits := bits) hlt
    have ht : Tst.holds (ρM w bits n b off c0 c1) (.eq (.var (i + r)) (L 0)) = !(bits (i + r)) := by
      show (E.val (ρM w bits n b off c0 c1) (.var (i + r)) == 0) = _
      rw [vM_bit (by omega)]
      cases bits (i + r) <;> rfl
    simp only [dtR, DT.eval, ht]
    cases hb : bits (i + r) with
    | false =>
      rw [hd, hb] at hl
      simp only [Stk.lead] at hl
      show E.val (ρM w bits n b off c0 c1) (.max (.var (500 + i)) (L r)) = _
      have : E.val (ρM w bits n b off c0 c1) (.max (.var (500 + i)) (L r)) = if (r : Int) > E.val (ρM w bits n b off c0 c1) (.var (500 + i)) then (r : Int) else E.val (ρM w bits n b off c0 c1) (.var (500 + i)) := rfl
      rw [this, vM_up hi, hl]
      split <;> omega
    | true =>
      rw [hd, hb] at hl
      simp only [Stk.lead] at hl
      exact dtR_ok hi hn f (r + 1) (by omega) (by omega) (by rw [hl, show i + (r + 1) = i + r + 1 by omega]; omega)

theorem defM_ok (hn : n ≤ 12) : ∀ m d, defM n m = some d → (ρM w bits n b off c0 c1).v m = d.eval (ρM w bits n b off c0 c1) := by
  intro m d hd
  unfold defM at hd
  cases h5 : Nat.beq m 500 with
  | true =>
    rw [h5] at hd
    simp only [cond_true, Option.some.injEq] at hd; subst hd
    have := Nat.eq_of_beq_eq_true h5; subst this
    rfl
  | false =>
    rw [h5] at hd
    simp only [cond_false] at hd
    cases hm : (Nat.blt 500 m && Nat.blt m 514) with
    | false => rw [hm] at hd; cases hd
    | true =>
      rw [hm] at hd
      simp only [cond_true, Option.some.injEq] at hd; subst hd
      simp only [Bool.and_eq_true] at hm
      have a1 : 500 < m := by simpa [Nat.blt, Nat.ble_eq, Nat.succ_le_iff] using hm.1
      have a2 : m < 514 := by simpa [Nat.blt, Nat.ble_eq, Nat.succ_le_iff] using hm.2
      obtain ⟨i, hi, rfl⟩ : ∃ i, i < 13 ∧ m = 501 + i := ⟨m - 501, by omega, by omega⟩
      rw [show 501 + i - 501 = i by omega, dtR_ok (by omega) hn (n - i) 0 (by omega) (by omega) (by simp)]
      have := vM_up (w := w) (bits := bits) (n := n) (b := b) (off := off) (c0 := c0) (c1 := c1) (i := i + 1) (by omega)
      rw [show 500 + (i + 1) = 501 + i by omega] at this
      exact this

theorem bits_es (hn : n ≤ 12) : bitsOf ((esM n).map fun e => e.val (ρM w bits n b off c0 c1)) = pre bits n := by
  simp only [bitsOf, esM, pre, List.map_map]
  apply List.map_congr_left
  intro j hj
  have hj' : j < n := List.mem_range.1 hj
  show decide (E.val (ρM w bits n b off c0 c1) (.var j) ≠ 0) = bits j
  simp only [vM_bit (w := w) (bits := bits) (n := n) (b := b) (off := off) (c0 := c0) (c1 := c1) (show j < 300 by omega)]
  cases bits j <;> rfl

theorem factsT_ok (hn : n ≤ 12) : AsgOk (ρM w bits n b off c0 c1) (factsT n) := by
  have hb := bits_es (w := w) (bits := bits) (n := n) (b := b) (off := off) (c0 := c0) (c1 := c1) hn
  have ap : ∀ j es, E.val (ρM w bits n b off c0 c1) (appE j es) = fnsF j (es.map fun e => e.val (ρM w bits n b off c0 c1)) := fun j es => app_val rfl j es
  have hr : bitsOf ((esM n).reverse.map fun e => e.val (ρM w bits n b off c0 c1)) = (pre bits n).reverse := by rw [← hb]; simp [bitsOf]
  have hm : bitsOf ((esM n ++ [L 1]).map fun e => e.val (ρM w bits n b off c0 c1)) = pre bits n ++ [true] := by
    rw [← hb]; simp only [bitsOf, List.map_append, List.map_cons, List.map_nil]; rfl
  have l0 := pre_len bits n
  have l1 := Stk.trail_le (pre bits n)
  have l2 := Stk.long_le (pre bits n)
  have w1 : IntKind.wrap .i64 ((Stk.trail (pre bits n) : Int) + 1) = Stk.trail (pre bits n) + 1 := wrap_mid (by omega) (by omega)
  intro p hp
  simp only [factsT, List.mem_cons, List.not_mem_nil, or_false] at hp
  rcases hp with rfl | rfl | rfl | rfl | rfl | rfl | rfl | rfl | rfl
  · show (E.val _ _ == E.val _ _) = true
    rw [ap, ap]; simp only [fnsF, hr, hb]; simp
  · show (E.val _ _ == E.val _ _) = true
    rw [ap, ap]; simp only [fnsF, hr, hb, Stk.lead_reverse]; simp
  · show (E.val _ _ == E.val _ _) = true
    rw [ap, ap]; simp only [fnsF, hr, hb, Stk.trail_reverse]; simp
  · show (E.val _ _ == E.val _ _) = true
    rw [ap, ap]; simp only [fnsF, hr, hb, Stk.long_reverse]; simp
  · show (E.val _ _ == ((n : Int) + 1)) = true
    rw [ap]; simp only [fnsF, hm]; simp [l0]
  · show (E.val _ _ == IntKind.wrap .i64 (E.val _ (appE 2 (esM n)) + 1)) = true
    rw [ap, ap]; simp only [fnsF, hm, hb, w1, trail_snoc]; simp; omega
  · show (E.val _ _ == if IntKind.wrap .i64 (E.val _ (appE 2 (esM n)) + 1) > E.val _ (appE 3 (esM n)) then IntKind.wrap .i64 (E.val _ (appE 2 (esM n)) + 1) else E.val _ (appE 3 (esM n))) = true
    rw [ap, ap, ap]; simp only [fnsF, hm, hb, w1, long_snoc]
    simp only [if_true, beq_iff_eq]
    have := trail_le_long (pre bits n)
    split <;> omega
  · show (E.val _ (.app 20 (consE [appE 0 (esM n), appE 1 (esM n), appE 2 (esM n), appE 3 (esM n)])) == 0) = true
    rw [app_val rfl]
    simp only [List.map_cons, List.map_nil, ap, fnsF, hb, List.getD_cons_zero, List.getD_cons_succ]
    rw [check_streak _ (by omega)]; rfl
  · show (E.val _ _ == E.val _ (.var (500 + n))) = true
    rw [ap, vM_up (by omega)]
    simp only [fnsF, hb]
    have := Stk.upto_all (pre bits n)
    rw [l0] at this
    rw [this]; simp

theorem asgM_ok (hn : n ≤ 12) {i m : Nat} (h0 : 0 ≤ c0 ∧ c0 ≤ 255) (h1 : 0 ≤ c1 ∧ c1 ≤ 255) (hi : (i : Int) = c0 % (n + 1)) (hm : (m : Int) = c1 % ((n : Int) + 1 - i)) : AsgOk (ρM w bits n b off c0 c1) (asgM n i m) := by
  intro p hp
  rcases List.mem_cons.1 hp with rfl | hp
  · show ((IntKind.wrap .i64 c0).tmod ((n : Int) + 1) == (i : Int)) = true
    rw [wrap_mid (by omega) (by omega), Int.tmod_eq_emod_of_nonneg h0.1, hi]; simp
  · rcases List.mem_cons.1 hp with rfl | hp
    · show ((IntKind.wrap .i64 c1).tmod ((n : Int) + 1 - (i : Int)) == (m : Int)) = true
      rw [wrap_mid (by omega) (by omega), Int.tmod_eq_emod_of_nonneg h1.1, hm]; simp
    · exact factsT_ok hn p hp

theorem monoid_call {d : Nat → Option DT} {o : Nat → Option (List C)} {x : C} {ann : Ann} {tl : Tails} {asg : Asg} (hk : callF (withT (cxW primM fnsF d o) asg) (runA (cxW primM fnsF d o) ann 100 tl asg) 0 7 (argsM x) ⟨.nil, 0⟩ (fun v _ => isTrueM v) = true) (h : Laid w)
    (hd : ∀ m x, d m = some x → (ρM w bits n b off c0 c1).v m = x.eval (ρM w bits n b off c0 c1))
    (ho : ∀ k l, o k = some l → ∀ j c, l[j]? = some c → ∃ v, w.cell? ⟨b, off + j, none⟩ = some v ∧ CRel ⟨fun _ => none, ρM w bits n b off c0 c1⟩ c v ∧ scal v = true)
    (hasg : AsgOk (ρM w bits n b off c0 c1) asg) {l : Value} (hx : CRel ⟨fun _ => none, ρM w bits n b off c0 c1⟩ x l) :
    CallRet prog 7 #[l, .agg #[.int .u8 c0, .int .u8 c1]] w fun v' w' => v' = .bool true ∧ Kept w w' := by
  have hi : Inv (cxW primM fnsF d o) w.heap.size ⟨fun _ => none, ρM w bits n b off c0 c1⟩ ⟨.nil, 0⟩ w := inv0 _ rfl rfl hd h ho
  obtain ⟨l', h1, h2⟩ := symCallA (tl := tl) (cx := cxW primM fnsF d o) (l := asg) (q := fun _ => none) (ann := ann) (n := 100) (m := 1) (fl := 0) (K := fun _ v _ => isTrueM v) (args' := #[l, .agg #[.int .u8 c0, .int .u8 c1]]) mixed cxWOk (primsMg d o _) rfl (f := 7) (args := argsM x) (st := ⟨.nil, 0⟩)
    (show paths 1 asg (fun _ => none) (fun l => callF (withT (cxW primM fnsF d o) l) (runA (cxW primM fnsF d o) ann 100 tl l) 0 7 (argsM x) ⟨.nil, 0⟩ (fun v _ => isTrueM v)) = true from hk) hasg (Nat.le_refl _) hi
    ⟨hx, ⟨_, rfl, ⟨rfl, rfl, trivial⟩, fun x hx => by simp at hx; rcases hx with rfl | rfl <;> rfl⟩, trivial⟩
  refine h2.mono ?_
  rintro v' w' ⟨v, st', β', q1, q2, q3⟩
  refine ⟨?_, Kept.ofNil q3⟩
  unfold isTrueM at q1
  split at q1
  · exact q2
  · cases q1

theorem rows_ok {n' : Nat} (hn' : n' < 300) (hc : ∀ j, j < n' → w.cell? ⟨b, off + j, none⟩ = some (.bool (bits j))) : ∀ k l, rowS n' k = some l → ∀ j c, l[j]? = some c → ∃ v, w.cell? ⟨b, off + j, none⟩ = some v ∧ CRel ⟨fun _ => none, ρM w bits n b off c0 c1⟩ c v ∧ scal v = true := by
  intro k l hk j c hj
  unfold rowS at hk
  cases hb : Nat.beq k 0 with
  | false => rw [hb] at hk; cases hk
  | true =>
    rw [hb] at hk
    simp only [cond_true, Option.some.injEq] at hk; subst hk
    have hlt : j < n' := by have := (List.getElem?_eq_some_iff.1 hj).1; simpa [bitsC] using this
    have hcj : c = .sb (.var j) := by
      simp only [bitsC, List.getElem?_map, List.getElem?_range hlt, Option.map_some, Option.some.injEq] at hj
      exact hj.symm
    subst hcj
    refine ⟨_, hc j hlt, ?_, rfl⟩
    show Value.bool _ = Value.bool _
    congr 1
    show bits j = decide (E.val (ρM w bits n b off c0 c1) (.var j) ≠ 0)
    simp only [vM_bit (w := w) (bits := bits) (n := n) (b := b) (off := off) (c0 := c0) (c1 := c1) (show j < 300 by omega)]
    cases bits j <;> rfl
end

theorem monoid_law {w : World} (h : Laid w) (bits : Nat → Bool) (a : Option Addr) (n c : Nat) (hnc : n ≤ c) (ha : a = none → n = 0 ∧ c = 0) (hc : ∀ b off spot, a = some ⟨b, off, spot⟩ → spot = none ∧ ∀ j, j < n → w.cell? ⟨b, off + j, none⟩ = some (.bool (bits j))) (c0 c1 : Int) (h0 : 0 ≤ c0 ∧ c0 ≤ 255) (h1 : 0 ≤ c1 ∧ c1 ≤ 255) :
    CallRet prog 7 #[.slice a n c, .agg #[.int .u8 c0, .int .u8 c1]] w fun v' w' => v' = .bool true ∧ Kept w w' := by
  by_cases hn : n ≤ 12
  · have e0 : 0 ≤ c0 % ((n : Int) + 1) := Int.emod_nonneg _ (by omega)
    have e1 : c0 % ((n : Int) + 1) < (n : Int) + 1 := Int.emod_lt_of_pos _ (by omega)
    obtain ⟨i, hi⟩ : ∃ i : Nat, (i : Int) = c0 % ((n : Int) + 1) := ⟨(c0 % ((n : Int) + 1)).toNat, by omega⟩
    have hin : i ≤ n := by omega
    have e2 : 0 ≤ c1 % ((n : Int) + 1 - i) := Int.emod_nonneg _ (by omega)
    have e3 : c1 % ((n : Int) + 1 - i) < (n : Int) + 1 - i := Int.emod_lt_of_pos _ (by omega)
    obtain ⟨m, hm⟩ : ∃ m : Nat, (m : Int) = c1 % ((n : Int) + 1 - i) := ⟨(c1 % ((n : Int) + 1 - i)).toNat, by omega⟩
    cases a with
    | none =>
      obtain ⟨rfl, rfl⟩ := ha rfl
      obtain rfl : i = 0 := by omega
      obtain rfl : m = 0 := by omega
      exact monoid_call (n := 0) (b := 0) (off := 0) (bits := bits) (d := defM 0) (o := rowS 0) m_nil h (defM_ok (by omega)) (rows_ok (by omega) (fun j hj => by omega)) (asgM_ok (by omega) h0 h1 hi hm) rfl
    | some a =>
      obtain ⟨b, off, spot⟩ := a
      obtain ⟨hs, hcell⟩ := hc b off spot rfl
      subst hs
      exact monoid_call (n := n) (b := b) (off := off) (bits := bits) (d := defM n) (o := rowS n) (runM_all hn hin (by omega)) h (defM_ok hn) (rows_ok (by omega) hcell) (asgM_ok hn h0 h1 hi hm) ⟨c, hnc, rfl⟩
  · exact monoid_call (n := n) (b := 0) (off := 0) (bits := bits) (d := noDefs) (o := noRows) runMb_ok h (fun m x hx => by cases hx) (fun k l hk => by cases hk) (fun p hp => by
      rw [List.mem_singleton.1 hp]
      show decide ((n : Int) ≤ 12) = false
      simp; omega) ⟨a, n, c, rfl, rfl⟩
end Go.Proofs.Tryz
