/- Totals compared: by the kit's walk. A region that draws its order: what is quiet in a class of worlds goes by one walk in the text's order, up to a place; what stands behind that place is walked on. Counts added, by the reference: by the kit's walk. A row of the call's own written in place. -/
import Derived.Test.YtbfonnoebbjenaaGreatDoorAxT
import Derived.Deep.QuietTactic
import Derived.Deep.Quiet
import Derived.OrdersHeld
namespace Go.Proofs.Tryz
open Go Go.Am Go.RowKit Go.Op
set_option maxRecDepth 100000

theorem eqElems_ints (D : Nat) (c d : Nat → Int) : ∀ (n i : Nat) (W : World), i + n = 12 → (eqElems (D + 1) 3 (ints 12 c).toArray (ints 12 d).toArray 1 n i).run prog W = .ok (allEq c d i n) W
  | 0, _, _, _ => rfl
  | n + 1, i, W, h => by
    have hp : ∀ (x : Int) (xs : Array Value) (o : Nat) (w : World), xs[o]? = some (.int .i64 x) → (part 3 xs o).run prog w = .ok (.int .i64 x) w := by
      intro x xs o w h
      simp [part, h]
    have x3 : prog.underlying 3 = some (.int .i64) := by kernel_rfl
    have e1 := hp (c i) (ints 12 c).toArray (i * 1) W (by simpa using ints_get (n := 12) (by omega))
    have e2 := hp (d i) (ints 12 d).toArray (i * 1) W (by simpa using ints_get (n := 12) (by omega))
    simp only [eqElems, Sem.run_bind, e1, e2, Result.andThen_ok, run_equalIn_int _ _ _ _ _ _ _ x3]
    cases hq : (c i == d i) with
    | true => simp only [Bool.not_true, Bool.false_eq_true, if_false, allEq, hq, Bool.true_and]; exact eqElems_ints D c d n (i + 1) W (by omega)
    | false => simp [allEq, hq]
theorem eq_cntsD (D : Nat) (c d : Nat → Int) (W : World) : (Op.equalIn (D + 1 + 1) 54 (.agg (ints 12 c).toArray) (.agg (ints 12 d).toArray)).run prog W = .ok (allEq c d 0 12) W := by
  obtain ⟨i0, hi, hz0, hz1, hz2⟩ := info_more (show (prog.info? 3).map (fun i => (i.zero, i.size, i.bytes)) = some (some (.int .i64 0), 1, 8) by kernel_rfl)
  rw [run_equalIn_arr (D + 1) 54 3 12 i0 _ _ underlying54 hi W, hz1]
  exact eqElems_ints D c d 12 0 W rfl
theorem eq_cnts (c d : Nat → Int) (W : World) : (Op.equalIn 9999 54 (.agg (ints 12 c).toArray) (.agg (ints 12 d).toArray)).run prog W = .ok (allEq c d 0 12) W := eq_cntsD 9997 c d W
def eqTB (x y : Tot) : Bool := (x.p == y.p) && ((x.gm == y.gm) && allEq x.c y.c 0 12)
theorem allEq_refl (c : Nat → Int) : ∀ (n i : Nat), allEq c c i n = true
  | 0, _ => rfl
  | n + 1, i => by rw [allEq, allEq_refl c n (i + 1)]; simp
theorem eqTB_refl (x : Tot) : eqTB x x = true := by simp [eqTB, allEq_refl]
theorem eq_tot56 (x y : Tot) (W : World) : (Op.equalIn 10000 56 (.agg x.arr) (.agg y.arr)).run prog W = .ok (eqTB x y) W := by
  have hS : prog.underlying 56 = some (.struct (prog.fieldsOf 56)) := by kernel_rfl
  have hp : prog.stoodInHeld 56 = false := by kernel_rfl
  have hc := eq_cnts x.c y.c
  have e1 : (ints 12 x.c).toArray = #[.int .i64 (x.c 0), .int .i64 (x.c 1), .int .i64 (x.c 2), .int .i64 (x.c 3), .int .i64 (x.c 4), .int .i64 (x.c 5), .int .i64 (x.c 6), .int .i64 (x.c 7), .int .i64 (x.c 8), .int .i64 (x.c 9), .int .i64 (x.c 10), .int .i64 (x.c 11)] := rfl
  have e2 : (ints 12 y.c).toArray = #[.int .i64 (y.c 0), .int .i64 (y.c 1), .int .i64 (y.c 2), .int .i64 (y.c 3), .int .i64 (y.c 4), .int .i64 (y.c 5), .int .i64 (y.c 6), .int .i64 (y.c 7), .int .i64 (y.c 8), .int .i64 (y.c 9), .int .i64 (y.c 10), .int .i64 (y.c 11)] := rfl
  rw [e1, e2] at hc
  rw [show (10000 : Nat) = 9999 + 1 from rfl, run_equalIn_agg W 9999 56 _ _ hS hp]
  simp only [Program.fieldsOf, underlying56]
  unfold Tot.arr eqTB
  clear e1 e2
  go_simp
  rw [bA_list, bA_list]
  by_cases h1 : x.p = y.p
  · by_cases h2 : x.gm = y.gm
    · cases hq : allEq x.c y.c 0 12 <;> simp [h1, h2]
    · simp [h1, h2]
  · simp [h1]
theorem neq_tot56 (x y : Tot) (W : World) : (binOp .neq 56 (.agg x.arr) (.agg y.arr)).run prog W = .ok (.bool (!eqTB x y)) W := by
  rw [run_neq_struct, eq_tot56]; rfl
theorem eq_tot66 (x y : Tot) (W : World) : (Op.equalIn 10000 66 (.agg x.arr) (.agg y.arr)).run prog W = .ok (eqTB x y) W := by
  have hS : prog.underlying 66 = some (.struct (prog.fieldsOf 66)) := by kernel_rfl
  have hp : prog.stoodInHeld 66 = false := by kernel_rfl
  have hc := eq_cnts x.c y.c
  have e1 : (ints 12 x.c).toArray = #[.int .i64 (x.c 0), .int .i64 (x.c 1), .int .i64 (x.c 2), .int .i64 (x.c 3), .int .i64 (x.c 4), .int .i64 (x.c 5), .int .i64 (x.c 6), .int .i64 (x.c 7), .int .i64 (x.c 8), .int .i64 (x.c 9), .int .i64 (x.c 10), .int .i64 (x.c 11)] := rfl
  have e2 : (ints 12 y.c).toArray = #[.int .i64 (y.c 0), .int .i64 (y.c 1), .int .i64 (y.c 2), .int .i64 (y.c 3), .int .i64 (y.c 4), .int .i64 (y.c 5), .int .i64 (y.c 6), .int .i64 (y.c 7), .int .i64 (y.c 8), .int .i64 (y.c 9), .int .i64 (y.c 10), .int .i64 (y.c 11)] := rfl
  rw [e1, e2] at hc
  rw [show (10000 : Nat) = 9999 + 1 from rfl, run_equalIn_agg W 9999 66 _ _ hS hp]
  simp only [Program.fieldsOf, underlying66]
  unfold Tot.arr eqTB
  clear e1 e2
  go_simp
  rw [bA_list, bA_list]
  by_cases h1 : x.p = y.p
  · by_cases h2 : x.gm = y.gm
    · cases hq : allEq x.c y.c 0 12 <;> simp [h1, h2]
    · simp [h1, h2]
  · simp [h1]
theorem neq_tot66 (x y : Tot) (W : World) : (binOp .neq 66 (.agg x.arr) (.agg y.arr)).run prog W = .ok (.bool (!eqTB x y)) W := by
  rw [run_neq_struct, eq_tot66]; rfl
theorem neq_cnts (c d : Nat → Int) (W : World) : (binOp .neq 54 (.agg #[.int .i64 (c 0), .int .i64 (c 1), .int .i64 (c 2), .int .i64 (c 3), .int .i64 (c 4), .int .i64 (c 5), .int .i64 (c 6), .int .i64 (c 7), .int .i64 (c 8), .int .i64 (c 9), .int .i64 (c 10), .int .i64 (c 11)]) (.agg #[.int .i64 (d 0), .int .i64 (d 1), .int .i64 (d 2), .int .i64 (d 3), .int .i64 (d 4), .int .i64 (d 5), .int .i64 (d 6), .int .i64 (d 7), .int .i64 (d 8), .int .i64 (d 9), .int .i64 (d 10), .int .i64 (d 11)])).run prog W = .ok (.bool (!allEq c d 0 12)) W := by
  have h := eq_cntsD 9998 c d W
  have e1 : (ints 12 c).toArray = #[.int .i64 (c 0), .int .i64 (c 1), .int .i64 (c 2), .int .i64 (c 3), .int .i64 (c 4), .int .i64 (c 5), .int .i64 (c 6), .int .i64 (c 7), .int .i64 (c 8), .int .i64 (c 9), .int .i64 (c 10), .int .i64 (c 11)] := rfl
  have e2 : (ints 12 d).toArray = #[.int .i64 (d 0), .int .i64 (d 1), .int .i64 (d 2), .int .i64 (d 3), .int .i64 (d 4), .int .i64 (d 5), .int .i64 (d 6), .int .i64 (d 7), .int .i64 (d 8), .int .i64 (d 9), .int .i64 (d 10), .int .i64 (d 11)] := rfl
  rw [e1, e2] at h
  rw [run_neq_struct, show (10000 : Nat) = 9998 + 1 + 1 from rfl, h]
  rfl

set_option maxHeartbeats 3200000 in
theorem sameTots_w {w : World} {u v : Value} {l : List Tot} (hu : IsTots w u l) (hv : IsTots w v l) (hl : l.length ≤ 10000) : Calls prog 26 #[u, v] w fun e w' => e = .returned (.bool true) ∧ Below w.heap.size w w' := by
  have hu0 := hu
  have hv0 := hv
  obtain ⟨a1, c1, rfl, -⟩ := hu0.slice
  obtain ⟨a2, c2, rfl, -⟩ := hv0.slice
  obtain ⟨n, hln⟩ : ∃ n, l.length = n := ⟨_, rfl⟩
  have HL := Lib.hid hln
  rw [hln] at hl ⊢
  clear hu0 hv0 hln
  go_enter func26, ntmps26
  go_wp2_with fail
  go_loopw [5] (fun s wr => ∃ i : Nat, i ≤ n ∧ s = .int .i64 i ∧ Below w.heap.size w wr) (fun s _ => n - (numOf' s).toNat)
  case atStart => exact ⟨0, Nat.zero_le _, rfl, Below.refl _ _⟩
  case round =>
    obtain ⟨i, hi, rfl, hb⟩ := hrel
    by_cases hin : i < n
    · obtain ⟨t, ht⟩ : ∃ t, l[i]? = some t := ⟨_, List.getElem?_eq_getElem (by rw [HL.out]; exact hin)⟩
      obtain ⟨b1, o1, k1, e1, -, p0, p1, pc⟩ := (hu.below hb).at ht
      obtain ⟨b2, o2, k2, e2, -, q0, q1, qc⟩ := (hv.below hb).at ht
      simp only [HL.out, Value.slice.injEq, true_and] at e1 e2
      obtain ⟨rfl, rfl⟩ := e1
      obtain ⟨rfl, rfl⟩ := e2
      have hc0 := pc 0 (by omega)
      have hc1 := pc 1 (by omega)
      have hc2 := pc 2 (by omega)
      have hc3 := pc 3 (by omega)
      have hc4 := pc 4 (by omega)
      have hc5 := pc 5 (by omega)
      have hc6 := pc 6 (by omega)
      have hc7 := pc 7 (by omega)
      have hc8 := pc 8 (by omega)
      have hc9 := pc 9 (by omega)
      have hc10 := pc 10 (by omega)
      have hc11 := pc 11 (by omega)
      have hd0 := qc 0 (by omega)
      have hd1 := qc 1 (by omega)
      have hd2 := qc 2 (by omega)
      have hd3 := qc 3 (by omega)
      have hd4 := qc 4 (by omega)
      have hd5 := qc 5 (by omega)
      have hd6 := qc 6 (by omega)
      have hd7 := qc 7 (by omega)
      have hd8 := qc 8 (by omega)
      have hd9 := qc 9 (by omega)
      have hd10 := qc 10 (by omega)
      have hd11 := qc 11 (by omega)
      simp only [Nat.reduceAdd] at hc0 hc1 hc2 hc3 hc4 hc5 hc6 hc7 hc8 hc9 hc10 hc11 hd0 hd1 hd2 hd3 hd4 hd5 hd6 hd7 hd8 hd9 hd10 hd11
      have hii : (i : Int) < (n : Int) := by omega
      have hne := neq_tot56 t t
      rw [eqTB_refl, Bool.not_true] at hne
      unfold Tot.arr at hne
      clear pc qc ht
      go_wp2_with fail
      go_quiet (fail)
      have hbn := belowN hb nq
      clear p0 p1 q0 q1 hc0 hc1 hc2 hc3 hc4 hc5 hc6 hc7 hc8 hc9 hc10 hc11 hd0 hd1 hd2 hd3 hd4 hd5 hd6 hd7 hd8 hd9 hd10 hd11 hne
      all_goals go_wp2_with fail
      go_roundw
      case rel => exact ⟨i + 1, by omega, by go_num, hbn⟩
      case measure => simp [numOf'] <;> omega
    · obtain rfl : i = n := by omega
      clear hu hv
      go_wp2_with fail
      go_ret
      exact ⟨rfl, hb⟩
end Go.Proofs.Tryz

namespace Go.Proofs.Tryz
open Go

section
variable {P : Program} {ops : Array Oper} {md : Region.Mode} {C : World → Prop} {m : Nat}

/-- The operations below m come up in whatever order, till all have. -/
def wpTo (P : Program) (md : Region.Mode) (ops : Array Oper) (C : World → Prop) (m : Nat) (Q : Act → Prop) : Nat → Array Bool → Act → Prop
  | 0, listed, a => (∀ k, k < m → listed.getD k true = true) ∧ Q a
  | n + 1, listed, a => (∃ k, k ∈ Region.ready md ops listed ∧ k < m) ∧ ∀ i ∈ Region.ready md ops listed, i < m → qOp P ops C i (wpTo P md ops C m Q n (listed.setIfInBounds i true)) a

/-- What is listed has what it waits for listed; nothing from m on is listed. -/
def Closed (md : Region.Mode) (ops : Array Oper) (m : Nat) (listed : Array Bool) : Prop :=
  listed.size = ops.size ∧ (∀ j o, j < m → ops[j]? = some o → listed.getD j true = true → ∀ e ∈ o.after, Region.binds md e = true → listed.getD e.on false = true) ∧
  ∀ j, m ≤ j → j < ops.size → listed.getD j true = false

theorem gd_false {listed : Array Bool} {i : Nat} (h : listed.getD i true = false) (h2 : listed.getD i false = true) : False := by
  rcases Nat.lt_or_ge i listed.size with h' | h'
  · simp [h'] at h h2; rw [h] at h2; cases h2
  · simp [Array.getElem?_eq_none h'] at h2

theorem Closed.step {listed : Array Bool} {i : Nat} (h : Closed md ops m listed) (hi : i ∈ Region.ready md ops listed) (him : i < m) : Closed md ops m (listed.setIfInBounds i true) := by
  obtain ⟨h1, h2, h3⟩ := h
  refine ⟨by simp [h1], fun j o hjm ho hl e he hb => ?_, fun j hj hjs => ?_⟩
  · by_cases hij : i = j
    · subst hij
      obtain ⟨-, o', ho', hall⟩ := mem_ready.1 hi
      rw [ho] at ho'
      obtain rfl := Option.some.inj ho'
      exact getD_set_true (hall e he hb)
    · rw [getD_set_ne true hij] at hl
      exact getD_set_true (h2 j o hjm ho hl e he hb)
  · rw [getD_set_ne true (by omega)]; exact h3 j hj hjs

/-- Each operation below m is waited for by one behind it, m at the last; each behind m waits for one from m on. -/
def laidTo (md : Region.Mode) (ops : Array Oper) (m : Nat) : Bool :=
  ((List.range m).all fun i => (List.range (m + 1)).any fun k => decide (i < k) && match ops[k]? with
    | some o => o.after.any fun e => Region.binds md e && e.on == i
    | none => false) &&
  ((List.range ops.size).all fun j => decide (j ≤ m) || match ops[j]? with
    | some o => o.after.any fun e => Region.binds md e && decide (m ≤ e.on) && decide (e.on < ops.size)
    | none => false)

theorem not_yet {listed : Array Bool} (hl : laidTo md ops m = true) (hc : Closed md ops m listed) {i : Nat} (him : i < m) (hun : listed.getD i true = false) : ∀ j ∈ Region.ready md ops listed, j < m := by
  simp only [laidTo, Bool.and_eq_true, List.all_eq_true, List.mem_range, List.any_eq_true, Bool.or_eq_true, decide_eq_true_eq] at hl
  obtain ⟨hd, hu⟩ := hl
  have key : ∀ (n i : Nat), m - i ≤ n → i < m → listed.getD i true = false → ∃ o, ops[m]? = some o ∧ ∃ e ∈ o.after, Region.binds md e = true ∧ listed.getD e.on true = false := by
    intro n
    induction n with
    | zero => intro i h1 h2; omega
    | succ n ih =>
      intro i h1 h2 h3
      obtain ⟨k, hk1, hik, hk⟩ := hd i h2
      cases ho : ops[k]? with
      | none => rw [ho] at hk; cases hk
      | some o =>
        rw [ho] at hk
        obtain ⟨e, he, hb⟩ := Array.any_eq_true'.1 hk
        simp only [Bool.and_eq_true, beq_iff_eq] at hb
        by_cases hkm : k = m
        · subst hkm
          exact ⟨o, ho, e, he, hb.1, by rw [hb.2]; exact h3⟩
        · refine ih k (by omega) (by omega) ?_
          cases hx : listed.getD k true with
          | false => rfl
          | true =>
            have := hc.2.1 k o (by omega) ho hx e he hb.1
            rw [hb.2] at this
            exact (gd_false h3 this).elim
  intro j hj
  rcases Nat.lt_or_ge j m with h | h
  · exact h
  · exfalso
    obtain ⟨-, o, ho, hall⟩ := mem_ready.1 hj
    by_cases hjm : j = m
    · subst hjm
      obtain ⟨o', ho', e, he, hb, hx⟩ := key _ i (Nat.le_refl _) him hun
      rw [ho] at ho'
      obtain rfl := Option.some.inj ho'
      exact gd_false hx (hall e he hb)
    · have hjs : j < ops.size := (Array.getElem?_eq_some_iff.1 ho).1
      rcases hu j hjs with h1 | h1
      · omega
      · rw [ho] at h1
        obtain ⟨e, he, hb⟩ := Array.any_eq_true'.1 h1
        simp only [Bool.and_eq_true, decide_eq_true_eq] at hb
        exact gd_false (hc.2.2 e.on hb.1.2 hb.2) (hall e he hb.1.1)

theorem wpTo_first {Q : Act → Prop} {i : Nat} {oi : Oper} {v : Value} (hi : ops[i]? = some oi) (him : i < m) (hsel : ∀ (j : Nat) (o : Oper) cs b, ops[j]? = some o → o.op ≠ .select cs b) :
    ∀ (n : Nat) (listed : Array Bool) (a : Act),
      (∀ j oj, ops[j]? = some oj → j ≠ i → listed.getD j true = false → (∀ e ∈ oj.after, Region.binds md e = true → e.on ≠ i) → oi.apart ops oj = true) →
      i ∈ Region.ready md ops listed → YieldsIn P ops C oi v a →
      wpTo P md ops C m Q n (listed.setIfInBounds i true) (a.put oi.dst v) → wpTo P md ops C m Q (n + 1) listed a := by
  intro n
  induction n with
  | zero =>
    intro listed a _ hr hy H
    refine ⟨⟨i, hr, him⟩, fun j hj hjm => ?_⟩
    by_cases hji : j = i
    · subst hji; exact hy.qOp hi H
    · exfalso
      have := H.1 j hjm
      rw [getD_set_ne true (Ne.symm hji)] at this
      rw [(mem_ready.1 hj).1] at this
      cases this
  | succ n ih =>
    intro listed a hfree hr hy H
    refine ⟨⟨i, hr, him⟩, fun j hj hjm => ?_⟩
    by_cases hji : j = i
    · subst hji; exact hy.qOp hi H
    · have h1 := H.2 j (ready_mono hj hji) hjm
      obtain ⟨hjun, oj, hoj, hall⟩ := mem_ready.1 hj
      have hnot : ∀ e ∈ oj.after, Region.binds md e = true → e.on ≠ i := fun e he hb heq => by
        have h1 := hall e he hb
        rw [heq] at h1
        exact gd_false (mem_ready.1 hr).1 h1
      have h2 := qOp_put hoj (hfree j oj hoj hji hjun hnot) (fun cs b => hsel i oi cs b hi) (fun cs b => hsel j oj cs b hoj) hy h1
      have hfree' : ∀ k ok, ops[k]? = some ok → k ≠ i → (listed.setIfInBounds j true).getD k true = false →
          (∀ e ∈ ok.after, Region.binds md e = true → e.on ≠ i) → oi.apart ops ok = true := fun k ok hk hki hun hno => by
        refine hfree k ok hk hki ?_ hno
        by_cases hjk : j = k
        · subst hjk; exact hjun
        · rw [getD_set_ne true hjk] at hun; exact hun
      refine qOp_mono (fun a' h3 => ih (listed.setIfInBounds j true) a' hfree' (ready_mono hr (Ne.symm hji)) h3.1 ?_) h2
      rw [Array.setIfInBounds_comm _ _ hji]
      exact h3.2

def lexTo (md : Region.Mode) (ops : Array Oper) (m : Nat) : Nat → Nat → Array Bool → Bool
  | 0, _, listed => (List.range m).all fun k => listed.getD k true
  | n + 1, k, listed => (Region.ready md ops listed).contains k && Region.free md ops listed k && lexTo md ops m n (k + 1) (listed.setIfInBounds k true)

theorem wpTo_lex {Q : Act → Prop} (hs : Region.noSelect ops = true) : ∀ (l : List Oper) (k : Nat) (listed : Array Bool) (a : Act), (∀ j, j < l.length → l[j]? = ops[k + j]?) → k + l.length = m →
    lexTo md ops m l.length k listed = true → wpQuiet P ops C Q l a → wpTo P md ops C m Q l.length listed a
  | [], _, _, _, _, _, hB, h => ⟨by simpa only [List.length_nil, lexTo, List.all_eq_true, List.mem_range] using hB, h⟩
  | o :: l, k, listed, a, hl, hk, hB, h => by
    have h0 : ops[k]? = some o := by simpa using (hl 0 (by simp)).symm
    simp only [List.length_cons, lexTo, Bool.and_eq_true] at hB
    obtain ⟨⟨hr, hf⟩, hB'⟩ := hB
    have hst : qOp P ops C k (wpQuiet P ops C Q l) a := by unfold qOp; simp only [h0]; exact h
    obtain ⟨v, hy, hK⟩ := yieldsIn_of_qOp h0 hst
    have hkm : k < m := by simp only [List.length_cons] at hk; omega
    exact wpTo_first h0 hkm (Region.noSelect_spec hs) l.length listed a (Region.free_spec h0 hf) (by simpa using hr) hy
      (wpTo_lex hs l (k + 1) _ _ (fun j hj => by have := hl (j + 1) (by simp only [List.length_cons]; omega); simpa [Nat.add_assoc, Nat.add_comm 1 j] using this) (by simp only [List.length_cons] at hk; omega) hB' hK)

theorem wpAny_of_to {Qm : Act → Prop} {Q : Exit → Act → World → Prop} {f : Nat} {target : Array Bool} (hl : laidTo md ops m = true) (ht1 : target.size = ops.size) (ht2 : ∀ k, k < m → target.getD k true = true)
    (ht3 : ∀ j, m ≤ j → j < ops.size → target.getD j true = false) (hQ : ∀ a w, C w → Qm a → wpAny P md ops Q f target a w) : ∀ (n : Nat) (listed : Array Bool) (a : Act) (w : World), Closed md ops m listed → C w →
    wpTo P md ops C m Qm n listed a → wpAny P md ops Q (n + f) listed a w
  | 0, listed, a, w, hc, hw, h => by
    have e : listed = target := by
      refine Array.ext (by rw [hc.1, ht1]) fun i h1 h2 => ?_
      rcases Nat.lt_or_ge i m with h3 | h3
      · have x := h.1 i h3
        have y := ht2 i h3
        simp [h1] at x
        simp [h2] at y
        rw [x, y]
      · have x := hc.2.2 i h3 (by rw [← hc.1]; exact h1)
        have y := ht3 i h3 (by rw [← hc.1]; exact h1)
        simp [h1] at x
        simp [h2] at y
        rw [x, y]
    rw [Nat.zero_add, e]
    exact hQ a w hw h.2
  | n + 1, listed, a, w, hc, hw, h => by
    rw [Nat.add_right_comm]
    obtain ⟨⟨k, hk, hkm⟩, hstep⟩ := h
    refine ⟨fun h0 => (by rw [h0] at hk; cases hk), fun i hi => ?_⟩
    have him := not_yet hl hc hkm (mem_ready.1 hk).1 i hi
    exact wpOp_of_qOp hw (fun a' w' hw' h' => wpAny_of_to hl ht1 ht2 ht3 hQ n _ a' w' (hc.step hi him) hw' h') (hstep i hi him)

def checkTo (md : Region.Mode) (ops : Array Oper) (m n : Nat) (target : Array Bool) : Bool :=
  Region.noSelect ops && laidTo md ops m && lexTo md ops m m 0 (Array.replicate ops.size false) && decide (m + n = ops.size) && decide (target.size = ops.size) &&
  ((List.range m).all fun k => target.getD k true) && (List.range ops.size).all fun j => decide (j < m) || !target.getD j true

/-- One walk of the text's order up to the operation number m; the rest in the world at hand. -/
theorem wp_region_quiet_to {id : Nat} {Q : Exit → Act → World → Prop} {a : Act} {w : World} {l : List Oper} (m n : Nat) (target : Array Bool) (hm : P.follows .mixedOrders = true) (hB : checkTo .any l.toArray m n target = true) (hC : C w.drew)
    (h : wpQuiet P l.toArray C (fun a' => ∀ w', C w' → wpAny P .any l.toArray Q n target a' w') (l.take m) a) : (Code.region id l.toArray true).wp P Q a w := by
  simp only [checkTo, Bool.and_eq_true, decide_eq_true_eq, List.all_eq_true, List.mem_range, Bool.or_eq_true] at hB
  obtain ⟨⟨⟨⟨⟨⟨h1, h2⟩, h3⟩, h4⟩, h5⟩, h6⟩, h7⟩ := hB
  have h4' : m + n = l.length := by simpa using h4
  have hlen : (l.take m).length = m := by simp; omega
  refine wp_region_any hm ?_
  suffices hs : ∀ k, k = m + n → wpAny P .any l.toArray Q k (Array.replicate l.toArray.size false) a w.drew from hs _ h4.symm
  rintro k rfl
  have hto := wpTo_lex (C := C) (md := .any) (m := m) h1 (l.take m) 0 (Array.replicate l.toArray.size false) a (fun j hj => by rw [hlen] at hj; simp [hj]) (by rw [hlen]; omega) (by rw [hlen]; exact h3) h
  rw [hlen] at hto
  refine wpAny_of_to (Qm := fun a' => ∀ w', C w' → wpAny P .any l.toArray Q n target a' w') h2 h5 h6 (fun j hj hjs => by rcases h7 j hjs with q | q; omega; simpa using q) (fun a' w' hw' hq => hq w' hw') m _ a _ ⟨by simp, ?_, ?_⟩ hC hto
  · intro j o hjm ho hl
    have : j < l.length := by have := (Array.getElem?_eq_some_iff.1 ho).1; simpa using this
    simp [this] at hl
  · intro j hj hjs
    simp at hjs
    simp [hjs]

/-! ### the steps -/
theorem quiet_take {Q : Act → Prop} {a : Act} {o : Oper} {rest : List Oper} {v : Value} (hw : Region.wanted o (yielded ops a.tmps) = true) (hy : ∀ w, C w → (execOp a.eval o).run P w = .ok (.value v) w)
    (h : wpQuiet P ops C Q rest (a.put o.dst v)) : wpQuiet P ops C Q (o :: rest) a := by
  unfold wpQuiet
  rw [if_pos hw]
  exact ⟨v, fun w hC => by unfold Oper.quietAt; rw [hy w hC]; exact ⟨rfl, rfl⟩, h⟩
theorem quiet_skip {Q : Act → Prop} {a : Act} {o : Oper} {rest : List Oper} (hw : Region.wanted o (yielded ops a.tmps) = false) (h : wpQuiet P ops C Q rest (a.put o.dst undef)) : wpQuiet P ops C Q (o :: rest) a := by
  unfold wpQuiet
  rw [if_neg (by rw [hw]; decide)]
  exact h
theorem quiet_call {Q : Act → Prop} {a : Act} {o : Oper} {rest : List Oper} {v : Value} {f : FuncId} {args : Array Value} (hw : Region.wanted o (yielded ops a.tmps) = true) (he : ∀ w, C w → (execOp a.eval o).run P w = .ok (.enter f args) w)
    (hc : ∀ w, C w → Calls P f args w fun e w'' => e = .returned v ∧ C w'') (h : wpQuiet P ops C Q rest (a.put o.dst v)) : wpQuiet P ops C Q (o :: rest) a := by
  unfold wpQuiet
  rw [if_pos hw]
  exact ⟨v, fun w hC => by unfold Oper.quietAt; rw [he w hC]; exact ⟨rfl, hc w hC⟩, h⟩
end
end Go.Proofs.Tryz

namespace Go.Proofs.Tryz
open Go Go.Am Go.RowKit Go.Op
set_option maxRecDepth 100000

/-- A number of int's. -/
def inI (x : Int) : Prop := -9223372036854775808 ≤ x ∧ x ≤ 9223372036854775807
theorem inI_wrap {x : Int} (h : inI x) : IntKind.i64.wrap x = x ∧ wrap64 x = x := by
  obtain ⟨h1, h2⟩ := h
  have e : IntKind.i64.wrap x = x := IntWalk.i64_in _ (by omega)
  exact ⟨e, by simp only [wrap64] at *; omega⟩
theorem ints_set (f : Nat → Int) {j : Nat} (hj : j < 12) (x : Int) : (ints 12 f).toArray.setIfInBounds j (.int .i64 x) = (ints 12 fun i => if i = j then x else f i).toArray := by
  apply Array.ext'
  simp only [List.setIfInBounds_toArray, List.toList_toArray]
  apply List.ext_getElem?
  intro i
  by_cases hi : i < 12
  · rw [ints_get hi]
    by_cases h : i = j
    · subst h; rw [List.getElem?_set_self (by rw [ints_len]; exact hi)]; simp
    · rw [List.getElem?_set_ne (fun e => h e.symm), ints_get hi]; simp [h]
  · rw [List.getElem?_eq_none (by rw [List.length_set, ints_len]; omega), List.getElem?_eq_none (by rw [ints_len]; omega)]
theorem ints_congr {f g : Nat → Int} (h : ∀ i, i < 12 → f i = g i) : ints 12 f = ints 12 g := by
  unfold ints
  exact List.map_congr_left fun i hi => by rw [h i (List.mem_range.1 hi)]
theorem atc {w : World} {b : Nat} {f : Nat → Int} (h : At w b (ints 12 f).toArray 54) {j : Nat} (hj : j < 12) : w.cell? ⟨b, j, none⟩ = some (.int .i64 (f j)) ∧ w.frozen? ⟨b, j, none⟩ = false := by
  unfold At at h
  constructor
  · unfold World.cell?
    rw [h]
    simpa using ints_get hj
  · unfold World.frozen?
    rw [h]
    simp
def put12 (w : World) (b : Nat) (v0 v1 v2 v3 v4 v5 v6 v7 v8 v9 v10 v11 : Value) : World := (((((((((((w.setCell ⟨b, 0, none⟩ v0).setCell ⟨b, 1, none⟩ v1).setCell ⟨b, 2, none⟩ v2).setCell ⟨b, 3, none⟩ v3).setCell ⟨b, 4, none⟩ v4).setCell ⟨b, 5, none⟩ v5).setCell ⟨b, 6, none⟩ v6).setCell ⟨b, 7, none⟩ v7).setCell ⟨b, 8, none⟩ v8).setCell ⟨b, 9, none⟩ v9).setCell ⟨b, 10, none⟩ v10).setCell ⟨b, 11, none⟩ v11
theorem At.put12 {w : World} {b : Nat} {e : TypeId} {c0 c1 c2 c3 c4 c5 c6 c7 c8 c9 c10 c11 : Value} (h : At w b #[c0, c1, c2, c3, c4, c5, c6, c7, c8, c9, c10, c11] e) (v0 v1 v2 v3 v4 v5 v6 v7 v8 v9 v10 v11 : Value) : At (put12 w b v0 v1 v2 v3 v4 v5 v6 v7 v8 v9 v10 v11) b #[v0, v1, v2, v3, v4, v5, v6, v7, v8, v9, v10, v11] e := by
  unfold Go.Proofs.Tryz.put12
  have a1 : At _ b #[v0, c1, c2, c3, c4, c5, c6, c7, c8, c9, c10, c11] e := h.set 0 v0
  have a2 : At _ b #[v0, v1, c2, c3, c4, c5, c6, c7, c8, c9, c10, c11] e := a1.set 1 v1
  have a3 : At _ b #[v0, v1, v2, c3, c4, c5, c6, c7, c8, c9, c10, c11] e := a2.set 2 v2
  have a4 : At _ b #[v0, v1, v2, v3, c4, c5, c6, c7, c8, c9, c10, c11] e := a3.set 3 v3
  have a5 : At _ b #[v0, v1, v2, v3, v4, c5, c6, c7, c8, c9, c10, c11] e := a4.set 4 v4
  have a6 : At _ b #[v0, v1, v2, v3, v4, v5, c6, c7, c8, c9, c10, c11] e := a5.set 5 v5
  have a7 : At _ b #[v0, v1, v2, v3, v4, v5, v6, c7, c8, c9, c10, c11] e := a6.set 6 v6
  have a8 : At _ b #[v0, v1, v2, v3, v4, v5, v6, v7, c8, c9, c10, c11] e := a7.set 7 v7
  have a9 : At _ b #[v0, v1, v2, v3, v4, v5, v6, v7, v8, c9, c10, c11] e := a8.set 8 v8
  have a10 : At _ b #[v0, v1, v2, v3, v4, v5, v6, v7, v8, v9, c10, c11] e := a9.set 9 v9
  have a11 : At _ b #[v0, v1, v2, v3, v4, v5, v6, v7, v8, v9, v10, c11] e := a10.set 10 v10
  have a12 : At _ b #[v0, v1, v2, v3, v4, v5, v6, v7, v8, v9, v10, v11] e := a11.set 11 v11
  exact a12
theorem below_put12 {w W : World} {B b : Nat} (h : Below B w W) (hb : B ≤ b) (v0 v1 v2 v3 v4 v5 v6 v7 v8 v9 v10 v11 : Value) : Below B w (put12 W b v0 v1 v2 v3 v4 v5 v6 v7 v8 v9 v10 v11) := by
  unfold put12
  exact ((((((((((((h).setCell (p := ⟨b, 0, none⟩) hb _).setCell (p := ⟨b, 1, none⟩) hb _).setCell (p := ⟨b, 2, none⟩) hb _).setCell (p := ⟨b, 3, none⟩) hb _).setCell (p := ⟨b, 4, none⟩) hb _).setCell (p := ⟨b, 5, none⟩) hb _).setCell (p := ⟨b, 6, none⟩) hb _).setCell (p := ⟨b, 7, none⟩) hb _).setCell (p := ⟨b, 8, none⟩) hb _).setCell (p := ⟨b, 9, none⟩) hb _).setCell (p := ⟨b, 10, none⟩) hb _).setCell (p := ⟨b, 11, none⟩) hb _
theorem box12 {w : World} {b : Nat} {c0 c1 c2 c3 c4 c5 c6 c7 c8 c9 c10 c11 : Value} {e : TypeId} (h : At w b #[c0, c1, c2, c3, c4, c5, c6, c7, c8, c9, c10, c11] e) : (w.cell? ⟨b, 0, none⟩ = some c0 ∧ w.cell? ⟨b, 1, none⟩ = some c1 ∧ w.cell? ⟨b, 2, none⟩ = some c2 ∧ w.cell? ⟨b, 3, none⟩ = some c3 ∧ w.cell? ⟨b, 4, none⟩ = some c4 ∧ w.cell? ⟨b, 5, none⟩ = some c5 ∧ w.cell? ⟨b, 6, none⟩ = some c6 ∧ w.cell? ⟨b, 7, none⟩ = some c7 ∧ w.cell? ⟨b, 8, none⟩ = some c8 ∧ w.cell? ⟨b, 9, none⟩ = some c9 ∧ w.cell? ⟨b, 10, none⟩ = some c10 ∧ w.cell? ⟨b, 11, none⟩ = some c11) ∧ (w.frozen? ⟨b, 0, none⟩ = false ∧ w.frozen? ⟨b, 1, none⟩ = false ∧ w.frozen? ⟨b, 2, none⟩ = false ∧ w.frozen? ⟨b, 3, none⟩ = false ∧ w.frozen? ⟨b, 4, none⟩ = false ∧ w.frozen? ⟨b, 5, none⟩ = false ∧ w.frozen? ⟨b, 6, none⟩ = false ∧ w.frozen? ⟨b, 7, none⟩ = false ∧ w.frozen? ⟨b, 8, none⟩ = false ∧ w.frozen? ⟨b, 9, none⟩ = false ∧ w.frozen? ⟨b, 10, none⟩ = false ∧ w.frozen? ⟨b, 11, none⟩ = false) := by
  unfold At at h
  refine ⟨⟨?_, ?_, ?_, ?_, ?_, ?_, ?_, ?_, ?_, ?_, ?_, ?_⟩, ?_, ?_, ?_, ?_, ?_, ?_, ?_, ?_, ?_, ?_, ?_, ?_⟩ <;> simp only [World.cell?, World.frozen?, h] <;> rfl
theorem results_cell1 {fn : Func} {p : Tmp} {ty : TypeId} (h : fn.results = #[.cell p ty]) (tmps : Array Value) (P : Program) (w : World) :
    (results fn tmps).run P w = ((asAddr (tmps.getD p undef)).run P w).andThen fun a w₁ => (loadVar ty a).run P w₁ := by
  simp only [results, h]
  simp [Sem.run_bind, Result.andThen]
theorem res166 {tmps : Array Value} {W : World} {b : Nat} {c0 c1 c2 c3 c4 c5 c6 c7 c8 c9 c10 c11 : Value} (hp : tmps.getD 6 undef = .pointer (some ⟨b, 0, none⟩)) (hz : At W b #[c0, c1, c2, c3, c4, c5, c6, c7, c8, c9, c10, c11] 54) : (results f166 tmps).run prog W = .ok (.agg #[c0, c1, c2, c3, c4, c5, c6, c7, c8, c9, c10, c11]) W := by
  obtain ⟨⟨y0, y1, y2, y3, y4, y5, y6, y7, y8, y9, y10, y11⟩, -⟩ := box12 hz
  rw [results_cell1 (show f166.results = #[.cell 6 54] from rfl), hp]
  simp [go_sem, y0, y1, y2, y3, y4, y5, y6, y7, y8, y9, y10, y11]
set_option maxHeartbeats 3200000 in
theorem added_w (a b : Nat → Int) (s : Int) (hr : ∀ i, i < 12 → inI (s * b i) ∧ inI (a i + s * b i)) (w : World) :
    Calls prog 166 #[.agg #[.int .i64 (a 0), .int .i64 (a 1), .int .i64 (a 2), .int .i64 (a 3), .int .i64 (a 4), .int .i64 (a 5), .int .i64 (a 6), .int .i64 (a 7), .int .i64 (a 8), .int .i64 (a 9), .int .i64 (a 10), .int .i64 (a 11)], .agg #[.int .i64 (b 0), .int .i64 (b 1), .int .i64 (b 2), .int .i64 (b 3), .int .i64 (b 4), .int .i64 (b 5), .int .i64 (b 6), .int .i64 (b 7), .int .i64 (b 8), .int .i64 (b 9), .int .i64 (b 10), .int .i64 (b 11)], .int .i64 s] w fun e w' => e = .returned (.agg #[.int .i64 (a 0 + s * b 0), .int .i64 (a 1 + s * b 1), .int .i64 (a 2 + s * b 2), .int .i64 (a 3 + s * b 3), .int .i64 (a 4 + s * b 4), .int .i64 (a 5 + s * b 5), .int .i64 (a 6 + s * b 6), .int .i64 (a 7 + s * b 7), .int .i64 (a 8 + s * b 8), .int .i64 (a 9 + s * b 9), .int .i64 (a 10 + s * b 10), .int .i64 (a 11 + s * b 11)]) ∧ Below w.heap.size w w' := by
  have hx := at_new w (ints 12 a).toArray 54
  have hb1 : Below w.heap.size w (w.alloc (.cells (ints 12 a).toArray 54)) := (Below.refl _ _).alloc (Nat.le_refl _) _
  have hy : At ((w.alloc (.cells (ints 12 a).toArray 54)).alloc (.cells (ints 12 b).toArray 54)) (w.heap.size + 1) (ints 12 b).toArray 54 := by
    have := at_new (w.alloc (.cells (ints 12 a).toArray 54)) (ints 12 b).toArray 54
    simpa using this
  have hx := hx.alloc (.cells (ints 12 b).toArray 54)
  have hb2 := hb1.alloc hb1.size (.cells (ints 12 b).toArray 54)
  have hz : At (((w.alloc (.cells (ints 12 a).toArray 54)).alloc (.cells (ints 12 b).toArray 54)).alloc (.cells (ints 12 fun _ => 0).toArray 54)) (w.heap.size + 2) (ints 12 fun _ => 0).toArray 54 := by
    have := at_new ((w.alloc (.cells (ints 12 a).toArray 54)).alloc (.cells (ints 12 b).toArray 54)) (ints 12 fun _ => 0).toArray 54
    simpa using this
  have hx := hx.alloc (.cells (ints 12 fun _ => 0).toArray 54)
  have hy := hy.alloc (.cells (ints 12 fun _ => 0).toArray 54)
  have hb3 := hb2.alloc hb2.size (.cells (ints 12 fun _ => 0).toArray 54)
  obtain ⟨W3, hW⟩ : ∃ W3, ((w.alloc (.cells (ints 12 a).toArray 54)).alloc (.cells (ints 12 b).toArray 54)).alloc (.cells (ints 12 fun _ => 0).toArray 54) = W3 := ⟨_, rfl⟩
  rw [hW] at hx hy hz hb3
  rw [show (ints 12 a).toArray = #[.int .i64 (a 0), .int .i64 (a 1), .int .i64 (a 2), .int .i64 (a 3), .int .i64 (a 4), .int .i64 (a 5), .int .i64 (a 6), .int .i64 (a 7), .int .i64 (a 8), .int .i64 (a 9), .int .i64 (a 10), .int .i64 (a 11)] from rfl, show (ints 12 b).toArray = #[.int .i64 (b 0), .int .i64 (b 1), .int .i64 (b 2), .int .i64 (b 3), .int .i64 (b 4), .int .i64 (b 5), .int .i64 (b 6), .int .i64 (b 7), .int .i64 (b 8), .int .i64 (b 9), .int .i64 (b 10), .int .i64 (b 11)] from rfl, show (ints 12 fun _ => 0).toArray = #[.int .i64 0, .int .i64 0, .int .i64 0, .int .i64 0, .int .i64 0, .int .i64 0, .int .i64 0, .int .i64 0, .int .i64 0, .int .i64 0, .int .i64 0, .int .i64 0] from rfl] at hW
  have hx0 : At W3 w.heap.size (ints 12 fun i => if i < 0 then a i + s * b i else a i).toArray 54 := by
    rw [ints_congr (g := a) (fun i _ => by rw [if_neg (Nat.not_lt_zero _)])]; exact hx
  have HR := Lib.hid hr
  clear hx hb1 hb2 hr
  go_enter func166, ntmps166
  go_wp2_with fail
  try rw [hW]
  clear hW
  go_loopw [7] (fun t wr => ∃ j : Nat, j ≤ 12 ∧ t = .int .i64 j ∧ At wr w.heap.size (ints 12 fun i => if i < j then a i + s * b i else a i).toArray 54 ∧ At wr (w.heap.size + 1) (ints 12 b).toArray 54 ∧ At wr (w.heap.size + 2) (ints 12 fun _ => 0).toArray 54 ∧ Below w.heap.size w wr) (fun t _ => 12 - (numOf' t).toNat)
  case atStart => exact ⟨0, Nat.zero_le _, rfl, hx0, hy, hz, hb3⟩
  case round =>
    clear hx0 hy hz hb3
    obtain ⟨j, hj, rfl, hx, hy, hz, hb⟩ := hrel
    by_cases hj12 : j < 12
    · obtain ⟨x0, f0⟩ := atc hx hj12
      obtain ⟨y0, -⟩ := atc hy hj12
      rw [if_neg (Nat.lt_irrefl _)] at x0
      obtain ⟨r1, r2⟩ := inI_wrap (HR.out j hj12).1
      obtain ⟨r3, r4⟩ := inI_wrap (HR.out j hj12).2
      have hjj : (j : Int) < 12 := by omega
      have hdr : At wr.drew w.heap.size (ints 12 fun i => if i < j then a i + s * b i else a i).toArray 54 ∧ At wr.drew (w.heap.size + 1) (ints 12 b).toArray 54 ∧ At wr.drew (w.heap.size + 2) (ints 12 fun _ => 0).toArray 54 ∧ Below w.heap.size w wr.drew := ⟨hx.drew, hy.drew, hz.drew, hb.drew⟩
      clear hx hy hz hb
      clear x0 f0 y0
      go_wp2_with fail
      refine wp_region_quiet_to (C := (fun W => At W w.heap.size (ints 12 fun i => if i < j then a i + s * b i else a i).toArray 54 ∧ At W (w.heap.size + 1) (ints 12 b).toArray 54 ∧ At W (w.heap.size + 2) (ints 12 fun _ => 0).toArray 54 ∧ Below w.heap.size w W)) 10 1 #[true, true, true, true, true, true, true, true, true, true, false] (by kernel_rfl) (by kernel_rfl) ?_ ?_
      · (try dsimp only)
        exact hdr
      simp only [List.take_succ_cons, List.take_zero]
      with_reducible refine quiet_take (v := ?_) ?_ ?_ ?_
      rotate_left
      · rfl
      · (intro w hSw; (try dsimp only at hSw); go_simp); all_goals (with_reducible rfl)
      try simp only [Act.put, List.setIfInBounds_toArray, List.set_cons_zero, List.set_cons_succ]
      with_reducible refine quiet_take (v := ?_) ?_ ?_ ?_
      rotate_left
      · rfl
      · (intro w hSw; (try dsimp only at hSw); go_simp); all_goals (with_reducible rfl)
      try simp only [Act.put, List.setIfInBounds_toArray, List.set_cons_zero, List.set_cons_succ]
      with_reducible refine quiet_take (v := ?_) ?_ ?_ ?_
      rotate_left
      · rfl
      · (intro w hSw; have hx0 := (atc hSw.1 hj12).1; rw [if_neg (Nat.lt_irrefl _)] at hx0; (try dsimp only at hSw); go_simp); all_goals (with_reducible rfl)
      try simp only [Act.put, List.setIfInBounds_toArray, List.set_cons_zero, List.set_cons_succ]
      with_reducible refine quiet_take (v := ?_) ?_ ?_ ?_
      rotate_left
      · rfl
      · (intro w hSw; (try dsimp only at hSw); go_simp); all_goals (with_reducible rfl)
      try simp only [Act.put, List.setIfInBounds_toArray, List.set_cons_zero, List.set_cons_succ]
      with_reducible refine quiet_take (v := ?_) ?_ ?_ ?_
      rotate_left
      · rfl
      · (intro w hSw; (try dsimp only at hSw); go_simp); all_goals (with_reducible rfl)
      try simp only [Act.put, List.setIfInBounds_toArray, List.set_cons_zero, List.set_cons_succ]
      with_reducible refine quiet_take (v := ?_) ?_ ?_ ?_
      rotate_left
      · rfl
      · (intro w hSw; (try dsimp only at hSw); go_simp); all_goals (with_reducible rfl)
      try simp only [Act.put, List.setIfInBounds_toArray, List.set_cons_zero, List.set_cons_succ]
      with_reducible refine quiet_take (v := ?_) ?_ ?_ ?_
      rotate_left
      · rfl
      · (intro w hSw; have hy0 := (atc hSw.2.1 hj12).1; (try dsimp only at hSw); go_simp); all_goals (with_reducible rfl)
      try simp only [Act.put, List.setIfInBounds_toArray, List.set_cons_zero, List.set_cons_succ]
      with_reducible refine quiet_take (v := ?_) ?_ ?_ ?_
      rotate_left
      · rfl
      · (intro w hSw; (try dsimp only at hSw); go_simp); all_goals (with_reducible rfl)
      try simp only [Act.put, List.setIfInBounds_toArray, List.set_cons_zero, List.set_cons_succ]
      with_reducible refine quiet_take (v := ?_) ?_ ?_ ?_
      rotate_left
      · rfl
      · (intro w hSw; (try dsimp only at hSw); go_simp); all_goals (with_reducible rfl)
      try simp only [Act.put, List.setIfInBounds_toArray, List.set_cons_zero, List.set_cons_succ]
      with_reducible refine quiet_take (v := ?_) ?_ ?_ ?_
      rotate_left
      · rfl
      · (intro w hSw; (try dsimp only at hSw); go_simp); all_goals (with_reducible rfl)
      try simp only [Act.put, List.setIfInBounds_toArray, List.set_cons_zero, List.set_cons_succ]
      refine wpQuiet_nil ?_
      intro W hSw
      obtain ⟨x0, f0⟩ := atc hSw.1 hj12
      rw [if_neg (Nat.lt_irrefl _)] at x0
      refine wpAny_of_held (S := fun _ => True) _ _ _ _ ?_
      refine wpAnyH_ready (rs := [10]) (by kernel_rfl) (by simp) ?_
      refine AllReadyH.cons (o := _) rfl (fun K hK => ?_) ?_
      · -- store
        go_simp
        refine hK.out _ _ trivial (fun _ => ?_)
        clear hK K
        try simp only [List.setIfInBounds_toArray, List.set_cons_zero, List.set_cons_succ]
        refine wpAnyH_done (by kernel_rfl) ?_ _
        have hx9 : At (W.setCell ⟨w.heap.size, j, none⟩ (.int .i64 (a j + s * b j))) w.heap.size (ints 12 fun i => if i < j + 1 then a i + s * b i else a i).toArray 54 := by
          have := hSw.1.set j (.int .i64 (a j + s * b j))
          rw [ints_set _ hj12] at this
          rw [ints_congr (g := fun i => if i = j then a j + s * b j else if i < j then a i + s * b i else a i) (fun i _ => by
            by_cases h : i = j
            · subst h; rw [if_pos (Nat.lt_succ_self _), if_pos rfl]
            · rw [if_neg h]
              by_cases h2 : i < j
              · rw [if_pos (by omega), if_pos h2]
              · rw [if_neg (by omega), if_neg h2])]
          exact this
        have hy9 := fun u => hSw.2.1.setCell (a := ⟨w.heap.size, j, none⟩) (by simp) u
        have hz9 := fun u => hSw.2.2.1.setCell (a := ⟨w.heap.size, j, none⟩) (by simp) u
        have hb9 := fun u => hSw.2.2.2.setCell (p := ⟨w.heap.size, j, none⟩) (Nat.le_refl _) u
        go_wp2_with fail
        go_roundw
        case rel => exact ⟨j + 1, by omega, by go_num, hx9, hy9 _, hz9 _, hb9 _⟩
        case measure => simp [numOf'] <;> omega
      exact AllReadyH.nil
    · obtain rfl : j = 12 := by omega
      rw [ints_congr (g := fun i => a i + s * b i) (fun i hi => by rw [if_pos hi])] at hx
      have hx1 : At wr w.heap.size #[.int .i64 (a 0 + s * b 0), .int .i64 (a 1 + s * b 1), .int .i64 (a 2 + s * b 2), .int .i64 (a 3 + s * b 3), .int .i64 (a 4 + s * b 4), .int .i64 (a 5 + s * b 5), .int .i64 (a 6 + s * b 6), .int .i64 (a 7 + s * b 7), .int .i64 (a 8 + s * b 8), .int .i64 (a 9 + s * b 9), .int .i64 (a 10 + s * b 10), .int .i64 (a 11 + s * b 11)] 54 := hx
      have hz1 : At wr (w.heap.size + 2) #[.int .i64 0, .int .i64 0, .int .i64 0, .int .i64 0, .int .i64 0, .int .i64 0, .int .i64 0, .int .i64 0, .int .i64 0, .int .i64 0, .int .i64 0, .int .i64 0] 54 := hz
      obtain ⟨⟨x0, x1, x2, x3, x4, x5, x6, x7, x8, x9, x10, x11⟩, -⟩ := box12 hx1
      obtain ⟨⟨z0, z1, z2, z3, z4, z5, z6, z7, z8, z9, z10, z11⟩, ⟨f0, f1, f2, f3, f4, f5, f6, f7, f8, f9, f10, f11⟩⟩ := box12 hz1
      have hz2 := hz1.put12 (.int .i64 (a 0 + s * b 0)) (.int .i64 (a 1 + s * b 1)) (.int .i64 (a 2 + s * b 2)) (.int .i64 (a 3 + s * b 3)) (.int .i64 (a 4 + s * b 4)) (.int .i64 (a 5 + s * b 5)) (.int .i64 (a 6 + s * b 6)) (.int .i64 (a 7 + s * b 7)) (.int .i64 (a 8 + s * b 8)) (.int .i64 (a 9 + s * b 9)) (.int .i64 (a 10 + s * b 10)) (.int .i64 (a 11 + s * b 11))
      have hb2 := below_put12 hb (Nat.le_add_right _ _ : w.heap.size ≤ w.heap.size + 2) (.int .i64 (a 0 + s * b 0)) (.int .i64 (a 1 + s * b 1)) (.int .i64 (a 2 + s * b 2)) (.int .i64 (a 3 + s * b 3)) (.int .i64 (a 4 + s * b 4)) (.int .i64 (a 5 + s * b 5)) (.int .i64 (a 6 + s * b 6)) (.int .i64 (a 7 + s * b 7)) (.int .i64 (a 8 + s * b 8)) (.int .i64 (a 9 + s * b 9)) (.int .i64 (a 10 + s * b 10)) (.int .i64 (a 11 + s * b 11))
      unfold Go.Proofs.Tryz.put12 at hz2 hb2
      clear hx hy hz hb hx1 hz1 HR
      go_wp2_with fail
      refine bodyPost_ret (res166 rfl hz2) rfl ⟨rfl, hb2⟩
end Go.Proofs.Tryz

namespace Go.Proofs.Tryz
open Go Go.Am Go.RowKit Go.Op
set_option maxRecDepth 100000

theorem flatR_set {m : Nat} : ∀ {l : List (List Value)} {i j : Nat} {x : List Value} {u : Value}, (∀ y ∈ l, y.length = m) → l[i]? = some x → j < m → flatR (l.set i (x.set j u)) = (flatR l).set (i * m + j) u
  | [], _, _, _, _, _, h, _ => by simp at h
  | y :: l, 0, j, x, u, hm, h, hj => by
    simp only [List.getElem?_cons_zero, Option.some.injEq] at h
    subst h
    have hy := hm y (by simp)
    rw [List.set_cons_zero, Nat.zero_mul, Nat.zero_add]
    show (y.set j u ++ l.flatten) = (y ++ l.flatten).set j u
    rw [List.set_append_left _ _ (by omega)]
  | y :: l, i + 1, j, x, u, hm, h, hj => by
    simp only [List.getElem?_cons_succ] at h
    have ih := flatR_set (u := u) (fun z hz => hm z (by simp [hz])) h hj
    have hy := hm y (by simp)
    rw [List.set_cons_succ]
    show y ++ (l.set i (x.set j u)).flatten = (y ++ l.flatten).set ((i + 1) * m + j) u
    have e : (i + 1) * m + j = y.length + (i * m + j) := by rw [hy, Nat.add_mul]; omega
    rw [e, List.set_append_right _ _ (by omega), Nat.add_sub_cancel_left]
    exact congrArg _ ih
theorem OwnRow.own {w : World} {base e m : Nat} {v : Value} {l : List (List Value)} (h : OwnRow w base e m v l) {i : Nat} (hi : i < l.length) : ∃ g cap, v = .slice (some ⟨g, 0, none⟩) l.length cap ∧ base ≤ g ∧ l.length ≤ cap := by
  rcases h.1.2 with ⟨rfl, h0⟩ | ⟨g, cap, cur, rfl, h1, h2, h3, h4⟩
  · omega
  · exact ⟨g, cap, rfl, h1, h3⟩
theorem OwnRow.cell {w : World} {base e m g n cap : Nat} {l : List (List Value)} (h : OwnRow w base e m (.slice (some ⟨g, 0, none⟩) n cap) l) {i j : Nat} {x : List Value} {u : Value} (hx : l[i]? = some x) (hu : x[j]? = some u) : w.cell? ⟨g, i * m + j, none⟩ = some u ∧ w.frozen? ⟨g, i * m + j, none⟩ = false := by
  rcases h.1.2 with ⟨e0, h0⟩ | ⟨g', cap', cur, e0, h1, h2, h3, h4, h5, h6⟩
  · cases e0
  · simp only [Value.slice.injEq, Option.some.injEq, Addr.mk.injEq, and_true] at e0
    obtain ⟨rfl, rfl, rfl⟩ := e0
    have hq := flatR_get h.2 hx hu
    have hlt := (List.getElem?_eq_some_iff.1 hq).1
    have hc := h.1.cellAt (i * m + j) (by rw [← h.1.1]; exact hlt)
    refine ⟨hc.trans hq, ?_⟩
    unfold World.frozen?
    rw [h2]
    simp
theorem OwnRow.write {w : World} {base e m g n cap : Nat} {l : List (List Value)} (h : OwnRow w base e m (.slice (some ⟨g, 0, none⟩) n cap) l) {i j : Nat} {x : List Value} (hx : l[i]? = some x) (hj : j < m) (u : Value) : OwnRow (w.setCell ⟨g, i * m + j, none⟩ u) base e m (.slice (some ⟨g, 0, none⟩) n cap) (l.set i (x.set j u)) := by
  have hm := h.2
  have hxm : x.length = m := hm x (List.mem_of_getElem? hx)
  rcases h.1.2 with ⟨e0, h0⟩ | ⟨g', cap', cur, e0, h1, h2, h3, h4, h5, h6⟩
  · cases e0
  · simp only [Value.slice.injEq, Option.some.injEq, Addr.mk.injEq, and_true] at e0
    obtain ⟨rfl, rfl, rfl⟩ := e0
    refine ⟨⟨?_, .inr ⟨g, cap, cur.setIfInBounds (i * m + j) u, by rw [List.length_set], h1, ?_, by rw [List.length_set]; exact h3, h4, by simpa using h5, ?_⟩⟩, fun y hy => ?_⟩
    · rw [flatR_set hm hx hj, List.length_set, List.length_set]; exact h.1.1
    · simp only [World.setCell, Array.getElem?_modify, h2]
      simp
    · rw [flatR_set hm hx hj, ← h6, Array.toList_setIfInBounds, List.length_set, List.take_set]
    · rcases List.mem_or_eq_of_mem_set hy with hy | rfl
      · exact hm y hy
      · rw [List.length_set]; exact hxm
/-- Cells written one behind the other. -/
def setN (w : World) (b : Nat) : Nat → List Value → World
  | _, [] => w
  | o, v :: r => setN (w.setCell ⟨b, o, none⟩ v) b (o + 1) r
def splice (x : List Value) : Nat → List Value → List Value
  | _, [] => x
  | j, v :: r => splice (x.set j v) (j + 1) r
theorem OwnRow.writes {base e m g n cap i : Nat} : ∀ {vs : List Value} {w : World} {l : List (List Value)} {x : List Value} {j : Nat}, OwnRow w base e m (.slice (some ⟨g, 0, none⟩) n cap) l → l[i]? = some x → j + vs.length ≤ m →
    OwnRow (setN w g (i * m + j) vs) base e m (.slice (some ⟨g, 0, none⟩) n cap) (l.set i (splice x j vs))
  | [], w, l, x, j, h, hx, _ => by
    have hi := (List.getElem?_eq_some_iff.1 hx).1
    have e : l.set i x = l := by
      apply List.ext_getElem?
      intro k
      by_cases hk : k = i
      · subst hk; rw [List.getElem?_set_self hi, hx]
      · rw [List.getElem?_set_ne (fun q => hk q.symm)]
    unfold splice setN
    rw [e]; exact h
  | v :: r, w, l, x, j, h, hx, hj => by
    simp only [List.length_cons] at hj
    have h2 := h.write hx (j := j) (by omega) v
    have hi := (List.getElem?_eq_some_iff.1 hx).1
    have h3 := OwnRow.writes (vs := r) (j := j + 1) h2 (x := x.set j v) (by rw [List.getElem?_set_self hi]) (by omega)
    unfold splice setN
    rw [List.set_set] at h3
    exact h3
theorem setN_size' (b : Nat) : ∀ (vs : List Value) (w : World) (o : Nat), (setN w b o vs).heap.size = w.heap.size
  | [], _, _ => rfl
  | _ :: r, w, o => by rw [setN, setN_size' b r]; simp
theorem setN_size (w : World) (b o : Nat) (vs : List Value) : (setN w b o vs).heap.size = w.heap.size := setN_size' b vs w o
theorem Below.setN {B : Nat} {w0 : World} {b : Nat} (hb : B ≤ b) : ∀ {vs : List Value} {w : World} {o : Nat}, Below B w0 w → Below B w0 (Go.Proofs.Tryz.setN w b o vs)
  | [], _, _, h => h
  | _ :: r, _, _, h => Below.setN hb (vs := r) (h.setCell hb _)
theorem At.setN {c e : Nat} {cs : Array Value} {b : Nat} (hb : c ≠ b) : ∀ {vs : List Value} {w : World} {o : Nat}, At w c cs e → At (Go.Proofs.Tryz.setN w b o vs) c cs e
  | [], _, _, h => h
  | _ :: r, _, _, h => At.setN hb (vs := r) (h.setCell hb _)
end Go.Proofs.Tryz
