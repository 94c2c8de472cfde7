/- On the seat of the open Play statements: Count by its contract, the program's and the reference's. -/
import Derived.Test.YthlmjjdlmidnlaaGreatDoorArN1
import Derived.Test.YthlmjjdlmidnlaaGreatDoorArN3
namespace Go.Proofs.Tryz.Cn
open Go Go.Am Go.Gc Go.Pc
set_option maxRecDepth 100000

/-- The functions that symbols stand for: the string's bytes alone. -/
abbrev fC (y : Int → Int) : Nat → List Int → Int := fG (fun _ => y) (fun _ _ => 0)

def comp (q : Q) : Nat → Int
  | 0 => q.b
  | 1 => q.s
  | 2 => q.ov
  | _ => q.go
def vC (y : Int → Int) (b s o n : Int) (m : Nat) : Int :=
  if m = 0 then b else if m = 1 then s else if m = 2 then o else if m = 3 then n else if m < 100 then 0 else if m < 204 then comp (stp y b s o ((m - 100) / 4)) ((m - 100) % 4)
  else if m = 910 then fin (fun i => (stp y b s o i).b) n 24 else if m = 911 then fin (fun i => (stp y b s o i).s) n 24 else if m = 920 then err (goP y b s o) n 24 else if m = 921 then idx (goP y b s o) n 24 else 0
def ρC (w : World) (y : Int → Int) (b s o n : Int) : Env := ⟨vC y b s o n, fC y, fun _ => (0, 0), memOf w⟩

section
variable {w : World} {y : Int → Int} {b s o n : Int}
theorem vC_c {i j : Nat} (hi : i < 26) (hj : j < 4) : vC y b s o n (100 + 4 * i + j) = comp (stp y b s o i) j := by
  unfold vC
  rw [if_neg (by omega), if_neg (by omega), if_neg (by omega), if_neg (by omega), if_neg (by omega), if_pos (by omega), show (100 + 4 * i + j - 100) / 4 = i by omega, show (100 + 4 * i + j - 100) % 4 = j by omega]
theorem x_B {i : Nat} (hi : i < 26) : (sB i).val (ρC w y b s o n) = (stp y b s o i).b := vC_c (j := 0) hi (by omega)
theorem x_S {i : Nat} (hi : i < 26) : (sS i).val (ρC w y b s o n) = (stp y b s o i).s := by
  show vC y b s o n (101 + 4 * i) = _
  rw [show 101 + 4 * i = 100 + 4 * i + 1 by omega]; exact vC_c (j := 1) hi (by omega)
theorem x_Ov {i : Nat} (hi : i < 26) : (sOv i).val (ρC w y b s o n) = (stp y b s o i).ov := by
  show vC y b s o n (102 + 4 * i) = _
  rw [show 102 + 4 * i = 100 + 4 * i + 2 by omega]; exact vC_c (j := 2) hi (by omega)
theorem x_Go {i : Nat} (hi : i < 26) : (sGo i).val (ρC w y b s o n) = (stp y b s o i).go := by
  show vC y b s o n (103 + 4 * i) = _
  rw [show 103 + 4 * i = 100 + 4 * i + 3 by omega]; exact vC_c (j := 3) hi (by omega)
theorem x_yB : yB.val (ρC w y b s o n) = b := (rfl)
theorem x_yS : yS.val (ρC w y b s o n) = s := (rfl)
theorem x_yO : yO.val (ρC w y b s o n) = o := (rfl)
theorem x_yN : yN.val (ρC w y b s o n) = n := (rfl)
theorem x_by (i : Nat) : (byE yO i).val (ρC w y b s o n) = y (o + i) := by
  unfold byE; rw [appE_val]
  show fG (fun _ => y) (fun _ _ => 0) (1000 + 0) [o + (i : Int)] = _
  rw [fG_y, bs_y (by omega)]
theorem x_h6 (i : Nat) : (hs6 i).val (ρC w y b s o n) = h6 (y (o + i)) := by
  unfold hs6; rw [appE_val, List.map_cons, bytesE_int, x_by]
  have e : (ρC w y b s o n).f = fG (fun _ => y) (fun _ _ => 0) := rfl
  rw [e, fG_s (by omega)]; rfl
theorem ev_is (i : Nat) (c : Int) (a d : DT) : (is yO i c a d).eval (ρC w y b s o n) = if y (o + i) = c then a.eval (ρC w y b s o n) else d.eval (ρC w y b s o n) := by
  unfold is; rw [ev_eq, x_by]; rfl
theorem ev_over3 (p q : E) : (over3 p q).eval (ρC w y b s o n) = o3 (p.val (ρC w y b s o n)) (q.val (ρC w y b s o n)) := by
  unfold over3; rw [ev_eq, ev_eq]; rfl
theorem x_inc (e : E) : (inc e).val (ρC w y b s o n) = w64 (e.val (ρC w y b s o n) + 1) := (rfl)
theorem x_foul (e : E) : (foul e).val (ρC w y b s o n) = foulI (e.val (ρC w y b s o n)) := (rfl)

theorem ev_dFin (x : Nat → E) (f : Nat → Int) (hx : ∀ i, i ≤ 24 → (x i).val (ρC w y b s o n) = f i) : ∀ m, (dFin x m).eval (ρC w y b s o n) = fin f n m
  | 0 => hx 24 (Nat.le_refl _)
  | m + 1 => by
    simp only [dFin, fin, ev_le, ev_leaf, x_yN, val_L']
    rw [ev_dFin x f hx m, hx _ (by omega)]
theorem ev_dErr : ∀ m, (dErr m).eval (ρC w y b s o n) = err (goP y b s o) n m
  | 0 => rfl
  | m + 1 => by
    simp only [dErr, err, ev_le, ev_eq, ev_lf', x_yN, val_L']
    rw [ev_dErr m, x_Go (show 24 - m < 26 by omega)]; rfl
theorem ev_dIdx : ∀ m, (dIdx m).eval (ρC w y b s o n) = idx (goP y b s o) n m
  | 0 => rfl
  | m + 1 => by
    simp only [dIdx, idx, ev_le, ev_eq, ev_lf', x_yN, val_L']
    rw [ev_dIdx m, x_Go (show 24 - m < 26 by omega)]; rfl

theorem blt_true {a b : Nat} (h : Nat.blt a b = true) : a < b := by simpa [Nat.blt, Nat.ble_eq, Nat.succ_le_iff] using h
theorem blt_false {a b : Nat} (h : Nat.blt a b = false) : ¬ a < b := fun h' => by
  have : Nat.blt a b = true := by simp [Nat.blt, Nat.ble_eq]; omega
  rw [this] at h; cases h

theorem comp_ok {i j : Nat} {d : DT} (hd : (match j with | 0 => some (dB i) | 1 => some (dS i) | 2 => some (dOv i) | _ => some (dGo i)) = some d) (hi : i < 26) (hj : j < 4) : comp (stp y b s o i) j = d.eval (ρC w y b s o n) := by
  have hj' : j = 0 ∨ j = 1 ∨ j = 2 ∨ j = 3 := by omega
  cases i with
  | zero => rcases hj' with rfl | rfl | rfl | rfl <;> simp only [Option.some.injEq] at hd <;> subst hd <;> rfl
  | succ i =>
    have h0 : i < 26 := by omega
    rcases hj' with rfl | rfl | rfl | rfl <;> simp only [Option.some.injEq] at hd <;> subst hd
    · simp only [dB, ev_is, ev_leaf, x_inc, x_B h0]; rfl
    · simp only [dS, ev_is, ev_leaf, x_inc, x_foul, x_S h0]; rfl
    · simp only [dOv, ev_is, ev_over3, ev_lf', x_inc, x_foul, x_B h0, x_S h0]; rfl
    · simp only [dGo, ev_eq, ev_is, ev_lf', x_Go h0, x_Ov h0, val_L']; rfl

theorem defC_ok : ∀ m d, defC m = some d → (ρC w y b s o n).v m = d.eval (ρC w y b s o n) := by
  intro m d hd
  show vC y b s o n m = _
  unfold defC at hd
  cases h1 : Nat.blt m 100 with
  | true => rw [h1] at hd; cases hd
  | false =>
  rw [h1] at hd
  simp only [cond_false] at hd
  have n1 := blt_false h1
  cases h2 : Nat.blt m 204 with
  | true =>
    rw [h2] at hd
    simp only [cond_true] at hd
    have n2 := blt_true h2
    obtain ⟨i, j, hj, hi, rfl⟩ : ∃ i j, j < 4 ∧ i < 26 ∧ m = 100 + 4 * i + j := ⟨(m - 100) / 4, (m - 100) % 4, by omega, by omega, by omega⟩
    rw [show (100 + 4 * i + j - 100) / 4 = i by omega, show (100 + 4 * i + j - 100) % 4 = j by omega] at hd
    rw [vC_c hi hj]
    exact comp_ok hd hi hj
  | false =>
  rw [h2] at hd
  simp only [cond_false] at hd
  have n2 := blt_false h2
  cases h3 : Nat.beq m 910 with
  | true =>
    rw [h3] at hd
    simp only [cond_true, Option.some.injEq] at hd; subst hd
    rw [Nat.eq_of_beq_eq_true h3, ev_dFin sB (fun i => (stp y b s o i).b) (fun i hi => x_B (by omega))]; rfl
  | false =>
  rw [h3] at hd
  simp only [cond_false] at hd
  cases h4 : Nat.beq m 911 with
  | true =>
    rw [h4] at hd
    simp only [cond_true, Option.some.injEq] at hd; subst hd
    rw [Nat.eq_of_beq_eq_true h4, ev_dFin sS (fun i => (stp y b s o i).s) (fun i hi => x_S (by omega))]; rfl
  | false =>
  rw [h4] at hd
  simp only [cond_false] at hd
  cases h5 : Nat.beq m 920 with
  | true =>
    rw [h5] at hd
    simp only [cond_true, Option.some.injEq] at hd; subst hd
    rw [Nat.eq_of_beq_eq_true h5, ev_dErr]; rfl
  | false =>
  rw [h5] at hd
  simp only [cond_false] at hd
  cases h6 : Nat.beq m 921 with
  | true =>
    rw [h6] at hd
    simp only [cond_true, Option.some.injEq] at hd; subst hd
    rw [Nat.eq_of_beq_eq_true h6, ev_dIdx]; rfl
  | false => rw [h6] at hd; cases hd

theorem ngo_R (c ov go : Int) : ngo c ov go = if go = 1 then (if h6 c = 0 then 0 else if ov = 0 then 1 else 0) else 0 := by
  rw [h6_pin]
  unfold ngo pin
  by_cases h1 : go = 1
  case neg => rw [if_neg h1, if_neg h1]
  rw [if_pos h1, if_pos h1]
  by_cases q1 : c = 66
  · subst q1; rfl
  by_cases q2 : c = 67
  · subst q2; rfl
  by_cases q3 : c = 83
  · subst q3; rfl
  by_cases q4 : c = 70
  · subst q4; rfl
  by_cases q5 : c = 88
  · subst q5; rfl
  by_cases q6 : c = 72
  · subst q6; rfl
  simp only [if_neg q1, if_neg q2, if_neg q3, if_neg q4, if_neg q5, if_neg q6]
  rw [if_neg (show ¬ (c = 66 ∨ c = 67 ∨ c = 83 ∨ c = 70 ∨ c = 88 ∨ c = 72) by omega), if_pos rfl]
  split <;> rfl

theorem comp_okR {i j : Nat} {d : DT} (hd : (match j with | 0 => some (dB i) | 1 => some (dS i) | 2 => some (dOv i) | _ => some (dGoR i)) = some d) (hi : i < 26) (hj : j < 4) : comp (stp y b s o i) j = d.eval (ρC w y b s o n) := by
  have hj' : j = 0 ∨ j = 1 ∨ j = 2 ∨ j = 3 := by omega
  cases i with
  | zero => rcases hj' with rfl | rfl | rfl | rfl <;> simp only [Option.some.injEq] at hd <;> subst hd <;> rfl
  | succ i =>
    have h0 : i < 26 := by omega
    rcases hj' with rfl | rfl | rfl | rfl <;> simp only [Option.some.injEq] at hd <;> subst hd
    · simp only [dB, ev_is, ev_leaf, x_inc, x_B h0]; rfl
    · simp only [dS, ev_is, ev_leaf, x_inc, x_foul, x_S h0]; rfl
    · simp only [dOv, ev_is, ev_over3, ev_lf', x_inc, x_foul, x_B h0, x_S h0]; rfl
    · simp only [dGoR, ev_eq, ev_lf', x_Go h0, x_Ov h0, x_h6, val_L']; exact ngo_R _ _ _

theorem defR_ok : ∀ m d, defR m = some d → (ρC w y b s o n).v m = d.eval (ρC w y b s o n) := by
  intro m d hd
  show vC y b s o n m = _
  unfold defR at hd
  cases h1 : Nat.blt m 100 with
  | true => rw [h1] at hd; cases hd
  | false =>
  rw [h1] at hd
  simp only [cond_false] at hd
  have n1 := blt_false h1
  cases h2 : Nat.blt m 204 with
  | true =>
    rw [h2] at hd
    simp only [cond_true] at hd
    have n2 := blt_true h2
    obtain ⟨i, j, hj, hi, rfl⟩ : ∃ i j, j < 4 ∧ i < 26 ∧ m = 100 + 4 * i + j := ⟨(m - 100) / 4, (m - 100) % 4, by omega, by omega, by omega⟩
    rw [show (100 + 4 * i + j - 100) / 4 = i by omega, show (100 + 4 * i + j - 100) % 4 = j by omega] at hd
    rw [vC_c hi hj]
    exact comp_okR hd hi hj
  | false =>
  rw [h2] at hd
  simp only [cond_false] at hd
  have n2 := blt_false h2
  cases h3 : Nat.beq m 910 with
  | true =>
    rw [h3] at hd
    simp only [cond_true, Option.some.injEq] at hd; subst hd
    rw [Nat.eq_of_beq_eq_true h3, ev_dFin sB (fun i => (stp y b s o i).b) (fun i hi => x_B (by omega))]; rfl
  | false =>
  rw [h3] at hd
  simp only [cond_false] at hd
  cases h4 : Nat.beq m 911 with
  | true =>
    rw [h4] at hd
    simp only [cond_true, Option.some.injEq] at hd; subst hd
    rw [Nat.eq_of_beq_eq_true h4, ev_dFin sS (fun i => (stp y b s o i).s) (fun i hi => x_S (by omega))]; rfl
  | false =>
  rw [h4] at hd
  simp only [cond_false] at hd
  cases h5 : Nat.beq m 920 with
  | true =>
    rw [h5] at hd
    simp only [cond_true, Option.some.injEq] at hd; subst hd
    rw [Nat.eq_of_beq_eq_true h5, ev_dErr]; rfl
  | false =>
  rw [h5] at hd
  simp only [cond_false] at hd
  cases h6 : Nat.beq m 921 with
  | true =>
    rw [h6] at hd
    simp only [cond_true, Option.some.injEq] at hd; subst hd
    rw [Nat.eq_of_beq_eq_true h6, ev_dIdx]; rfl
  | false => rw [h6] at hd; cases hd

/-- A string's bytes are y's, from o on. -/
def Bytes (y : Int → Int) (o : Int) (l : List UInt8) : Prop := ∀ (j : Nat) (c : UInt8), l[j]? = some c → (c.toNat : Int) = y (o + (j : Int))

theorem primsN (g : Nat → List Int → Int) (B : Nat) : PrimsOk (cxN g) prog B := tokBase cx.prim g defC noRows

theorem run_C {k : Exit × Fr × St} {l0 : Asg} {x1 x2 x3 x4 : C} (hk : runN (fC y) k l0 (fun _ => isC x1 x2 x3 x4) = true) (h : Laid w) (hl : AsgOk (ρC w y b s o n) l0) {l : List UInt8} (hn : (l.length : Int) = n) (hy : Bytes y o l) :
    CallRet prog 43 #[vi b, vi s, .string ⟨l.toArray⟩] w fun v' w' => (∃ (β' : Be) (v1 v2 v3 v4 : Value), β'.env = ρC w y b s o n ∧ v' = .tuple #[.agg #[v1, v2], v3, v4] ∧ CRel β' x1 v1 ∧ CRel β' x2 v2 ∧ CRel β' x3 v3 ∧ CRel β' x4 v4) ∧ Kept w w' := by
  have hi : Inv (cxN (fC y)) w.heap.size { m := fun _ => none, env := ρC w y b s o n } ⟨.nil, 0⟩ w := inv0 _ rfl rfl defC_ok h (fun k l hk => by cases hk)
  have ha : All2 (VRel { m := fun _ => none, env := ρC w y b s o n }) [sE yB, sE yS, strC yO yN] (#[vi b, vi s, .string ⟨l.toArray⟩] : Array Value).toList := ⟨rfl, rfl, ⟨l, rfl, hn, fun j c hc => by
    rw [hy j c hc]
    show _ = fG (fun _ => y) (fun _ _ => 0) (1000 + 0) [o + (j : Int)]
    rw [fG_y, bs_y (by omega)]⟩, trivial⟩
  obtain ⟨l', h1, h2⟩ := symL (c := cxN (fC y)) (K := fun _ => isC x1 x2 x3 x4) (tl := noTails) (ann := annC k) (n := 100) (m := 60) cxWOk (primsN _ _) rfl hk hl (Nat.le_refl _) hi ha
  refine h2.mono ?_
  rintro v' w' ⟨v, st', β', q1, q2, q3⟩
  refine ⟨?_, Kept.ofNil q3⟩
  have hv := eqVv_ok q1
  subst hv
  obtain ⟨arr, rfl, hr⟩ := q2
  obtain ⟨arr⟩ := arr
  match arr, hr with
  | [u, v3, v4], hr =>
    obtain ⟨⟨kA2, rfl, ha2, _⟩, h3, h4, _⟩ := hr
    obtain ⟨kA2⟩ := kA2
    match kA2, ha2 with
    | [v1, v2], ha2 => exact ⟨β', v1, v2, v3, v4, q3.ext.env, rfl, ha2.1, ha2.2.1, h3, h4⟩

theorem asN {ρ : Env} : AsgOk ρ [] := fun _ hp => nomatch hp
theorem asC {ρ : Env} {t : Tst} {q : Bool} {l : Asg} (h : t.holds ρ = q) (hl : AsgOk ρ l) : AsgOk ρ ((t, q) :: l) := fun p hp => by
  rcases List.mem_cons.1 hp with rfl | hp
  · exact h
  · exact hl p hp

theorem count_ret (y : Int → Int) (b s o n : Int) (l : List UInt8) (w : World) (h : Laid w) (hn : (l.length : Int) = n) (hy : Bytes y o l) :
    CallRet prog 43 #[vi b, vi s, .string ⟨l.toArray⟩] w fun v' w' => v' = .tuple #[.agg #[vi (cB y b s o n), vi (cS y b s o n)], vi (cI y b s o n), vi (cE y b s o n)] ∧ Kept w w' := by
  have out : ∀ {l0 : Asg} {e : Int}, runN (fC y) outOk l0 (fun _ => isC (iC 0) (iC 0) (iC 0) (iC e)) = true → AsgOk (ρC w y b s o n) l0 → cE y b s o n = e → e ≠ 0 → e ≠ 14 →
      CallRet prog 43 #[vi b, vi s, .string ⟨l.toArray⟩] w fun v' w' => v' = .tuple #[.agg #[vi (cB y b s o n), vi (cS y b s o n)], vi (cI y b s o n), vi (cE y b s o n)] ∧ Kept w w' := fun hk hl he h0 h1 => by
    refine (run_C hk h hl hn hy).mono ?_
    rintro v' w' ⟨⟨β', v1, v2, v3, v4, e1, rfl, r1, r2, r3, r4⟩, hw⟩
    refine ⟨?_, hw⟩
    have q1 : cB y b s o n = 0 := by rw [cB, if_neg (by omega)]
    have q2 : cS y b s o n = 0 := by rw [cS, if_neg (by omega)]
    have q3 : cI y b s o n = 0 := by rw [cI, if_neg (by omega)]
    rw [q1, q2, q3, he, show v1 = vi 0 from r1, show v2 = vi 0 from r2, show v3 = vi 0 from r3, show v4 = vi _ from r4]
  by_cases h0 : 0 ≤ b
  case neg => exact out (countOut0 _) (asC (decide_eq_false h0) asN) (by rw [cE, if_neg fun h => h0 h.1]) (by omega) (by omega)
  by_cases h1 : b ≤ 3
  case neg => exact out (countOut1 _) (asC (decide_eq_true h0) (asC (decide_eq_false h1) asN)) (by rw [cE, if_neg fun h => h1 h.2.1]) (by omega) (by omega)
  by_cases h2 : 0 ≤ s
  case neg => exact out (countOut2 _) (asC (decide_eq_true h0) (asC (decide_eq_true h1) (asC (decide_eq_false h2) asN))) (by rw [cE, if_neg fun h => h2 h.2.2.1]) (by omega) (by omega)
  by_cases h3 : s ≤ 2
  case neg => exact out (countOut3 _) (asC (decide_eq_true h0) (asC (decide_eq_true h1) (asC (decide_eq_true h2) (asC (decide_eq_false h3) asN)))) (by rw [cE, if_neg fun h => h3 h.2.2.2]) (by omega) (by omega)
  by_cases h4 : n ≤ 24
  case neg => exact out (countOut4 _) (asC (decide_eq_true h0) (asC (decide_eq_true h1) (asC (decide_eq_true h2) (asC (decide_eq_true h3) (asC (decide_eq_false h4) asN))))) (by rw [cE, if_pos (show inR b s from ⟨h0, h1, h2, h3⟩), if_neg h4]) (by omega) (by omega)
  have hr : inR b s := ⟨h0, h1, h2, h3⟩
  have hF : AsgOk (ρC w y b s o n) inF := by
    intro p hp
    simp only [inF, List.mem_cons, List.not_mem_nil, or_false] at hp
    rcases hp with rfl | rfl | rfl | rfl | rfl
    · exact decide_eq_true h0
    · exact decide_eq_true h1
    · exact decide_eq_true h2
    · exact decide_eq_true h3
    · exact decide_eq_true h4
  have hE : cE y b s o n = if err (goP y b s o) n 24 = 0 then 0 else 14 := by rw [cE, if_pos hr, if_pos h4]
  by_cases he : err (goP y b s o) n 24 = 0
  · have hl : AsgOk (ρC w y b s o n) ((.eq (.var 920) (L 0), true) :: inF) := fun p hp => by
      rcases List.mem_cons.1 hp with rfl | hp
      · show (err (goP y b s o) n 24 == 0) = true
        rw [he]; rfl
      · exact hF p hp
    rw [if_pos he] at hE
    refine (run_C (countOk _) h hl hn hy).mono ?_
    rintro v' w' ⟨⟨β', v1, v2, v3, v4, e1, rfl, r1, r2, r3, r4⟩, hw⟩
    refine ⟨?_, hw⟩
    have r1' : v1 = .int .i64 ((E.var 910).val β'.env) := r1
    have r2' : v2 = .int .i64 ((E.var 911).val β'.env) := r2
    rw [e1] at r1' r2'
    have q3 : cI y b s o n = 0 := by rw [cI, if_neg (by omega)]
    rw [cB, cS, if_pos hE, if_pos hE, q3, hE, r1', r2', show v3 = vi 0 from r3, show v4 = vi _ from r4]; rfl
  · have hl : AsgOk (ρC w y b s o n) ((.eq (.var 920) (L 0), false) :: inF) := fun p hp => by
      rcases List.mem_cons.1 hp with rfl | hp
      · show (err (goP y b s o) n 24 == 0) = false
        exact beq_eq_false_iff_ne.2 he
      · exact hF p hp
    rw [if_neg he] at hE
    refine (run_C (countBad _) h hl hn hy).mono ?_
    rintro v' w' ⟨⟨β', v1, v2, v3, v4, e1, rfl, r1, r2, r3, r4⟩, hw⟩
    refine ⟨?_, hw⟩
    have r3' : v3 = .int .i64 ((E.var 921).val β'.env) := r3
    rw [e1] at r3'
    rw [cB, cS, cI, if_neg (by omega), if_neg (by omega), if_pos hE, hE, r3', show v1 = vi 0 from r1, show v2 = vi 0 from r2, show v4 = vi _ from r4]; rfl
theorem primsNR (y : Int → Int) (B : Nat) : PrimsOk (cxNR (fC y)) prog B := (tokBase tNR (fC y) defR noRows).add (pokHas fun l => by show fG (fun _ => y) (fun _ _ => 0) 66 l = _; rw [fG_s (by omega)]; rfl)

theorem run_CR {k : Exit × Fr × St} {l0 : Asg} {x1 x2 x3 x4 : C} (hk : runNR (fC y) k l0 (fun _ => isC x1 x2 x3 x4) = true) (h : Laid w) (hl : AsgOk (ρC w y b s o n) l0) {l : List UInt8} (hn : (l.length : Int) = n) (hy : Bytes y o l) :
    CallRet prog 44 #[vi b, vi s, .string ⟨l.toArray⟩] w fun v' w' => (∃ (β' : Be) (v1 v2 v3 v4 : Value), β'.env = ρC w y b s o n ∧ v' = .tuple #[.agg #[v1, v2], v3, v4] ∧ CRel β' x1 v1 ∧ CRel β' x2 v2 ∧ CRel β' x3 v3 ∧ CRel β' x4 v4) ∧ Kept w w' := by
  have hi : Inv (cxNR (fC y)) w.heap.size { m := fun _ => none, env := ρC w y b s o n } ⟨.nil, 0⟩ w := inv0 _ rfl rfl defR_ok h (fun k l hk => by cases hk)
  have ha : All2 (VRel { m := fun _ => none, env := ρC w y b s o n }) [sE yB, sE yS, strC yO yN] (#[vi b, vi s, .string ⟨l.toArray⟩] : Array Value).toList := ⟨rfl, rfl, ⟨l, rfl, hn, fun j c hc => by
    rw [hy j c hc]
    show _ = fG (fun _ => y) (fun _ _ => 0) (1000 + 0) [o + (j : Int)]
    rw [fG_y, bs_y (by omega)]⟩, trivial⟩
  obtain ⟨l', h1, h2⟩ := symL (c := cxNR (fC y)) (K := fun _ => isC x1 x2 x3 x4) (tl := noTails) (ann := annR k) (n := 100) (m := 60) cxWOk (primsNR y _) rfl hk hl (Nat.le_refl _) hi ha
  refine h2.mono ?_
  rintro v' w' ⟨v, st', β', q1, q2, q3⟩
  refine ⟨?_, Kept.ofNil q3⟩
  have hv := eqVv_ok q1
  subst hv
  obtain ⟨arr, rfl, hr⟩ := q2
  obtain ⟨arr⟩ := arr
  match arr, hr with
  | [u, v3, v4], hr =>
    obtain ⟨⟨kA2, rfl, ha2, _⟩, h3, h4, _⟩ := hr
    obtain ⟨kA2⟩ := kA2
    match kA2, ha2 with
    | [v1, v2], ha2 => exact ⟨β', v1, v2, v3, v4, q3.ext.env, rfl, ha2.1, ha2.2.1, h3, h4⟩

theorem countR_ret (y : Int → Int) (b s o n : Int) (l : List UInt8) (w : World) (h : Laid w) (hn : (l.length : Int) = n) (hy : Bytes y o l) :
    CallRet prog 44 #[vi b, vi s, .string ⟨l.toArray⟩] w fun v' w' => v' = .tuple #[.agg #[vi (cB y b s o n), vi (cS y b s o n)], vi (cI y b s o n), vi (cE y b s o n)] ∧ Kept w w' := by
  have out : ∀ {l0 : Asg} {e : Int}, runNR (fC y) outOkR l0 (fun _ => isC (iC 0) (iC 0) (iC 0) (iC e)) = true → AsgOk (ρC w y b s o n) l0 → cE y b s o n = e → e ≠ 0 → e ≠ 14 →
      CallRet prog 44 #[vi b, vi s, .string ⟨l.toArray⟩] w fun v' w' => v' = .tuple #[.agg #[vi (cB y b s o n), vi (cS y b s o n)], vi (cI y b s o n), vi (cE y b s o n)] ∧ Kept w w' := fun hk hl he h0 h1 => by
    refine (run_CR hk h hl hn hy).mono ?_
    rintro v' w' ⟨⟨β', v1, v2, v3, v4, e1, rfl, r1, r2, r3, r4⟩, hw⟩
    refine ⟨?_, hw⟩
    have q1 : cB y b s o n = 0 := by rw [cB, if_neg (by omega)]
    have q2 : cS y b s o n = 0 := by rw [cS, if_neg (by omega)]
    have q3 : cI y b s o n = 0 := by rw [cI, if_neg (by omega)]
    rw [q1, q2, q3, he, show v1 = vi 0 from r1, show v2 = vi 0 from r2, show v3 = vi 0 from r3, show v4 = vi _ from r4]
  by_cases h0 : 0 ≤ b
  case neg => exact out (countOutR0 _) (asC (decide_eq_false h0) asN) (by rw [cE, if_neg fun h => h0 h.1]) (by omega) (by omega)
  by_cases h1 : b ≤ 3
  case neg => exact out (countOutR1 _) (asC (decide_eq_true h0) (asC (decide_eq_false h1) asN)) (by rw [cE, if_neg fun h => h1 h.2.1]) (by omega) (by omega)
  by_cases h2 : 0 ≤ s
  case neg => exact out (countOutR2 _) (asC (decide_eq_true h0) (asC (decide_eq_true h1) (asC (decide_eq_false h2) asN))) (by rw [cE, if_neg fun h => h2 h.2.2.1]) (by omega) (by omega)
  by_cases h3 : s ≤ 2
  case neg => exact out (countOutR3 _) (asC (decide_eq_true h0) (asC (decide_eq_true h1) (asC (decide_eq_true h2) (asC (decide_eq_false h3) asN)))) (by rw [cE, if_neg fun h => h3 h.2.2.2]) (by omega) (by omega)
  by_cases h4 : n ≤ 24
  case neg => exact out (countOutR4 _) (asC (decide_eq_true h0) (asC (decide_eq_true h1) (asC (decide_eq_true h2) (asC (decide_eq_true h3) (asC (decide_eq_false h4) asN))))) (by rw [cE, if_pos (show inR b s from ⟨h0, h1, h2, h3⟩), if_neg h4]) (by omega) (by omega)
  have hr : inR b s := ⟨h0, h1, h2, h3⟩
  have hF : AsgOk (ρC w y b s o n) inF := by
    intro p hp
    simp only [inF, List.mem_cons, List.not_mem_nil, or_false] at hp
    rcases hp with rfl | rfl | rfl | rfl | rfl
    · exact decide_eq_true h0
    · exact decide_eq_true h1
    · exact decide_eq_true h2
    · exact decide_eq_true h3
    · exact decide_eq_true h4
  have hE : cE y b s o n = if err (goP y b s o) n 24 = 0 then 0 else 14 := by rw [cE, if_pos hr, if_pos h4]
  by_cases he : err (goP y b s o) n 24 = 0
  · have hl : AsgOk (ρC w y b s o n) ((.eq (.var 920) (L 0), true) :: inF) := fun p hp => by
      rcases List.mem_cons.1 hp with rfl | hp
      · show (err (goP y b s o) n 24 == 0) = true
        rw [he]; rfl
      · exact hF p hp
    rw [if_pos he] at hE
    refine (run_CR (countOkR _) h hl hn hy).mono ?_
    rintro v' w' ⟨⟨β', v1, v2, v3, v4, e1, rfl, r1, r2, r3, r4⟩, hw⟩
    refine ⟨?_, hw⟩
    have r1' : v1 = .int .i64 ((E.var 910).val β'.env) := r1
    have r2' : v2 = .int .i64 ((E.var 911).val β'.env) := r2
    rw [e1] at r1' r2'
    have q3 : cI y b s o n = 0 := by rw [cI, if_neg (by omega)]
    rw [cB, cS, if_pos hE, if_pos hE, q3, hE, r1', r2', show v3 = vi 0 from r3, show v4 = vi _ from r4]; rfl
  · have hl : AsgOk (ρC w y b s o n) ((.eq (.var 920) (L 0), false) :: inF) := fun p hp => by
      rcases List.mem_cons.1 hp with rfl | hp
      · show (err (goP y b s o) n 24 == 0) = false
        exact beq_eq_false_iff_ne.2 he
      · exact hF p hp
    rw [if_neg he] at hE
    refine (run_CR (countBadR _) h hl hn hy).mono ?_
    rintro v' w' ⟨⟨β', v1, v2, v3, v4, e1, rfl, r1, r2, r3, r4⟩, hw⟩
    refine ⟨?_, hw⟩
    have r3' : v3 = .int .i64 ((E.var 921).val β'.env) := r3
    rw [e1] at r3'
    rw [cB, cS, cI, if_neg (by omega), if_neg (by omega), if_pos hE, hE, r3', show v1 = vi 0 from r1, show v2 = vi 0 from r2, show v4 = vi _ from r4]; rfl
end

/-! ### as a primitive -/
def argC : List V → Option (E × E × Nat × E × E)
  | [.a (.c x), .a (.c z), .a (.c (.ot k o n))] => match toE x, toE z with
    | some (.i64, a), some (.i64, b) => some (a, b, k, o, n)
    | _, _ => none
  | _ => none
def cntL (e : E × E × Nat × E × E) : List E := [e.1, e.2.1, L (e.2.2.1 : Nat), e.2.2.2.1, e.2.2.2.2]
def ansC (e : E × E × Nat × E × E) : V := .tup [.agg [syC (appE 20 (cntL e)), syC (appE 21 (cntL e))], .c (syC (appE 22 (cntL e))), .c (syC (appE 23 (cntL e)))]
def pC (_ : Nat) (args : List V) (st : St) : Option (V × St) := (argC args).map fun e => (ansC e, st)

/-- The symbols of a count. -/
structure Cnt (g : Nat → List Int → Int) : Prop where
  b : ∀ (a s : Int) (k : Nat) (o n : Int), g 20 [a, s, (k : Int), o, n] = cB (fun j => g (1000 + k) [j]) a s o n
  s : ∀ (a s : Int) (k : Nat) (o n : Int), g 21 [a, s, (k : Int), o, n] = cS (fun j => g (1000 + k) [j]) a s o n
  i : ∀ (a s : Int) (k : Nat) (o n : Int), g 22 [a, s, (k : Int), o, n] = cI (fun j => g (1000 + k) [j]) a s o n
  e : ∀ (a s : Int) (k : Nat) (o n : Int), g 23 [a, s, (k : Int), o, n] = cE (fun j => g (1000 + k) [j]) a s o n

theorem pokC {q : FuncId → Option PT} {g : Nat → List Int → Int} {d : Nat → Option DT} {o : Nat → Option (List C)} {B f : Nat} (hf : f = 43 ∨ f = 44) (hg : Cnt g) : POk (cxW q g d o) B f pC := by
  intro fl β st w args args' v st' hi hfl ha hpv
  have hL : Laid w := laid_base (cx' := cxW q g d o) rfl hi
  have hfn : β.env.f = g := hi.facts.fns
  simp only [pC, Option.map_eq_some_iff, Prod.mk.injEq] at hpv
  obtain ⟨e, he, rfl, rfl⟩ := hpv
  unfold argC at he
  split at he
  case h_2 => cases he
  rename_i x z k eo en
  split at he
  case h_2 => cases he
  rename_i a b hx hz
  simp only [Option.some.injEq] at he; subst he
  obtain ⟨al⟩ := args'
  match al, ha with
  | [u1, u2, u3], ha =>
    obtain ⟨r1, r2, ⟨l, rfl, hn, hy⟩, _⟩ := ha
    have e1 : u1 = vi (a.val β.env) := toE_rel r1 hx
    have e2 : u2 = vi (b.val β.env) := toE_rel r2 hz
    subst e1 e2
    have hv : VRel β (ansC (a, b, k, eo, en)) (.tuple #[.agg #[vi (cB (fun j => β.env.f (1000 + k) [j]) (a.val β.env) (b.val β.env) (eo.val β.env) (en.val β.env)), vi (cS (fun j => β.env.f (1000 + k) [j]) (a.val β.env) (b.val β.env) (eo.val β.env) (en.val β.env))], vi (cI (fun j => β.env.f (1000 + k) [j]) (a.val β.env) (b.val β.env) (eo.val β.env) (en.val β.env)), vi (cE (fun j => β.env.f (1000 + k) [j]) (a.val β.env) (b.val β.env) (eo.val β.env) (en.val β.env))]) := by
      refine ⟨_, rfl, ⟨_, rfl, ⟨?_, ?_, trivial⟩, fun x hx => ?_⟩, ?_, ?_, trivial⟩
      · exact ansI_rel (by rw [hfn]; exact hg.b _ _ _ _ _)
      · exact ansI_rel (by rw [hfn]; exact hg.s _ _ _ _ _)
      · simp at hx; rcases hx with rfl | rfl <;> rfl
      · exact ansI_rel (by rw [hfn]; exact hg.i _ _ _ _ _)
      · exact ansI_rel (by rw [hfn]; exact hg.e _ _ _ _ _)
    rcases hf with rfl | rfl
    · exact prim_kept hi hv (count_ret _ _ _ _ _ l w hL hn hy)
    · exact prim_kept hi hv (countR_ret _ _ _ _ _ l w hL hn hy)
end Go.Proofs.Tryz.Cn
