/- On the seat of the open Play statements: a move, checked: the program and the reference answer alike. -/
import Derived.Test.YthlmjjdlmidnlaaGreatDoorArT
import Derived.Test.YthlmjjdlmidnlaaGreatDoorAmGcu
namespace Go.Proofs.Tryz
open Go Go.Am Go.Gc
set_option maxRecDepth 100000

/-- What the check of a move answers. -/
def mvV (fr to x : Int) (y : Int → Int) (so sn : Int) (t : Int → Int) (bo bn : Int) : Int := moveR.eval (envV [fr, to, x, so, sn, bo, bn] (fM y t))

theorem ev_lf' {ρ : Env} (n : Int) : (dLf n).eval ρ = n := (rfl)
theorem val_L' {ρ : Env} (n : Int) : (L n).val ρ = n := (rfl)

section
variable {fr to x so sn bo bn : Int} {y t : Int → Int}
theorem mv_fr : mFr.val (envV [fr, to, x, so, sn, bo, bn] (fM y t)) = fr := (rfl)
theorem mv_to : mTo.val (envV [fr, to, x, so, sn, bo, bn] (fM y t)) = to := (rfl)
theorem mv_ou : mOu.val (envV [fr, to, x, so, sn, bo, bn] (fM y t)) = x := (rfl)
theorem mv_sn : mSn.val (envV [fr, to, x, so, sn, bo, bn] (fM y t)) = sn := (rfl)
theorem mv_by : mBy.val (envV [fr, to, x, so, sn, bo, bn] (fM y t)) = y (so + 0) := (rfl)
theorem mv_tch : mTch.val (envV [fr, to, x, so, sn, bo, bn] (fM y t)) = tchV x t bo bn := by
  show tchV x (fun j => if (0 : Int) = 0 then t j else 0) bo bn = _
  simp only [if_true]
theorem mv_far : mFar.val (envV [fr, to, x, so, sn, bo, bn] (fM y t)) = IntKind.i64.wrap (to - fr) := (rfl)
theorem mv_f1 : (wE (.add mFr (L 1))).val (envV [fr, to, x, so, sn, bo, bn] (fM y t)) = IntKind.i64.wrap (fr + 1) := (rfl)

theorem mv_eq : moveP.eval (envV [fr, to, x, so, sn, bo, bn] (fM y t)) = mvV fr to x y so sn t bo bn := by
  unfold mvV
  simp only [moveP, moveR, range34, wayP, wayR, safeW, outsW, farD, tchD, ev_le, ev_eq, ev_leaf, ev_lf', val_L', mv_fr, mv_to, mv_ou, mv_sn, mv_by, mv_tch, mv_far]
  have hT : (if tchV x t bo bn = 0 then (0 : Int) else tchV x t bo bn) = tchV x t bo bn := by split <;> omega
  simp only [hT]
  by_cases h1 : 0 ≤ fr
  case neg => simp only [if_neg h1]
  by_cases h2 : fr ≤ 3
  case neg => simp only [if_pos h1, if_neg h2]
  by_cases h3 : 1 ≤ to
  case neg => simp only [if_pos h1, if_pos h2, if_neg h3]
  by_cases h4 : to ≤ 4
  case neg => simp only [if_pos h1, if_pos h2, if_pos h3, if_neg h4]
  simp only [if_pos h1, if_pos h2, if_pos h3, if_pos h4]
  rw [show IntKind.i64.wrap (to - fr) = to - fr from wrap_id (by omega) (by omega)]
  have hw1 : IntKind.i64.wrap (fr + 1) = fr + 1 := wrap_id (by omega) (by omega)
  by_cases h5 : sn = 1
  case neg => simp only [if_neg h5]
  simp only [if_pos h5]
  by_cases h6 : x = 0
  · simp only [if_pos h6]
    by_cases b98 : y (so + 0) = 98
    · simp only [b98, safeR, if_true, ev_le, ev_leaf, ev_lf', val_L', mv_fr, mv_to, mv_tch, Int.reduceEq, or_true, true_or, or_self, if_false]
      repeat' split
      all_goals first | rfl | omega
    simp only [if_neg b98]
    by_cases b97 : y (so + 0) = 97
    · simp only [b97, safeR, if_true, ev_le, ev_leaf, ev_lf', val_L', mv_fr, mv_to, mv_tch, Int.reduceEq, or_true, true_or, or_self, if_false]
      repeat' split
      all_goals first | rfl | omega
    simp only [if_neg b97]
    by_cases b115 : y (so + 0) = 115
    · simp only [b115, safeR, if_true, ev_le, ev_leaf, ev_lf', val_L', mv_fr, mv_to, mv_tch, Int.reduceEq, or_true, true_or, or_self, if_false]
      repeat' split
      all_goals first | rfl | omega
    simp only [if_neg b115]
    by_cases b112 : y (so + 0) = 112
    · simp only [b112, safeR, if_true, ev_le, ev_leaf, ev_lf', val_L', mv_fr, mv_to, mv_tch, Int.reduceEq, or_true, or_self, if_false]
      repeat' split
      all_goals first | rfl | omega
    simp only [if_neg b112]
    by_cases b107 : y (so + 0) = 107
    · simp only [b107, safeR, if_true, ev_le, ev_leaf, ev_lf', val_L', mv_fr, mv_to, mv_tch, Int.reduceEq, or_true, or_self, if_false]
      repeat' split
      all_goals first | rfl | omega
    simp only [if_neg b107]
    by_cases b116 : y (so + 0) = 116
    · simp only [b116, safeR, if_true, ev_le, ev_leaf, ev_lf', val_L', mv_fr, mv_to, mv_tch, Int.reduceEq, or_self, if_false]
      repeat' split
      all_goals first | rfl | omega
    simp only [if_neg b116]
    by_cases b111 : y (so + 0) = 111
    · simp only [b111, safeR, if_true, ev_le, ev_leaf, ev_lf', val_L', mv_fr, mv_to, mv_tch, Int.reduceEq, or_self, if_false]
      repeat' split
      all_goals first | rfl | omega
    simp only [if_neg b111]
  · simp only [if_neg h6]
    by_cases b102 : y (so + 0) = 102
    · simp only [b102, outsR, if_true, goodD, ev_le, ev_eq, ev_leaf, ev_lf', val_L', mv_fr, mv_to, mv_tch, mv_f1, hw1, Int.reduceEq, if_false]
      repeat' split
      all_goals first | rfl | omega
    simp only [if_neg b102]
    by_cases b103 : y (so + 0) = 103
    · simp only [b103, outsR, if_true, goodD, ev_le, ev_eq, ev_leaf, ev_lf', val_L', mv_fr, mv_to, mv_tch, Int.reduceEq, if_false]
      repeat' split
      all_goals first | rfl | omega
    simp only [if_neg b103]
    by_cases b99 : y (so + 0) = 99
    · simp only [b99, outsR, if_true, goodD, ev_le, ev_eq, ev_leaf, ev_lf', val_L', mv_fr, mv_to, mv_tch, Int.reduceEq, if_false]
      repeat' split
      all_goals first | rfl | omega
    simp only [if_neg b99]
    by_cases b100 : y (so + 0) = 100
    · simp only [b100, outsR, if_true, goodD, ev_le, ev_eq, ev_leaf, ev_lf', val_L', mv_fr, mv_to, mv_tch, Int.reduceEq, if_false]
      repeat' split
      all_goals first | rfl | omega
    simp only [if_neg b100]
    by_cases b107 : y (so + 0) = 107
    · simp only [b107, outsR, if_true, goodD, ev_le, ev_eq, ev_leaf, ev_lf', val_L', mv_fr, mv_to, mv_tch, Int.reduceEq, if_false]
      repeat' split
      all_goals first | rfl | omega
    simp only [if_neg b107]
    by_cases b110 : y (so + 0) = 110
    · simp only [b110, outsR, if_true, goodD, ev_le, ev_eq, ev_leaf, ev_lf', val_L', mv_fr, mv_to, mv_tch, Int.reduceEq, if_false]
      repeat' split
      all_goals first | rfl | omega
    simp only [if_neg b110]
    by_cases b121 : y (so + 0) = 121
    · simp only [b121, outsR, if_true, goodD, ev_eq, ev_leaf, ev_lf', val_L', mv_fr, mv_to, mv_tch, Int.reduceEq, if_false]
      repeat' split
      all_goals first | rfl | omega
    simp only [if_neg b121]
end

theorem moveArgs {w : World} {fr to x so sn bo bn : Int} {y t : Int → Int} {sv bv : Value} (hs : IsStr sv y so sn) (hb : IsInts w bv t bo bn) :
    All2 (VRel (β0 w [fr, to, x, so, sn, bo, bn] (fM y t))) argsM (#[.agg #[vi fr, vi to, .bool (decide (x ≠ 0)), sv, bv]] : Array Value).toList := by
  have h1 : scal sv = true := by obtain ⟨l, rfl, _⟩ := hs; rfl
  have h2 : scal bv = true := by obtain ⟨a, m, c, rfl, _⟩ := hb; rfl
  refine ⟨⟨_, rfl, ⟨rfl, rfl, rfl, ot_rel (k := 0) (oe := mSo) (ne := mSn) hs (fun _ => rfl), ost_rel (k := 0) (oe := mBo) (ne := mBn) hb rfl (fun _ => rfl), trivial⟩, fun z hz => ?_⟩, trivial⟩
  simp at hz
  rcases hz with rfl | rfl | rfl | rfl | rfl
  · rfl
  · rfl
  · rfl
  · exact h1
  · exact h2

theorem fM30 (y t : Int → Int) (x : Int) (k : Nat) (o n : Int) : fM y t 30 [x, (k : Int), o, n] = tchV x (fun j => fM y t (2000 + k) [j]) o n := by
  have e : (fun j => fM y t (2000 + k) [j]) = fun j => if (k : Int) = 0 then t j else 0 := by
    funext j
    unfold fM
    cases k with
    | zero => rfl
    | succ k =>
      rw [if_neg (by omega), if_neg (by omega), if_neg (by omega)]
      split
      · rename_i h _; omega
      · rfl
  rw [e]; rfl
theorem tokM (y t : Int → Int) (B : Nat) : TOk (cxM (fM y t)) B tM := ((tokBase tM (fM y t) noDefs noRows).add (pokTR (fM30 y t))).add (pokT (fM30 y t))

section
variable {fr to x so sn bo bn : Int} {y t : Int → Int} {sv bv : Value} {w : World}

theorem move_of {f : Nat} {d : DT} (h : Laid w) (hs : IsStr sv y so sn) (hb : IsInts w bv t bo bn) (r0 : runM (fM y t) f [(.eq mSn (L 1), false)] d = true) (r1 : runM (fM y t) f [(.eq mSn (L 1), true), (.eq mOu (L 0), true)] d = true)
    (r2 : runM (fM y t) f [(.eq mSn (L 1), true), (.eq mOu (L 0), false)] d = true) :
    CallRet prog f #[.agg #[vi fr, vi to, .bool (decide (x ≠ 0)), sv, bv]] w fun v' w' => v' = vi (d.eval (envV [fr, to, x, so, sn, bo, bn] (fM y t))) ∧ Kept w w' := by
  by_cases h1 : sn = 1
  · by_cases h2 : x = 0
    · exact run_T (vs := [fr, to, x, so, sn, bo, bn]) (tokM y t) r1 h (asC (h_eq h1) (asC (h_eq h2) asN)) (moveArgs hs hb)
    · exact run_T (vs := [fr, to, x, so, sn, bo, bn]) (tokM y t) r2 h (asC (h_eq h1) (asC (h_ne h2) asN)) (moveArgs hs hb)
  · exact run_T (vs := [fr, to, x, so, sn, bo, bn]) (tokM y t) r0 h (asC (h_ne h1) asN) (moveArgs hs hb)

theorem move_ret (h : Laid w) (hs : IsStr sv y so sn) (hb : IsInts w bv t bo bn) :
    CallRet prog 18 #[.agg #[vi fr, vi to, .bool (decide (x ≠ 0)), sv, bv]] w fun v' w' => v' = vi (mvV fr to x y so sn t bo bn) ∧ Kept w w' := by
  have := move_of (fr := fr) (to := to) (x := x) h hs hb (runMove0 _) (runMove1 _) (runMove2 _)
  rwa [mv_eq] at this
theorem moveR_ret (h : Laid w) (hs : IsStr sv y so sn) (hb : IsInts w bv t bo bn) :
    CallRet prog 20 #[.agg #[vi fr, vi to, .bool (decide (x ≠ 0)), sv, bv]] w fun v' w' => v' = vi (mvV fr to x y so sn t bo bn) ∧ Kept w w' :=
  move_of (fr := fr) (to := to) (x := x) h hs hb (runMoveR0 _) (runMoveR1 _) (runMoveR2 _)
end

/-! ### as a primitive -/
structure MvE where
  fr : E
  to : E
  x : E
  k : Nat
  so : E
  sn : E
  kb : Nat
  bo : E
  bn : E
def mvOf : List C → Option MvE
  | [a, b, .sb x, .ot k so sn, .ost kb bo bn] => match toE a, toE b with
    | some (.i64, a), some (.i64, b) => some ⟨a, b, x, k, so, sn, kb, bo, bn⟩
    | _, _ => none
  | _ => none
def mvApp (m : MvE) : E := appE 40 [m.fr, m.to, m.x, L (m.k : Nat), m.so, m.sn, L (m.kb : Nat), m.bo, m.bn]
def argMv : List V → Option MvE
  | [.a (.agg l)] => mvOf l
  | _ => none
def pMv (_ : Nat) (args : List V) (st : St) : Option (V × St) := (argMv args).map fun m => (sE (mvApp m), st)

/-- What a move's cells stand for. -/
theorem mvOf_rel {cx' : Cx} {B : Nat} {st : St} {w : World} {β : Be} (hi : Inv cx' B β st w) {l : List C} {m : MvE} (h : mvOf l = some m) {vs : List Value} (hr : All2 (CRel β) l vs) :
    ∃ sv bv, vs = [vi (m.fr.val β.env), vi (m.to.val β.env), .bool (decide (m.x.val β.env ≠ 0)), sv, bv] ∧ IsStr sv (fun j => β.env.f (1000 + m.k) [j]) (m.so.val β.env) (m.sn.val β.env) ∧ IsInts w bv (fun j => β.env.f (2000 + m.kb) [j]) (m.bo.val β.env) (m.bn.val β.env) := by
  unfold mvOf at h
  split at h
  case h_2 => cases h
  rename_i a b x k so sn kb bo bn
  split at h
  case h_2 => cases h
  rename_i ea eb ha hb
  simp only [Option.some.injEq] at h; subst h
  match vs, hr with
  | [u1, u2, u3, u4, u5], ⟨r1, r2, r3, r4, r5, _⟩ =>
    have e1 := toE_rel r1 ha
    have e2 := toE_rel r2 hb
    have e3 : u3 = .bool (decide (x.val β.env ≠ 0)) := r3
    subst e1 e2 e3
    exact ⟨u4, u5, rfl, str_of r4, ints_of hi r5⟩

section
variable {q : FuncId → Option PT} {g : Nat → List Int → Int} {d : Nat → Option DT} {o : Nat → Option (List C)} {B : Nat}
/-- The symbol of a move's check. -/
def Mv40 (g : Nat → List Int → Int) : Prop := ∀ (a b x : Int) (k : Nat) (so sn : Int) (kb : Nat) (bo bn : Int), g 40 [a, b, x, (k : Int), so, sn, (kb : Int), bo, bn] = mvV a b x (fun j => g (1000 + k) [j]) so sn (fun j => g (2000 + kb) [j]) bo bn

theorem pokMv {f : Nat} (hf : f = 18 ∨ f = 20) (hg : Mv40 g) : POk (cxW q g d o) B f pMv := by
  intro fl β st w args args' v st' hi hfl ha hpv
  have hL : Laid w := laid_base (cx' := cxW q g d o) rfl hi
  have hfn : β.env.f = g := hi.facts.fns
  simp only [pMv, Option.map_eq_some_iff, Prod.mk.injEq] at hpv
  obtain ⟨m, hm, rfl, rfl⟩ := hpv
  unfold argMv at hm
  split at hm
  case h_2 => cases hm
  rename_i l
  obtain ⟨al⟩ := args'
  match al, ha with
  | [v1], ha =>
    obtain ⟨⟨⟨cs⟩, rfl, hr, hs⟩, _⟩ := ha
    obtain ⟨sv, bv, rfl, h1, h2⟩ := mvOf_rel hi hm hr
    have hv : VRel β (sE (mvApp m)) (vi (mvV (m.fr.val β.env) (m.to.val β.env) (m.x.val β.env) (fun j => β.env.f (1000 + m.k) [j]) (m.so.val β.env) (m.sn.val β.env) (fun j => β.env.f (2000 + m.kb) [j]) (m.bo.val β.env) (m.bn.val β.env))) :=
      ansI_rel (by rw [hfn]; exact hg _ _ _ _ _ _ _ _ _)
    rcases hf with rfl | rfl
    · exact prim_kept hi hv (move_ret hL h1 h2)
    · exact prim_kept hi hv (moveR_ret hL h1 h2)
end
end Go.Proofs.Tryz
