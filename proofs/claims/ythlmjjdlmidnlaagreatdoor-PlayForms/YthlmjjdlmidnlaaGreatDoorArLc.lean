/- On the seat of the open Play statements: PlayForms returns true, and what was in memory is as it was. -/
import Derived.Test.YthlmjjdlmidnlaaGreatDoorArL1
namespace Go.Proofs.Tryz
open Go Go.Am
set_option maxRecDepth 100000

section
variable {w : World} {y0 y1 : Int → Int} {yo yn eo en lx ml : Int} {d : Nat → MvD} {k : Option Nat} {b0 o0 : Nat}

/-- A move's cells and its values. -/
theorem mvC_rel {i : Nat} {sv bv : Value} (hi : i < 9) (hs : IsStr sv (d i).y (d i).so (d i).sn) (hb : IsInts w bv (d i).t (d i).bo (d i).bn) :
    ARel { m := fun _ => none, env := ρP w y0 y1 yo yn eo en lx ml d k b0 o0 } (.agg (mvC i)) (.agg #[vi (d i).fr, vi (d i).to, .bool (decide ((d i).x ≠ 0)), sv, bv]) := by
  have hv : ∀ j, j < 10 → (pv i j).val (ρP w y0 y1 yo yn eo en lx ml d k b0 o0) = compM (d i) j := fun j hj => by
    show vP y0 y1 yo yn eo en lx ml d k (10 + 10 * i + j) = _
    unfold vP
    rw [if_pos (by omega)]; exact bvP_pv _ _ hj
  have s1 : scal sv = true := by obtain ⟨l, rfl, _⟩ := hs; rfl
  have s2 : scal bv = true := by obtain ⟨a, m, c, rfl, _⟩ := hb; rfl
  refine ⟨_, rfl, ⟨?_, ?_, ?_, ot_rel (y := (d i).y) ?_ fun j => ?_, ost_rel (w := w) (t := (d i).t) ?_ rfl fun j => ?_, trivial⟩, fun z hz => ?_⟩
  · show vi (d i).fr = Value.int .i64 ((pv i 0).val _)
    rw [hv 0 (by omega)]; rfl
  · show vi (d i).to = Value.int .i64 ((pv i 1).val _)
    rw [hv 1 (by omega)]; rfl
  · show _ = Value.bool (decide ((pv i 2).val _ ≠ 0))
    rw [hv 2 (by omega)]; rfl
  · show IsStr sv (d i).y ((pv i 3).val (ρP w y0 y1 yo yn eo en lx ml d k b0 o0)) ((pv i 4).val (ρP w y0 y1 yo yn eo en lx ml d k b0 o0))
    rw [hv 3 (by omega), hv 4 (by omega)]; exact hs
  · show fG (yP y0 y1 d) (tP' d) (1000 + (2 + i)) [j] = _
    rw [fG_y, bs_y (by omega)]
    show (if 2 + i = 0 then y0 else if 2 + i = 1 then y1 else (d (2 + i - 2)).y) j = _
    rw [if_neg (by omega), if_neg (by omega), show 2 + i - 2 = i by omega]
  · show IsInts w bv (d i).t ((pv i 5).val (ρP w y0 y1 yo yn eo en lx ml d k b0 o0)) ((pv i 6).val (ρP w y0 y1 yo yn eo en lx ml d k b0 o0))
    rw [hv 5 (by omega), hv 6 (by omega)]; exact hb
  · show fG (yP y0 y1 d) (tP' d) (2000 + i) [j] = _
    rw [fG_t, bs_t]; rfl
  · simp at hz
    rcases hz with rfl | rfl | rfl | rfl | rfl
    · rfl
    · rfl
    · rfl
    · exact s1
    · exact s2

theorem playC_rel {pvv ev mv : Value} (hp : IsStr pvv y0 yo yn) (he : IsStr ev y1 eo en) (hm : CRel { m := fun _ => none, env := ρP w y0 y1 yo yn eo en lx ml d k b0 o0 } (moveSl k) mv) (hms : scal mv = true) :
    ARel { m := fun _ => none, env := ρP w y0 y1 yo yn eo en lx ml d k b0 o0 } (.agg (playC k)) (.agg #[pvv, ev, .bool (decide (lx ≠ 0)), mv]) := by
  have hs1 : scal pvv = true := by obtain ⟨l, rfl, _⟩ := hp; rfl
  have hs2 : scal ev = true := by obtain ⟨l, rfl, _⟩ := he; rfl
  have lt : ∀ i, i < 6 → (vE i).val (ρP w y0 y1 yo yn eo en lx ml d k b0 o0) = [yo, yn, eo, en, lx, ml].getD i 0 := fun i hi => by
    show vP y0 y1 yo yn eo en lx ml d k i = _
    unfold vP bvP
    rw [if_pos (by omega), if_pos (by omega)]
  refine ⟨_, rfl, ⟨ot_rel (y := y0) ?_ fun j => ?_, ot_rel (y := y1) ?_ fun j => ?_, rfl, hm, trivial⟩, fun z hz => ?_⟩
  · show IsStr pvv y0 ((vE 0).val _) ((vE 1).val _)
    rw [lt 0 (by omega), lt 1 (by omega)]; exact hp
  · show fG (yP y0 y1 d) (tP' d) (1000 + 0) [j] = _
    rw [fG_y, bs_y (by omega)]; rfl
  · show IsStr ev y1 ((vE 2).val _) ((vE 3).val _)
    rw [lt 2 (by omega), lt 3 (by omega)]; exact he
  · show fG (yP y0 y1 d) (tP' d) (1000 + 1) [j] = _
    rw [fG_y, bs_y (by omega)]; rfl
  · simp at hz
    rcases hz with rfl | rfl | rfl | rfl
    · exact hs1
    · exact hs2
    · rfl
    · exact hms

/-- The rows that are handed. -/
theorem rows_rel (hkd : k.getD 0 ≤ 8) (hr : ∀ i, i < k.getD 0 → IsMv w (cellsAt w b0 (o0 + 5 * i) 5) (d i)) :
    ∀ r l, rowsP k r = some l → ∀ j c, l[j]? = some c → ∃ v, w.cell? ⟨((ρP w y0 y1 yo yn eo en lx ml d k b0 o0).out r).1, ((ρP w y0 y1 yo yn eo en lx ml d k b0 o0).out r).2 + j, none⟩ = some v ∧ CRel { m := fun _ => none, env := ρP w y0 y1 yo yn eo en lx ml d k b0 o0 } c v ∧ scal v = true := by
  intro r l hrl j c hj
  unfold rowsP at hrl
  cases h9 : Nat.beq r 9 with
  | false => rw [h9] at hrl; cases hrl
  | true =>
    rw [h9] at hrl
    simp only [cond_true, Option.some.injEq] at hrl; subst hrl
    obtain ⟨i, j', e1, e2, e3, e4⟩ := rowC_get _ _ _ _ hj
    rw [Nat.zero_add] at e4
    obtain ⟨v, q1, q2, q3⟩ := row_rel (y0 := y0) (y1 := y1) (yo := yo) (yn := yn) (eo := eo) (en := en) (lx := lx) (ml := ml) (k := k) (o0 := o0) (by omega) e2 e4 (hr i e3)
    refine ⟨v, ?_, q2, q3⟩
    show w.cell? ⟨b0, o0 + j, none⟩ = some v
    rw [e1, ← Nat.add_assoc]; exact q1

theorem tokF (y t : Nat → Int → Int) (k : Option Nat) (B : Nat) : TOk (cxF k (fG y t)) B (tLf k) :=
  (((((tokBase (tLf k) (fG y t) noDefs (rowsP k)).add (pokMv (.inr rfl) mv40)).add (pokMv (.inl rfl) mv40)).add (pokPl (.inr rfl))).add (pokPl (.inl rfl))).add (pokTrue fun _ h => awake h)

theorem run_F {l0 : Asg} {pvv ev mv sv bv : Value} (hk : runF k (gOf y0 y1 d) l0 = true) (h : Laid w) (hkd : k.getD 0 ≤ 8) (hl : AsgOk (ρP w y0 y1 yo yn eo en lx ml d k b0 o0) l0)
    (hp : IsStr pvv y0 yo yn) (he : IsStr ev y1 eo en) (hm : CRel { m := fun _ => none, env := ρP w y0 y1 yo yn eo en lx ml d k b0 o0 } (moveSl k) mv) (hms : scal mv = true)
    (hr : ∀ i, i < k.getD 0 → IsMv w (cellsAt w b0 (o0 + 5 * i) 5) (d i)) (hs : IsStr sv (d 8).y (d 8).so (d 8).sn) (hb : IsInts w bv (d 8).t (d 8).bo (d 8).bn) :
    CallRet prog 3 #[.agg #[pvv, ev, .bool (decide (lx ≠ 0)), mv], .agg #[vi (d 8).fr, vi (d 8).to, .bool (decide ((d 8).x ≠ 0)), sv, bv]] w fun v' w' => v' = .bool true ∧ Kept w w' := by
  have hi : Inv (cxF k (gOf y0 y1 d)) w.heap.size { m := fun _ => none, env := ρP w y0 y1 yo yn eo en lx ml d k b0 o0 } ⟨.nil, 0⟩ w := inv0 _ rfl rfl (fun m x hx => by cases hx) h (rows_rel hkd hr)
  have ha : All2 (VRel { m := fun _ => none, env := ρP w y0 y1 yo yn eo en lx ml d k b0 o0 }) (argsF k) (#[.agg #[pvv, ev, .bool (decide (lx ≠ 0)), mv], .agg #[vi (d 8).fr, vi (d 8).to, .bool (decide ((d 8).x ≠ 0)), sv, bv]] : Array Value).toList :=
    ⟨playC_rel hp he hm hms, mvC_rel (by omega) hs hb, trivial⟩
  obtain ⟨l', h1, h2⟩ := symL (c := cxF k (gOf y0 y1 d)) (K := fun _ v _ => isTrue v) (tl := noTails) (ann := noAnn) (n := 200) (m := 40) cxWOk (tokF _ _ _ _) rfl hk hl (Nat.le_refl _) hi ha
  refine h2.mono ?_
  rintro v' w' ⟨v, st', β', q1, q2, q3⟩
  exact ⟨isTrue_rel q1 q2, Kept.ofNil q3⟩
end

theorem forms_law {w : World} {y0 y1 : Int → Int} {yo yn eo en lx : Int} {d : Nat → MvD} {n : Nat} {m : MvD} {pvv ev mv sv bv : Value} (h : Laid w) (hp : IsStr pvv y0 yo yn) (he : IsStr ev y1 eo en) (hm : IsMoves w mv d n)
    (hs : IsStr sv m.y m.so m.sn) (hb : IsInts w bv m.t m.bo m.bn) :
    CallRet prog 3 #[.agg #[pvv, ev, .bool (decide (lx ≠ 0)), mv], .agg #[vi m.fr, vi m.to, .bool (decide (m.x ≠ 0)), sv, bv]] w fun v' w' => v' = .bool true ∧ Kept w w' := by
  have hms : scal mv = true := by obtain ⟨a, c, rfl, _⟩ := hm; rfl
  by_cases h6 : n ≤ 6
  case neg =>
    have hslx : CRel { m := fun _ => none, env := ρP w y0 y1 yo yn eo en lx n (fun _ => m) none 0 0 } (moveSl none) mv := by
      obtain ⟨a, c, rfl, _⟩ := hm
      exact ⟨a, n, c, rfl, rfl⟩
    exact run_F (lx := lx) (ml := n) (d := fun _ => m) (k := none) (b0 := 0) (o0 := 0) (runFn _) h (by simp) (asC (h_nle (by show ¬ (n : Int) ≤ 6; omega)) asN) hp he hslx hms (fun i hi => by simp at hi) hs hb
  obtain ⟨a, c, rfl, hc, hrow⟩ := hm
  let d' : Nat → MvD := fun i => if i = 8 then m else d i
  have place : ∃ b0 o0 : Nat, CRel { m := fun _ => none, env := ρP w y0 y1 yo yn eo en lx 0 d' (some n) b0 o0 } (moveSl (some n)) (.slice a n c) ∧ ∀ i, i < n → IsMv w (cellsAt w b0 (o0 + 5 * i) 5) (d' i) := by
    cases n with
    | zero => exact ⟨0, 0, ⟨a, 0, c, rfl, rfl⟩, fun i hi => by omega⟩
    | succ n =>
      obtain ⟨b, off, rfl, hi⟩ := hrow (by omega)
      refine ⟨b, off, ⟨c, hc, rfl⟩, fun i hin => ?_⟩
      show IsMv w _ (if i = 8 then m else d i)
      rw [if_neg (by omega)]; exact hi i hin
  obtain ⟨b0, o0, p1, p2⟩ := place
  have fin : runF (some n) (gOf y0 y1 d') [] = true → CallRet prog 3 #[.agg #[pvv, ev, .bool (decide (lx ≠ 0)), .slice a n c], .agg #[vi m.fr, vi m.to, .bool (decide (m.x ≠ 0)), sv, bv]] w fun v' w' => v' = .bool true ∧ Kept w w' := fun hk =>
    run_F (lx := lx) (ml := 0) (d := d') (k := some n) (b0 := b0) (o0 := o0) hk h (by simp; omega) asN hp he p1 rfl p2 hs hb
  have hn : n = 0 ∨ n = 1 ∨ n = 2 ∨ n = 3 ∨ n = 4 ∨ n = 5 ∨ n = 6 := by omega
  rcases hn with rfl | rfl | rfl | rfl | rfl | rfl | rfl
  · exact fin (runF0 _)
  · exact fin (runF1 _)
  · exact fin (runF2 _)
  · exact fin (runF3 _)
  · exact fin (runF4 _)
  · exact fin (runF5 _)
  · exact fin (runF6 _)
end Go.Proofs.Tryz
