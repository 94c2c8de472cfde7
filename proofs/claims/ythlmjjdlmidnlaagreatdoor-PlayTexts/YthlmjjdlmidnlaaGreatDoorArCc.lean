/- On the seat of the open Play statements: a play, checked by the program: what it answers. On the seat of the open Play statements: a play, checked by the program: its contract. -/
import Derived.Test.YthlmjjdlmidnlaaGreatDoorArC0
import Derived.Test.YthlmjjdlmidnlaaGreatDoorArC1
import Derived.Test.YthlmjjdlmidnlaaGreatDoorArC2
import Derived.Test.YthlmjjdlmidnlaaGreatDoorArC3
import Derived.Test.YthlmjjdlmidnlaaGreatDoorArE
namespace Go.Proofs.Tryz
open Go Go.Am
set_option maxRecDepth 100000

section
variable {w : World} {y0 y1 : Int → Int} {yo yn eo en lx ml : Int} {d : Nat → MvD} {k : Option Nat} {b0 o0 : Nat}

/-- The functions of a play's run. -/
abbrev gOf (y0 y1 : Int → Int) (d : Nat → MvD) : Nat → List Int → Int := fG (yP y0 y1 d) (tP' d)
def ρ0 (y0 y1 : Int → Int) (yo yn eo en lx ml : Int) (d : Nat → MvD) : Env := ⟨bvP [yo, yn, eo, en, lx, ml] d, gOf y0 y1 d, fun _ => (0, 0), fun _ _ => none⟩
def vP (y0 y1 : Int → Int) (yo yn eo en lx ml : Int) (d : Nat → MvD) (k : Option Nat) (m : Nat) : Int :=
  if m < 100 then bvP [yo, yn, eo, en, lx, ml] d m else if m < 125 then gP y0 yo yn (m - 100) else if m = 920 then errP (gP y0 yo yn) yn 24 else if m = 900 then (endD k).eval (ρ0 y0 y1 yo yn eo en lx ml d) else 0
def ρP (w : World) (y0 y1 : Int → Int) (yo yn eo en lx ml : Int) (d : Nat → MvD) (k : Option Nat) (b0 o0 : Nat) : Env := ⟨vP y0 y1 yo yn eo en lx ml d k, gOf y0 y1 d, fun _ => (b0, o0), memOf w⟩


theorem p_go {i : Nat} (hi : i < 25) : (sGo i).val (ρP w y0 y1 yo yn eo en lx ml d k b0 o0) = gP y0 yo yn i := by
  show vP y0 y1 yo yn eo en lx ml d k (100 + i) = _
  unfold vP
  rw [if_neg (by omega), if_pos (by omega), show 100 + i - 100 = i by omega]
theorem p_b (i : Nat) : (bP i).val (ρP w y0 y1 yo yn eo en lx ml d k b0 o0) = y0 (yo + i) := by
  unfold bP; rw [appE_val]
  show fG (yP y0 y1 d) (tP' d) (1000 + 0) [yo + (i : Int)] = _
  rw [fG_y, bs_y (by omega)]; rfl
theorem p_in (i : Nat) : (inP i).val (ρP w y0 y1 yo yn eo en lx ml d k b0 o0) = pin (y0 (yo + i)) := by
  unfold inP; rw [appE_val]
  show fG (yP y0 y1 d) (tP' d) 61 [(bP i).val (ρP w y0 y1 yo yn eo en lx ml d k b0 o0)] = _
  rw [fG_s (by omega), p_b]; rfl
theorem p_last : lastE.val (ρP w y0 y1 yo yn eo en lx ml d k b0 o0) = wl yn := (rfl)
theorem p_yN : yN.val (ρP w y0 y1 yo yn eo en lx ml d k b0 o0) = yn := (rfl)

theorem ev_dLast (i : Nat) : (dLast i).eval (ρP w y0 y1 yo yn eo en lx ml d k b0 o0) = if (i : Int) = wl yn then 1 else 0 := by
  unfold dLast; rw [ev_eq, p_last]; rfl
theorem ev_dGo : ∀ i, i < 25 → (dGo i).eval (ρP w y0 y1 yo yn eo en lx ml d k b0 o0) = gP y0 yo yn i
  | 0, _ => rfl
  | i + 1, h => by
    simp only [dGo, gP, ev_eq, ev_le, ev_dLast, ev_lf', val_L', p_go (show i < 25 by omega), p_b, p_in]
theorem ev_dErr : ∀ m, m ≤ 24 → (dErr m).eval (ρP w y0 y1 yo yn eo en lx ml d k b0 o0) = errP (gP y0 yo yn) yn m
  | 0, _ => rfl
  | m + 1, h => by
    simp only [dErr, errP, ev_le, ev_eq, ev_lf', val_L', p_yN, p_go (show 24 - m < 25 by omega)]
    rw [ev_dErr m (by omega)]

theorem low_end (hk : ∀ n, k = some n → n ≤ 4) : lowD (endD k) = true := by
  cases k with
  | none => rfl
  | some n =>
    have := hk n rfl
    have : n = 0 ∨ n = 1 ∨ n = 2 ∨ n = 3 ∨ n = 4 := by omega
    rcases this with rfl | rfl | rfl | rfl | rfl <;> rfl

theorem blt_t {a b : Nat} (h : Nat.blt a b = true) : a < b := by simpa [Nat.blt, Nat.ble_eq, Nat.succ_le_iff] using h
theorem blt_f {a b : Nat} (h : Nat.blt a b = false) : ¬ a < b := fun h' => by
  have : Nat.blt a b = true := by simp [Nat.blt, Nat.ble_eq]; omega
  rw [this] at h; cases h

theorem defP_ok (hk : ∀ n, k = some n → n ≤ 4) : ∀ m x, defP k m = some x → (ρP w y0 y1 yo yn eo en lx ml d k b0 o0).v m = x.eval (ρP w y0 y1 yo yn eo en lx ml d k b0 o0) := by
  intro m x hx
  show vP y0 y1 yo yn eo en lx ml d k m = _
  unfold defP at hx
  cases h1 : Nat.blt m 100 with
  | true => rw [h1] at hx; cases hx
  | false =>
  rw [h1] at hx
  simp only [cond_false] at hx
  have n1 := blt_f h1
  cases h2 : Nat.blt m 125 with
  | true =>
    rw [h2] at hx
    simp only [cond_true, Option.some.injEq] at hx; subst hx
    have n2 := blt_t h2
    rw [ev_dGo _ (by omega)]
    unfold vP
    rw [if_neg n1, if_pos n2]
  | false =>
  rw [h2] at hx
  simp only [cond_false] at hx
  have n2 := blt_f h2
  cases h3 : Nat.beq m 920 with
  | true =>
    rw [h3] at hx
    simp only [cond_true, Option.some.injEq] at hx; subst hx
    rw [ev_dErr 24 (by omega)]
    unfold vP
    rw [if_neg n1, if_neg n2, if_pos (Nat.eq_of_beq_eq_true h3)]
  | false =>
  rw [h3] at hx
  simp only [cond_false] at hx
  have n3 : m ≠ 920 := fun e => by rw [e] at h3; cases h3
  cases h4 : Nat.beq m 900 with
  | false => rw [h4] at hx; cases hx
  | true =>
    rw [h4] at hx
    simp only [cond_true, Option.some.injEq] at hx; subst hx
    unfold vP
    rw [if_neg n1, if_neg n2, if_neg n3, if_pos (Nat.eq_of_beq_eq_true h4)]
    refine @eval_low (ρ0 y0 y1 yo yn eo en lx ml d) (ρP w y0 y1 yo yn eo en lx ml d k b0 o0) (fun n hn => ?_) rfl _ (low_end hk)
    show bvP _ d n = vP y0 y1 yo yn eo en lx ml d k n
    unfold vP
    rw [if_pos hn]

/-! ### what the ends say -/
theorem z_pv (i j : Nat) (hj : j < 10) : (pv i j).val (ρ0 y0 y1 yo yn eo en lx ml d) = compM (d i) j := bvP_pv _ d hj
theorem z_mv (i : Nat) (hi : i < 900) : (mvA i).val (ρ0 y0 y1 yo yn eo en lx ml d) = (d i).check := by
  unfold mvA mvApp
  rw [appE_val]
  show fG (yP y0 y1 d) (tP' d) 40 [_, _, _, ((2 + i : Nat) : Int), _, _, ((i : Nat) : Int), _, _] = _
  rw [mv40]
  have e1 : (fun j => fG (yP y0 y1 d) (tP' d) (1000 + (2 + i)) [j]) = (d i).y := by
    funext j
    rw [fG_y, bs_y (by omega)]
    show (if 2 + i = 0 then y0 else if 2 + i = 1 then y1 else (d (2 + i - 2)).y) j = _
    rw [if_neg (by omega), if_neg (by omega), show 2 + i - 2 = i by omega]
  have e2 : (fun j => fG (yP y0 y1 d) (tP' d) (2000 + i) [j]) = (d i).t := by
    funext j
    rw [fG_t, bs_t]; rfl
  rw [e1, e2]
  simp only [mvE, z_pv i _ (show (0 : Nat) < 10 by omega), z_pv i _ (show (1 : Nat) < 10 by omega), z_pv i _ (show (2 : Nat) < 10 by omega), z_pv i _ (show (3 : Nat) < 10 by omega), z_pv i _ (show (4 : Nat) < 10 by omega), z_pv i _ (show (5 : Nat) < 10 by omega), z_pv i _ (show (6 : Nat) < 10 by omega)]
  rfl

theorem ev_mvs : ∀ n i, n + i < 900 → (mvsD n i).eval (ρ0 y0 y1 yo yn eo en lx ml d) = mvsV d n i
  | 0, _, _ => rfl
  | n + 1, 0, h => by
    simp only [mvsD, mvsV, ev_eq, ev_leaf, val_L', z_mv 0 (by omega), ev_mvs n 1 (by omega)]
    by_cases h1 : (d 0).check = 0
    · rw [if_pos h1, if_pos h1, if_neg (by omega)]
    · rw [if_neg h1, if_neg h1]
  | n + 1, i + 1, h => by
    simp only [mvsD, mvsV, ev_eq, ev_le, ev_lf', ev_leaf, val_L', z_mv (i + 1) (by omega), ev_mvs n (i + 2) (by omega), z_pv _ _ (show (0 : Nat) < 10 by omega)]
    by_cases h1 : (d (i + 1)).check = 0
    · rw [if_pos h1, if_pos h1]
      show (if (d i).fr ≤ (d (i + 1)).fr then (11 : Int) else _) = _
      by_cases h2 : (d i).fr ≤ (d (i + 1)).fr
      · rw [if_pos h2, if_pos ⟨by omega, h2⟩]
      · rw [if_neg h2, if_neg (fun q => h2 q.2)]
    · rw [if_neg h1, if_neg h1]

theorem idx_pos : ∀ (l : List UInt8) (c : UInt8), 0 ≤ Lib.indexByte l c ↔ c ∈ l
  | [], c => by simp [Lib.indexByte]
  | b :: l, c => by
    have ih := idx_pos l c
    have hge := Lib.indexByte_ge l c
    simp only [Lib.indexByte, List.mem_cons]
    by_cases h : b = c
    · subst h; simp
    · have e : (b == c) = false := by simpa using h
      rw [e]
      by_cases h2 : Lib.indexByte l c = -1
      · rw [h2]
        have : ¬ c ∈ l := fun q => by have := ih.2 q; omega
        simp [this, Ne.symm h]
      · have e2 : (Lib.indexByte l c == -1) = false := by simpa using h2
        simp only [e2]
        have h3 : c ∈ l := ih.1 (by omega)
        simp [h3]; omega

theorem z_evIn {c : Nat} (hc : c < 256) (he : y1 (eo + 0) = (c : Int)) : (0 ≤ evIn.val (ρ0 y0 y1 yo yn eo en lx ml d)) ↔ hasI [y1 (eo + 0), 75, 87, 72, 73, 88, 78, 89] = 1 := by
  have e : evIn.val (ρ0 y0 y1 yo yn eo en lx ml d) = Lib.indexByte [75, 87, 72, 73, 88, 78, 89] c.toUInt8 := by
    unfold evIn
    rw [appE_val]
    show fG (yP y0 y1 d) (tP' d) 62 ((eB :: bytesE [75, 87, 72, 73, 88, 78, 89]).map (E.val (ρ0 y0 y1 yo yn eo en lx ml d))) = _
    rw [fG_s (by omega), List.map_cons]
    show idxI (eB.val (ρ0 y0 y1 yo yn eo en lx ml d) :: (bytesE [75, 87, 72, 73, 88, 78, 89]).map (E.val (ρ0 y0 y1 yo yn eo en lx ml d))) = _
    simp only [idxI, bytesE_val]
    have : eB.val (ρ0 y0 y1 yo yn eo en lx ml d) = (c : Int) := by
      unfold eB; rw [appE_val, ← he]
      show fG (yP y0 y1 d) (tP' d) (1000 + 1) [eo + 0] = _
      rw [fG_y, bs_y (by omega)]; rfl
    rw [this]; rfl
  rw [e, idx_pos, he]
  have hb : ∀ x : Nat, x < 256 → (c.toUInt8 = x.toUInt8 ↔ (c : Int) = x) := fun x hx => by
    constructor
    · intro q
      have := congrArg UInt8.toNat q
      simp at this
      omega
    · intro q
      have : c = x := by omega
      rw [this]
  have k1 := hb 75 (by omega)
  have k2 := hb 87 (by omega)
  have k3 := hb 72 (by omega)
  have k4 := hb 73 (by omega)
  have k5 := hb 88 (by omega)
  have k6 := hb 78 (by omega)
  have k7 := hb 89 (by omega)
  have e8 : ∀ p : Prop, [Decidable p] → ((if p then (1 : Int) else 0) = 1 ↔ p) := fun p _ => by by_cases h : p <;> simp [h]
  simp only [hasI]
  rw [e8]
  simp only [List.mem_cons, List.not_mem_nil, or_false]
  exact or_congr k1 (or_congr k2 (or_congr k3 (or_congr k4 (or_congr k5 (or_congr k6 k7)))))
end
end Go.Proofs.Tryz

namespace Go.Proofs.Tryz
open Go Go.Am
set_option maxRecDepth 100000

section
variable {w : World} {y0 y1 : Int → Int} {yo yn eo en lx ml : Int} {d : Nat → MvD} {k : Option Nat} {b0 o0 : Nat}

theorem tokP (y t : Nat → Int → Int) (k : Option Nat) (B : Nat) : TOk (cxP k (fG y t)) B tP :=
  ((((tokBase tP (fG y t) (defP k) (rowsP k)).add (pokMv (.inr rfl) mv40)).add (pokMv (.inl rfl) mv40)).add (pokIdx fun l => by rw [fG_s (by omega)]; rfl)).add (pokRune fun x => by rw [fG_s (by omega)]; rfl)

/-- What a move's cells are, in a row that is handed. -/
theorem row_rel {i j : Nat} {c : C} {o : Nat} (hi : i < 9) (hj : j < 5) (hc : (mvC i)[j]? = some c) (hm : IsMv w (cellsAt w b0 o 5) (d i)) :
    ∃ v, w.cell? ⟨b0, o + j, none⟩ = some v ∧ CRel { m := fun _ => none, env := ρP w y0 y1 yo yn eo en lx ml d k b0 o0 } c v ∧ scal v = true := by
  obtain ⟨sv, bv, he, hs, hb⟩ := hm
  have hv : ∀ j, j < 10 → (pv i j).val (ρP w y0 y1 yo yn eo en lx ml d k b0 o0) = compM (d i) j := fun j hj => by
    show vP y0 y1 yo yn eo en lx ml d k (10 + 10 * i + j) = _
    unfold vP
    rw [if_pos (by omega)]; exact bvP_pv _ _ hj
  have hcell : ∀ j, j < 5 → some (w.cell? ⟨b0, o + j, none⟩) = [some (vi (d i).fr), some (vi (d i).to), some (.bool (decide ((d i).x ≠ 0))), some sv, some bv][j]? := fun j hj => by
    rw [← he, cellsAt_get 5 b0 o j hj]
  have hjj : j = 0 ∨ j = 1 ∨ j = 2 ∨ j = 3 ∨ j = 4 := by omega
  have g := hcell j hj
  rcases hjj with rfl | rfl | rfl | rfl | rfl <;> simp only [mvC, List.getElem?_cons_zero, List.getElem?_cons_succ, Option.some.injEq] at hc g <;> subst hc
  · refine ⟨_, g, ?_, rfl⟩
    show vi (d i).fr = Value.int .i64 ((pv i 0).val _)
    rw [hv 0 (by omega)]; rfl
  · refine ⟨_, g, ?_, rfl⟩
    show vi (d i).to = Value.int .i64 ((pv i 1).val _)
    rw [hv 1 (by omega)]; rfl
  · refine ⟨_, g, ?_, rfl⟩
    show _ = Value.bool (decide ((pv i 2).val _ ≠ 0))
    rw [hv 2 (by omega)]; rfl
  · refine ⟨_, g, ot_rel (y := (d i).y) ?_ fun j => ?_, ?_⟩
    · show IsStr sv (d i).y ((pv i 3).val (ρP w y0 y1 yo yn eo en lx ml d k b0 o0)) ((pv i 4).val (ρP w y0 y1 yo yn eo en lx ml d k b0 o0))
      rw [hv 3 (by omega), hv 4 (by omega)]; exact hs
    · show fG (yP y0 y1 d) (tP' d) (1000 + (2 + i)) [j] = _
      rw [fG_y, bs_y (by omega)]
      show (if 2 + i = 0 then y0 else if 2 + i = 1 then y1 else (d (2 + i - 2)).y) j = _
      rw [if_neg (by omega), if_neg (by omega), show 2 + i - 2 = i by omega]
    · obtain ⟨l, rfl, _⟩ := hs; rfl
  · refine ⟨_, g, ost_rel (w := w) (t := (d i).t) ?_ rfl fun j => ?_, ?_⟩
    · show IsInts w bv (d i).t ((pv i 5).val (ρP w y0 y1 yo yn eo en lx ml d k b0 o0)) ((pv i 6).val (ρP w y0 y1 yo yn eo en lx ml d k b0 o0))
      rw [hv 5 (by omega), hv 6 (by omega)]; exact hb
    · show fG (yP y0 y1 d) (tP' d) (2000 + i) [j] = _
      rw [fG_t, bs_t]; rfl
    · obtain ⟨a, m, c, rfl, _⟩ := hb; rfl

theorem run_C {o : Exit × Fr × St} {l0 : Asg} {c : C} {pvv ev mv : Value} (hk : runP k (gOf y0 y1 d) o l0 (isV c) = true) (h : Laid w) (hkn : ∀ n, k = some n → n ≤ 4) (hl : AsgOk (ρP w y0 y1 yo yn eo en lx ml d k b0 o0) l0)
    (hp : IsStr pvv y0 yo yn) (he : IsStr ev y1 eo en) (hm : CRel { m := fun _ => none, env := ρP w y0 y1 yo yn eo en lx ml d k b0 o0 } (moveSl k) mv) (hms : scal mv = true)
    (hr : ∀ i, i < k.getD 0 → IsMv w (cellsAt w b0 (o0 + 5 * i) 5) (d i)) :
    CallRet prog 15 #[.agg #[pvv, ev, .bool (decide (lx ≠ 0)), mv]] w fun v' w' => (∃ β' : Be, β'.env = ρP w y0 y1 yo yn eo en lx ml d k b0 o0 ∧ CRel β' c v') ∧ Kept w w' := by
  have hkd : k.getD 0 ≤ 4 := by
    cases k with
    | none => simp
    | some n => exact hkn n rfl
  have hi : Inv (cxP k (gOf y0 y1 d)) w.heap.size { m := fun _ => none, env := ρP w y0 y1 yo yn eo en lx ml d k b0 o0 } ⟨.nil, 0⟩ w := inv0 _ rfl rfl (defP_ok hkn) h (fun r l hrl j c hj => by
    unfold rowsP at hrl
    cases h9 : Nat.beq r 9 with
    | false => rw [h9] at hrl; cases hrl
    | true =>
      rw [h9] at hrl
      simp only [cond_true, Option.some.injEq] at hrl; subst hrl
      obtain ⟨i, j', e1, e2, e3, e4⟩ := rowC_get _ _ _ _ hj
      rw [Nat.zero_add] at e4
      obtain ⟨v, q1, q2, q3⟩ := row_rel (y0 := y0) (y1 := y1) (yo := yo) (yn := yn) (eo := eo) (en := en) (lx := lx) (ml := ml) (k := k) (o0 := o0) (by omega) e2 e4 (hr i e3)
      refine ⟨v, ?_, q2, q3⟩
      show w.cell? ⟨b0, o0 + j, none⟩ = some v
      rw [e1, ← Nat.add_assoc]; exact q1)
  have hs1 : scal pvv = true := by obtain ⟨l, rfl, _⟩ := hp; rfl
  have hs2 : scal ev = true := by obtain ⟨l, rfl, _⟩ := he; rfl
  have lt : ∀ i, i < 6 → (vE i).val (ρP w y0 y1 yo yn eo en lx ml d k b0 o0) = [yo, yn, eo, en, lx, ml].getD i 0 := fun i hi => by
    show vP y0 y1 yo yn eo en lx ml d k i = _
    unfold vP bvP
    rw [if_pos (by omega), if_pos (by omega)]
  have ha : All2 (VRel { m := fun _ => none, env := ρP w y0 y1 yo yn eo en lx ml d k b0 o0 }) (argsP k) (#[.agg #[pvv, ev, .bool (decide (lx ≠ 0)), mv]] : Array Value).toList := by
    refine ⟨⟨_, rfl, ⟨ot_rel (y := y0) ?_ fun j => ?_, ot_rel (y := y1) ?_ fun j => ?_, rfl, hm, trivial⟩, fun z hz => ?_⟩, trivial⟩
    · show IsStr pvv y0 ((vE 0).val _) ((vE 1).val _)
      rw [lt 0 (by omega), lt 1 (by omega)]; exact hp
    · show fG (yP y0 y1 d) (tP' d) (1000 + 0) [j] = _
      rw [fG_y, bs_y (by omega)]; rfl
    · show IsStr ev y1 ((vE 2).val _) ((vE 3).val _)
      rw [lt 2 (by omega), lt 3 (by omega)]; exact he
    · show fG (yP y0 y1 d) (tP' d) (1000 + 1) [j] = _
      rw [fG_y, bs_y (by omega)]; rfl
    · simp at hz
      rcases hz with rfl | rfl | rfl | rfl
      · exact hs1
      · exact hs2
      · rfl
      · exact hms
  obtain ⟨l', h1, h2⟩ := symL (c := cxP k (gOf y0 y1 d)) (K := fun _ => isV c) (tl := noTails) (ann := annP k o) (n := 200) (m := 30) cxWOk (tokP _ _ _ _) rfl hk hl (Nat.le_refl _) hi ha
  refine h2.mono ?_
  rintro v' w' ⟨v, st', β', q1, q2, q3⟩
  have hv := eqVv_ok q1
  subst hv
  exact ⟨⟨β', q3.ext.env, q2⟩, Kept.ofNil q3⟩
end

theorem evOk_of {y : Int → Int} {o n : Int} : evOk y o n = decide (n = 0 ∨ n = 1 ∧ hasI [y (o + 0), 75, 87, 72, 73, 88, 78, 89] = 1) := rfl

section
variable {w : World} {y0 y1 : Int → Int} {yo yn eo en lx : Int} {d : Nat → MvD} {n : Nat} {pvv ev mv : Value}

/-- What the told end stands for. -/
theorem v900 {ml : Int} {k : Option Nat} {b0 o0 : Nat} {β' : Be} {v' : Value} (h : β'.env = ρP w y0 y1 yo yn eo en lx ml d k b0 o0) (hr : CRel β' (syC (.var 900)) v') : v' = vi ((endD k).eval (ρ0 y0 y1 yo yn eo en lx ml d)) := by
  have e : v' = .int .i64 ((E.var 900).val β'.env) := hr
  rw [e, h]
  show Value.int .i64 (vP y0 y1 yo yn eo en lx ml d k 900) = _
  unfold vP
  rw [if_neg (by omega), if_neg (by omega), if_neg (by omega), if_pos rfl]; rfl

theorem play_ret (h : Laid w) (hp : IsStr pvv y0 yo yn) (he : IsStr ev y1 eo en) (hm : IsMoves w mv d n) :
    CallRet prog 15 #[.agg #[pvv, ev, .bool (decide (lx ≠ 0)), mv]] w fun v' w' => v' = vi (plV y0 yo yn y1 eo en d n) ∧ Kept w w' := by
  have hen : 0 ≤ en := by obtain ⟨l, _, h1, _⟩ := he; omega
  have hms : scal mv = true := by obtain ⟨a, c, rfl, _⟩ := hm; rfl
  have hslx : ∀ {b0 o0 : Nat}, CRel { m := fun _ => none, env := ρP w y0 y1 yo yn eo en lx n d none b0 o0 } (moveSl none) mv := fun {b0 o0} => by
    obtain ⟨a, c, rfl, _⟩ := hm
    exact ⟨a, n, c, rfl, rfl⟩
  have none4 : ∀ m : Nat, (none : Option Nat) = some m → m ≤ 4 := fun m hm => by cases hm
  have nor : ∀ {b0 o0 : Nat}, ∀ i, i < (none : Option Nat).getD 0 → IsMv w (cellsAt w b0 (o0 + 5 * i) 5) (d i) := fun i hi => by simp at hi
  -- a run with no rows
  have runN : ∀ {o : Exit × Fr × St} {l0 : Asg} {c : C}, runP none (gOf y0 y1 d) o l0 (isV c) = true → AsgOk (ρP w y0 y1 yo yn eo en lx n d none 0 0) l0 → CallRet prog 15 #[.agg #[pvv, ev, .bool (decide (lx ≠ 0)), mv]] w fun v' w' => (∃ β' : Be, β'.env = ρP w y0 y1 yo yn eo en lx n d none 0 0 ∧ CRel β' c v') ∧ Kept w w' :=
    fun hk hl => run_C hk h none4 hl hp he hslx hms nor
  by_cases h24 : yn ≤ 24
  case neg =>
    have e : pitV y0 yo yn = 5 := by unfold pitV; rw [if_neg h24]
    have e2 : plV y0 yo yn y1 eo en d n = 5 := by unfold plV; rw [e, if_neg (by omega)]
    refine (runN (runLong _) (asC (h_nle h24) asN)).mono fun v' w' ⟨⟨β', _, hr⟩, hw⟩ => ⟨?_, hw⟩
    rw [e2]; exact hr
  by_cases herr : errP (gP y0 yo yn) yn 24 = 0
  case neg =>
    have e : pitV y0 yo yn = 14 := by unfold pitV; rw [if_pos h24, if_neg herr]
    have e2 : plV y0 yo yn y1 eo en d n = 14 := by unfold plV; rw [e, if_neg (by omega)]
    refine (runN (runBad _) (asC (h_ne herr) (asC (h_le h24) asN))).mono fun v' w' ⟨⟨β', _, hr⟩, hw⟩ => ⟨?_, hw⟩
    rw [e2]; exact hr
  have e0 : pitV y0 yo yn = 0 := by unfold pitV; rw [if_pos h24, if_pos herr]
  have ok : ∀ {k : Option Nat} {b0 o0 : Nat} {ml : Int}, AsgOk (ρP w y0 y1 yo yn eo en lx ml d k b0 o0) okF := asC (h_eq herr) (asC (h_le h24) asN)
  have epl : plV y0 yo yn y1 eo en d n = if evOk y1 eo en = true then (if n ≤ 4 then mvsV d n 0 else 5) else 13 := by unfold plV; rw [if_pos e0]
  by_cases h1 : en ≤ 1
  case neg =>
    have e2 : plV y0 yo yn y1 eo en d n = 13 := by rw [epl, evOk_of, decide_eq_false (by omega), if_neg (by decide)]
    refine (runN (runE _) (asC (h_nle h1) ok)).mono fun v' w' ⟨⟨β', hβ, hr⟩, hw⟩ => ⟨?_, hw⟩
    rw [e2, v900 hβ hr]
    show vi (manyD.eval (ρ0 y0 y1 yo yn eo en lx n d)) = _
    unfold manyD evD
    rw [ev_eq, ev_eq]
    show vi (if en = 0 then _ else if en = 1 then _ else _) = _
    rw [if_neg (by omega), if_neg (by omega)]; rfl
  -- the ends by the event
  have evEnd : ∀ (dt : DT) (ml : Int), (evD dt).eval (ρ0 y0 y1 yo yn eo en lx ml d) = if evOk y1 eo en = true then dt.eval (ρ0 y0 y1 yo yn eo en lx ml d) else 13 := fun dt ml => by
    unfold evD
    rw [ev_eq, ev_eq, ev_le]
    show (if en = 0 then _ else if en = 1 then (if 0 ≤ evIn.val (ρ0 y0 y1 yo yn eo en lx ml d) then _ else (13 : Int)) else (13 : Int)) = _
    rw [evOk_of]
    by_cases q0 : en = 0
    · rw [if_pos q0, decide_eq_true (.inl q0), if_pos rfl]
    · have q1 : en = 1 := by omega
      rw [if_neg q0, if_pos q1]
      obtain ⟨l, _, hl, hb⟩ := he
      have hl1 : l.length = 1 := by omega
      match l, hl1 with
      | [c], _ =>
        have hc := hb 0 c rfl
        have := z_evIn (y0 := y0) (y1 := y1) (yo := yo) (yn := yn) (eo := eo) (en := en) (lx := lx) (ml := ml) (d := d) (c := c.toNat) (by have := c.toNat_lt; omega) hc.symm
        by_cases q2 : 0 ≤ evIn.val (ρ0 y0 y1 yo yn eo en lx ml d)
        · rw [if_pos q2, decide_eq_true (.inr ⟨q1, this.1 q2⟩), if_pos rfl]
        · rw [if_neg q2, decide_eq_false (by rintro (q | ⟨_, q⟩); exact q0 q; exact q2 (this.2 q)), if_neg (by decide)]
  by_cases h4 : n ≤ 4
  case neg =>
    have fin : ∀ {l0 : Asg}, runP none (gOf y0 y1 d) (outOk none) l0 (isV (syC (.var 900))) = true → AsgOk (ρP w y0 y1 yo yn eo en lx n d none 0 0) l0 → CallRet prog 15 #[.agg #[pvv, ev, .bool (decide (lx ≠ 0)), mv]] w fun v' w' => v' = vi (plV y0 yo yn y1 eo en d n) ∧ Kept w w' := fun hk hl => by
      refine (runN hk hl).mono fun v' w' ⟨⟨β', hβ, hr⟩, hw⟩ => ⟨?_, hw⟩
      rw [v900 hβ hr, epl, if_neg h4]
      show vi (manyD.eval _) = _
      unfold manyD
      rw [evEnd]; rfl
    have hml : Tst.holds (ρP w y0 y1 yo yn eo en lx n d none 0 0) (.le mL (L 4)) = false := h_nle (by show ¬ (n : Int) ≤ 4; omega)
    by_cases q0 : en = 0
    · exact fin (runNa _) (asC hml (asC (h_eq q0) ok))
    · exact fin (runNb _) (asC hml (asC (h_eq (show en = 1 by omega)) ok))
  -- at most four moves
  have fin : ∀ (b0 o0 : Nat), CRel { m := fun _ => none, env := ρP w y0 y1 yo yn eo en lx 0 d (some n) b0 o0 } (moveSl (some n)) mv → (∀ i, i < n → IsMv w (cellsAt w b0 (o0 + 5 * i) 5) (d i)) → ∀ {l0 : Asg}, runP (some n) (gOf y0 y1 d) (outOk (some n)) l0 (isV (syC (.var 900))) = true → AsgOk (ρP w y0 y1 yo yn eo en lx 0 d (some n) b0 o0) l0 →
      CallRet prog 15 #[.agg #[pvv, ev, .bool (decide (lx ≠ 0)), mv]] w fun v' w' => v' = vi (plV y0 yo yn y1 eo en d n) ∧ Kept w w' := fun b0 o0 hmr hrow l0 hk hl => by
    refine (run_C hk h (fun m e => by cases e; exact h4) hl hp he hmr hms hrow).mono fun v' w' ⟨⟨β', hβ, hr⟩, hw⟩ => ⟨?_, hw⟩
    rw [v900 hβ hr, epl, if_pos h4]
    show vi ((restD n).eval _) = _
    unfold restD
    rw [evEnd, ev_mvs n 0 (by omega)]
  obtain ⟨a, c, rfl, hc, hrow⟩ := hm
  have place : ∃ b0 o0 : Nat, CRel { m := fun _ => none, env := ρP w y0 y1 yo yn eo en lx 0 d (some n) b0 o0 } (moveSl (some n)) (.slice a n c) ∧ ∀ i, i < n → IsMv w (cellsAt w b0 (o0 + 5 * i) 5) (d i) := by
    cases n with
    | zero => exact ⟨0, 0, ⟨a, 0, c, rfl, rfl⟩, fun i hi => by omega⟩
    | succ n =>
      obtain ⟨b, off, rfl, hi⟩ := hrow (by omega)
      exact ⟨b, off, ⟨c, hc, rfl⟩, hi⟩
  obtain ⟨b0, o0, p1, p2⟩ := place
  have hn : n = 0 ∨ n = 1 ∨ n = 2 ∨ n = 3 ∨ n = 4 := by omega
  by_cases q0 : en = 0
  · have hl : AsgOk (ρP w y0 y1 yo yn eo en lx 0 d (some n) b0 o0) ((.eq eN (L 0), true) :: okF) := asC (h_eq q0) ok
    rcases hn with rfl | rfl | rfl | rfl | rfl
    · exact fin b0 o0 p1 p2 (run0a _) hl
    · exact fin b0 o0 p1 p2 (run1a _) hl
    · exact fin b0 o0 p1 p2 (run2a _) hl
    · exact fin b0 o0 p1 p2 (run3a _) hl
    · exact fin b0 o0 p1 p2 (run4a _) hl
  · have hl : AsgOk (ρP w y0 y1 yo yn eo en lx 0 d (some n) b0 o0) ((.eq eN (L 1), true) :: okF) := asC (h_eq (show en = 1 by omega)) ok
    rcases hn with rfl | rfl | rfl | rfl | rfl
    · exact fin b0 o0 p1 p2 (run0b _) hl
    · exact fin b0 o0 p1 p2 (run1b _) hl
    · exact fin b0 o0 p1 p2 (run2b _) hl
    · exact fin b0 o0 p1 p2 (run3b _) hl
    · exact fin b0 o0 p1 p2 (run4b _) hl
end
end Go.Proofs.Tryz
