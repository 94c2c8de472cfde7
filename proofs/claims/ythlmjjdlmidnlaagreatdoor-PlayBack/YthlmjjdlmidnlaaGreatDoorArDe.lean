/- On the seat of the open Play statements: a play, checked by the reference: its contract; both as primitives. -/
import Derived.Test.YthlmjjdlmidnlaaGreatDoorArD2
import Derived.Test.YthlmjjdlmidnlaaGreatDoorArCc
namespace Go.Proofs.Tryz
open Go Go.Am
set_option maxRecDepth 100000

section
variable {w : World} {y0 y1 : Int → Int} {yo yn eo en lx ml : Int} {d : Nat → MvD} {k : Option Nat} {b0 o0 : Nat}

theorem tokD (y t : Nat → Int → Int) (k : Option Nat) (B : Nat) : TOk (cxD k (fG y t)) B tD :=
  ((((tokBase tD (fG y t) noDefs (rowsP k)).add (pokMv (.inr rfl) mv40)).add (pokMv (.inl rfl) mv40)).add (pokHas fun l => by rw [fG_s (by omega)]; rfl)).add (pokPit (pit60 y t))

theorem low_endR (hk : ∀ n, k = some n → n ≤ 4) : lowD (endDR k) = true := by
  cases k with
  | none => rfl
  | some n =>
    have := hk n rfl
    have : n = 0 ∨ n = 1 ∨ n = 2 ∨ n = 3 ∨ n = 4 := by omega
    rcases this with rfl | rfl | rfl | rfl | rfl <;> rfl

theorem run_D {l0 : Asg} {pvv ev mv : Value} (hk : runD k (gOf y0 y1 d) l0 = true) (h : Laid w) (hkn : ∀ n, k = some n → n ≤ 4) (hl : AsgOk (ρP w y0 y1 yo yn eo en lx ml d k b0 o0) l0)
    (hp : IsStr pvv y0 yo yn) (he : IsStr ev y1 eo en) (hm : CRel { m := fun _ => none, env := ρP w y0 y1 yo yn eo en lx ml d k b0 o0 } (moveSl k) mv) (hms : scal mv = true)
    (hr : ∀ i, i < k.getD 0 → IsMv w (cellsAt w b0 (o0 + 5 * i) 5) (d i)) :
    CallRet prog 17 #[.agg #[pvv, ev, .bool (decide (lx ≠ 0)), mv]] w fun v' w' => v' = vi ((endDR k).eval (ρ0 y0 y1 yo yn eo en lx ml d)) ∧ Kept w w' := by
  have hkd : k.getD 0 ≤ 4 := by
    cases k with
    | none => simp
    | some n => exact hkn n rfl
  have hi : Inv (cxD k (gOf y0 y1 d)) w.heap.size { m := fun _ => none, env := ρP w y0 y1 yo yn eo en lx ml d k b0 o0 } ⟨.nil, 0⟩ w := inv0 _ rfl rfl (fun m x hx => by cases hx) h (fun r l hrl j c hj => by
    unfold rowsP at hrl
    cases h9 : Nat.beq r 9 with
    | false => rw [h9] at hrl; cases hrl
    | true =>
      rw [h9] at hrl
      simp only [cond_true, Option.some.injEq] at hrl; subst hrl
      obtain ⟨i, j', e1, e2, e3, e4⟩ := rowC_get _ _ _ _ hj
      rw [Nat.zero_add] at e4
      obtain ⟨v, q1, q2, q3⟩ := row_rel (y0 := y0) (y1 := y1) (yo := yo) (yn := yn) (eo := eo) (en := en) (lx := lx) (ml := ml) (k := k) (o0 := o0) (by omega) e2 e4 (hr i e3)
      refine ⟨v, ?_, q2, q3⟩
      show w.cell? ⟨b0, o0 + j, none⟩ = some v
      rw [e1, ← Nat.add_assoc]; exact q1)
  have hs1 : scal pvv = true := by obtain ⟨l, rfl, _⟩ := hp; rfl
  have hs2 : scal ev = true := by obtain ⟨l, rfl, _⟩ := he; rfl
  have lt : ∀ i, i < 6 → (vE i).val (ρP w y0 y1 yo yn eo en lx ml d k b0 o0) = [yo, yn, eo, en, lx, ml].getD i 0 := fun i hi => by
    show vP y0 y1 yo yn eo en lx ml d k i = _
    unfold vP bvP
    rw [if_pos (by omega), if_pos (by omega)]
  have ha : All2 (VRel { m := fun _ => none, env := ρP w y0 y1 yo yn eo en lx ml d k b0 o0 }) (argsP k) (#[.agg #[pvv, ev, .bool (decide (lx ≠ 0)), mv]] : Array Value).toList := by
    refine ⟨⟨_, rfl, ⟨ot_rel (y := y0) ?_ fun j => ?_, ot_rel (y := y1) ?_ fun j => ?_, rfl, hm, trivial⟩, fun z hz => ?_⟩, trivial⟩
    · show IsStr pvv y0 ((vE 0).val _) ((vE 1).val _)
      rw [lt 0 (by omega), lt 1 (by omega)]; exact hp
    · show fG (yP y0 y1 d) (tP' d) (1000 + 0) [j] = _
      rw [fG_y, bs_y (by omega)]; rfl
    · show IsStr ev y1 ((vE 2).val _) ((vE 3).val _)
      rw [lt 2 (by omega), lt 3 (by omega)]; exact he
    · show fG (yP y0 y1 d) (tP' d) (1000 + 1) [j] = _
      rw [fG_y, bs_y (by omega)]; rfl
    · simp at hz
      rcases hz with rfl | rfl | rfl | rfl
      · exact hs1
      · exact hs2
      · rfl
      · exact hms
  obtain ⟨l', h1, h2⟩ := symL (c := cxD k (gOf y0 y1 d)) (K := fun l => isT (cxD k (gOf y0 y1 d)) l (endDR k)) (tl := noTails) (ann := noAnn) (n := 200) (m := 60) cxWOk (tokD _ _ _ _) rfl hk hl (Nat.le_refl _) hi ha
  refine h2.mono ?_
  rintro v' w' ⟨v, st', β', q1, q2, q3⟩
  refine ⟨?_, Kept.ofNil q3⟩
  have hβ : β'.env = ρP w y0 y1 yo yn eo en lx ml d k b0 o0 := q3.ext.env
  have fs : Facts (withT (cxD k (gOf y0 y1 d)) l') β'.env := by rw [hβ]; exact facts_with hi.facts h1
  unfold isT at q1
  split at q1
  · rename_i x
    rw [cellIs_ok (β := β') (fun t b => ask_holds fs) q1 rfl q2, hβ]
    congr 1
    refine (@eval_low (ρP w y0 y1 yo yn eo en lx ml d k b0 o0) (ρ0 y0 y1 yo yn eo en lx ml d) (fun n hn => ?_) rfl _ (low_endR hkn))
    show vP y0 y1 yo yn eo en lx ml d k n = bvP _ d n
    unfold vP
    rw [if_pos hn]
  · cases q1

theorem z_pit : pitE.val (ρ0 y0 y1 yo yn eo en lx ml d) = pitV y0 yo yn := by
  unfold pitE; rw [appE_val]
  show fG (yP y0 y1 d) (tP' d) 60 [((0 : Nat) : Int), yo, yn] = _
  rw [pit60]
  congr 1
theorem z_has7 : has7.val (ρ0 y0 y1 yo yn eo en lx ml d) = hasI [y1 (eo + 0), 75, 87, 72, 73, 88, 78, 89] := by
  have hb : eB.val (ρ0 y0 y1 yo yn eo en lx ml d) = y1 (eo + 0) := by
    unfold eB; rw [appE_val]
    show fG (yP y0 y1 d) (tP' d) (1000 + 1) [eo + 0] = _
    rw [fG_y, bs_y (by omega)]; rfl
  unfold has7; rw [appE_val, List.map_cons, bytesE_int, hb]
  have e : (ρ0 y0 y1 yo yn eo en lx ml d).f = fG (yP y0 y1 d) (tP' d) := rfl
  rw [e, fG_s (by omega)]; rfl
theorem hasI_01 (l : List Int) : hasI l = 0 ∨ hasI l = 1 := by
  unfold hasI
  split
  · split <;> simp
  · simp
theorem ev_endDR (dt : DT) : (DT.node (.eq pitE (L 0)) (evDR dt) (.leaf pitE)).eval (ρ0 y0 y1 yo yn eo en lx ml d) = if pitV y0 yo yn = 0 then (if evOk y1 eo en = true then dt.eval (ρ0 y0 y1 yo yn eo en lx ml d) else 13) else pitV y0 yo yn := by
  unfold evDR
  rw [ev_eq, ev_eq, ev_eq, ev_eq, ev_leaf, z_pit, z_has7]
  show (if pitV y0 yo yn = 0 then (if en = 0 then _ else if en = 1 then (if hasI [y1 (eo + 0), 75, 87, 72, 73, 88, 78, 89] = 0 then (13 : Int) else _) else (13 : Int)) else _) = _
  by_cases h1 : pitV y0 yo yn = 0
  case neg => rw [if_neg h1, if_neg h1]
  rw [if_pos h1, if_pos h1, evOk_of]
  by_cases h2 : en = 0
  · rw [if_pos h2, decide_eq_true (.inl h2), if_pos rfl]
  rw [if_neg h2]
  by_cases h3 : en = 1
  case neg => rw [if_neg h3, decide_eq_false (by rintro (q | ⟨q, _⟩) <;> contradiction), if_neg (by decide)]
  rw [if_pos h3]
  rcases hasI_01 [y1 (eo + 0), 75, 87, 72, 73, 88, 78, 89] with h4 | h4
  · rw [if_pos h4, decide_eq_false (by rintro (q | ⟨_, q⟩); exact h2 q; rw [h4] at q; cases q), if_neg (by decide)]
  · rw [if_neg (by omega), decide_eq_true (.inr ⟨h3, h4⟩), if_pos rfl]
end

section
variable {w : World} {y0 y1 : Int → Int} {yo yn eo en lx : Int} {d : Nat → MvD} {n : Nat} {pvv ev mv : Value}
theorem playR_ret (h : Laid w) (hp : IsStr pvv y0 yo yn) (he : IsStr ev y1 eo en) (hm : IsMoves w mv d n) :
    CallRet prog 17 #[.agg #[pvv, ev, .bool (decide (lx ≠ 0)), mv]] w fun v' w' => v' = vi (plV y0 yo yn y1 eo en d n) ∧ Kept w w' := by
  have hms : scal mv = true := by obtain ⟨a, c, rfl, _⟩ := hm; rfl
  by_cases h4 : n ≤ 4
  case neg =>
    have hslx : CRel { m := fun _ => none, env := ρP w y0 y1 yo yn eo en lx n d none 0 0 } (moveSl none) mv := by
      obtain ⟨a, c, rfl, _⟩ := hm
      exact ⟨a, n, c, rfl, rfl⟩
    have := run_D (lx := lx) (ml := n) (k := none) (b0 := 0) (o0 := 0) (runDn _) h (fun m hm => by cases hm) (asC (h_nle (by show ¬ (n : Int) ≤ 4; omega)) asN) hp he hslx hms (fun i hi => by simp at hi)
    refine this.mono fun v' w' ⟨e, hw⟩ => ⟨?_, hw⟩
    rw [e]
    show vi ((DT.node (.eq pitE (L 0)) (evDR (dLf 5)) (.leaf pitE)).eval _) = _
    rw [ev_endDR]
    unfold plV
    rw [if_neg h4]; rfl
  obtain ⟨a, c, rfl, hc, hrow⟩ := hm
  have place : ∃ b0 o0 : Nat, CRel { m := fun _ => none, env := ρP w y0 y1 yo yn eo en lx 0 d (some n) b0 o0 } (moveSl (some n)) (.slice a n c) ∧ ∀ i, i < n → IsMv w (cellsAt w b0 (o0 + 5 * i) 5) (d i) := by
    cases n with
    | zero => exact ⟨0, 0, ⟨a, 0, c, rfl, rfl⟩, fun i hi => by omega⟩
    | succ n =>
      obtain ⟨b, off, rfl, hi⟩ := hrow (by omega)
      exact ⟨b, off, ⟨c, hc, rfl⟩, hi⟩
  obtain ⟨b0, o0, p1, p2⟩ := place
  have fin : runD (some n) (gOf y0 y1 d) [] = true → CallRet prog 17 #[.agg #[pvv, ev, .bool (decide (lx ≠ 0)), .slice a n c]] w fun v' w' => v' = vi (plV y0 yo yn y1 eo en d n) ∧ Kept w w' := fun hk => by
    have := run_D (lx := lx) (ml := 0) (k := some n) (b0 := b0) (o0 := o0) hk h (fun m e => by cases e; exact h4) asN hp he p1 rfl p2
    refine this.mono fun v' w' ⟨e, hw⟩ => ⟨?_, hw⟩
    rw [e]
    show vi ((DT.node (.eq pitE (L 0)) (evDR (mvsD n 0)) (.leaf pitE)).eval _) = _
    rw [ev_endDR]
    unfold plV
    rw [if_pos h4, ev_mvs n 0 (by omega)]
  have hn : n = 0 ∨ n = 1 ∨ n = 2 ∨ n = 3 ∨ n = 4 := by omega
  rcases hn with rfl | rfl | rfl | rfl | rfl
  · exact fin (runD0 _)
  · exact fin (runD1 _)
  · exact fin (runD2 _)
  · exact fin (runD3 _)
  · exact fin (runD4 _)
end
end Go.Proofs.Tryz
