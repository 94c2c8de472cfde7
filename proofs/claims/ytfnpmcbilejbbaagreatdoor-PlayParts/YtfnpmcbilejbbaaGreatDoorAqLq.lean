/- On the play seat's program: PlayParts comes back with true from every input, and what was in memory is as it was. -/
import Derived.Test.YtfnpmcbilejbbaaGreatDoorAqLp1
import Derived.Test.YtfnpmcbilejbbaaGreatDoorAqLp3
namespace Go.Proofs.Tryz
open Go Go.Am Go.Gc Go.Pc
set_option maxRecDepth 100000

def vP (y : Int → Int) (b s n c : Int) (m : Nat) : Int :=
  if m = 0 then b else if m = 1 then s else if m = 2 then 0 else if m = 3 then n else if m = 4 then c else if m < 200 then 0
  else if m < 252 then (if (m - 200) % 2 = 0 then (tot y b s ((m - 200) / 2)).1 else (tot y b s ((m - 200) / 2)).2)
  else if m = 930 then fin (fun i => (tot y b s i).1) n 24 else if m = 931 then fin (fun i => (tot y b s i).2) n 24 else 0
def ρP (w : World) (y : Int → Int) (b s n c : Int) : Env := ⟨vP y b s n c, fnsL y, fun _ => (0, 0), memOf w⟩

section
variable {w : World} {y : Int → Int} {b s n c : Int}
theorem z_B {i : Nat} (hi : i < 26) : (tB i).val (ρP w y b s n c) = (tot y b s i).1 := by
  show vP y b s n c (200 + 2 * i) = _
  unfold vP
  rw [if_neg (by omega), if_neg (by omega), if_neg (by omega), if_neg (by omega), if_neg (by omega), if_neg (by omega), if_pos (by omega), if_pos (by omega), show (200 + 2 * i - 200) / 2 = i by omega]
theorem z_S {i : Nat} (hi : i < 26) : (tS i).val (ρP w y b s n c) = (tot y b s i).2 := by
  show vP y b s n c (201 + 2 * i) = _
  unfold vP
  rw [if_neg (by omega), if_neg (by omega), if_neg (by omega), if_neg (by omega), if_neg (by omega), if_neg (by omega), if_pos (by omega), if_neg (by omega), show (201 + 2 * i - 200) / 2 = i by omega]
theorem z_yN : yN.val (ρP w y b s n c) = n := rfl
theorem z_by (i : Nat) : (byE yO i).val (ρP w y b s n c) = y (0 + i) := by unfold byE; rw [appE_val]; rfl
theorem evP_is (i : Nat) (k : Int) (a d : DT) : (is yO i k a d).eval (ρP w y b s n c) = if y (0 + i) = k then a.eval (ρP w y b s n c) else d.eval (ρP w y b s n c) := by
  unfold is; rw [ev_eq, z_by]; rfl
theorem z_inc (e : E) : (inc e).val (ρP w y b s n c) = w64 (e.val (ρP w y b s n c) + 1) := rfl
theorem evP_dFin (x : Nat → E) (f : Nat → Int) (hx : ∀ i, i ≤ 24 → (x i).val (ρP w y b s n c) = f i) : ∀ m, (dFin x m).eval (ρP w y b s n c) = fin f n m
  | 0 => hx 24 (Nat.le_refl _)
  | m + 1 => by
    simp only [dFin, fin, ev_le, ev_leaf, z_yN, val_L]
    rw [evP_dFin x f hx m, hx _ (by omega)]; rfl

theorem dTB_ok {i : Nat} (hi : i < 26) : (tot y b s i).1 = (dTB i).eval (ρP w y b s n c) := by
  cases i with
  | zero => rfl
  | succ i => simp only [dTB, evP_is, ev_leaf, z_inc, z_B (show i < 26 by omega)]; rfl
theorem dTS_ok {i : Nat} (hi : i < 26) : (tot y b s i).2 = (dTS i).eval (ρP w y b s n c) := by
  cases i with
  | zero => rfl
  | succ i => simp only [dTS, evP_is, ev_le, ev_leaf, val_L, z_inc, z_S (show i < 26 by omega)]; rfl

theorem defP_ok : ∀ m d, defP m = some d → (ρP w y b s n c).v m = d.eval (ρP w y b s n c) := by
  intro m d hd
  show vP y b s n c m = _
  unfold defP at hd
  cases h1 : Nat.blt m 200 with
  | true => rw [h1] at hd; cases hd
  | false =>
  rw [h1] at hd
  simp only [cond_false] at hd
  have n1 := blt_false h1
  cases h2 : Nat.blt m 252 with
  | true =>
    rw [h2] at hd
    simp only [cond_true] at hd
    have n2 := blt_true h2
    obtain ⟨i, j, hj, hi, rfl⟩ : ∃ i j, j < 2 ∧ i < 26 ∧ m = 200 + 2 * i + j := ⟨(m - 200) / 2, (m - 200) % 2, by omega, by omega, by omega⟩
    rw [show (200 + 2 * i + j - 200) / 2 = i by omega, show (200 + 2 * i + j - 200) % 2 = j by omega] at hd
    have hj' : j = 0 ∨ j = 1 := by omega
    rcases hj' with rfl | rfl
    · simp only [Option.some.injEq] at hd; subst hd
      rw [← dTB_ok hi]; exact z_B (w := w) (c := c) hi
    · simp only [Option.some.injEq] at hd; subst hd
      rw [← dTS_ok hi, show 200 + 2 * i + 1 = 201 + 2 * i by omega]; exact z_S (w := w) (c := c) hi
  | false =>
  rw [h2] at hd
  simp only [cond_false] at hd
  cases h3 : Nat.beq m 930 with
  | true =>
    rw [h3] at hd
    simp only [cond_true, Option.some.injEq] at hd; subst hd
    rw [Nat.eq_of_beq_eq_true h3, evP_dFin tB (fun i => (tot y b s i).1) (fun i hi => z_B (by omega))]; rfl
  | false =>
  rw [h3] at hd
  simp only [cond_false] at hd
  cases h4 : Nat.beq m 931 with
  | true =>
    rw [h4] at hd
    simp only [cond_true, Option.some.injEq] at hd; subst hd
    rw [Nat.eq_of_beq_eq_true h4, evP_dFin tS (fun i => (tot y b s i).2) (fun i hi => z_S (by omega))]; rfl
  | false => rw [h4] at hd; cases hd
end

theorem primsP (y : Int → Int) (B : Nat) : PrimsOk (cxP (fnsL y)) prog B :=
  ((tokBase tP (fnsL y) defP noRows).add pokC).add (pokTrue fun _ h => awake h)

section
variable {w : World} {y : Int → Int} {b s c : Int} {l : List UInt8}
theorem parts_ret {ann : Ann} {l0 : Asg} (hk : runP (fnsL y) ann l0 = true) (h : Laid w) (hl : AsgOk (ρP w y b s l.length c) l0) (hy : Bytes y 0 l) :
    CallRet prog 4 #[.string ⟨l.toArray⟩, .int .u8 c, .agg #[vi b, vi s]] w fun v' w' => v' = .bool true ∧ Kept w w' := by
  have hi : Inv (cxP (fnsL y)) w.heap.size ⟨fun _ => none, ρP w y b s l.length c⟩ ⟨.nil, 0⟩ w := inv0 _ rfl rfl defP_ok h (fun k l hk => by cases hk)
  have ha : All2 (VRel ⟨fun _ => none, ρP w y b s l.length c⟩) argsP (#[.string ⟨l.toArray⟩, .int .u8 c, .agg #[vi b, vi s]] : Array Value).toList :=
    ⟨⟨l, rfl, rfl, fun j c hc => hy j c hc⟩, rfl, ⟨_, rfl, ⟨rfl, rfl, trivial⟩, fun z hz => by simp at hz; rcases hz with rfl | rfl <;> rfl⟩, trivial⟩
  obtain ⟨l', h1, h2⟩ := symL (c := cxP (fnsL y)) (K := fun _ => isTrueP) (tl := noTails) (ann := ann) (n := 100) (m := 60) cxWOk (primsP _ _) rfl hk hl (Nat.le_refl _) hi ha
  refine h2.mono ?_
  rintro v' w' ⟨v, st', β', q1, q2, q3⟩
  exact ⟨isTrue_rel q1 q2, Kept.ofNil q3⟩

theorem asA {ρ : Env} {l m : Asg} (hl : AsgOk ρ l) (hm : AsgOk ρ m) : AsgOk ρ (l ++ m) := fun p hp => by
  rcases List.mem_append.1 hp with h | h
  · exact hl p h
  · exact hm p h
theorem f_le {ρ : Env} {a d : E} {x z : Int} (h1 : a.val ρ = x) (h2 : d.val ρ = z) (h : x ≤ z) : (Tst.le a d).holds ρ = true := by subst h1 h2; exact decide_eq_true h
theorem f_lt {ρ : Env} {a d : E} {x z : Int} (h1 : a.val ρ = x) (h2 : d.val ρ = z) (h : ¬ x ≤ z) : (Tst.le a d).holds ρ = false := by subst h1 h2; exact decide_eq_false h
theorem f_eq {ρ : Env} {a d : E} {x z : Int} (h1 : a.val ρ = x) (h2 : d.val ρ = z) (h : x = z) : (Tst.eq a d).holds ρ = true := by subst h1 h2; exact beq_iff_eq.2 h
theorem f_ne {ρ : Env} {a d : E} {x z : Int} (h1 : a.val ρ = x) (h2 : d.val ρ = z) (h : x ≠ z) : (Tst.eq a d).holds ρ = false := by subst h1 h2; exact beq_eq_false_iff_ne.2 h

variable {n : Int}
theorem z_app {o e : E} {p q : Int} (ho : o.val (ρP w y b s n c) = p) (he : e.val (ρP w y b s n c) = q) : (aE 20 o e).val (ρP w y b s n c) = cB y b s p q ∧ (aE 21 o e).val (ρP w y b s n c) = cS y b s p q ∧ (aE 22 o e).val (ρP w y b s n c) = cI y b s p q ∧ (aE 23 o e).val (ρP w y b s n c) = cE y b s p q := by
  subst ho he
  unfold aE
  exact ⟨appE_val _ _ _, appE_val _ _ _, appE_val _ _ _, appE_val _ _ _⟩
theorem z_byte {e : E} {q : Int} (he : e.val (ρP w y b s n c) = q) : (bE e).val (ρP w y b s n c) = y (0 + q) := by
  subst he; exact appE_val _ _ _
theorem z_res {p q r t : Int} (h1 : (aE 20 yO uK).val (ρP w y b s n c) = p) (h2 : (aE 21 yO uK).val (ρP w y b s n c) = q) (h3 : (E.add yO uK).val (ρP w y b s n c) = r) (h4 : (E.sub yN uK).val (ρP w y b s n c) = t) :
    (resE 23).val (ρP w y b s n c) = cE y p q r t ∧ (resE 20).val (ρP w y b s n c) = cB y p q r t ∧ (resE 21).val (ρP w y b s n c) = cS y p q r t := by
  subst h1 h2 h3 h4
  exact ⟨appE_val _ _ _, appE_val _ _ _, appE_val _ _ _⟩

theorem parts_law (l : List UInt8) (c b s : Int) (hc : 0 ≤ c ∧ c < 256) (w : World) (h : Laid w) :
    CallRet prog 4 #[.string ⟨l.toArray⟩, .int .u8 c, .agg #[vi b, vi s]] w fun v' w' => v' = .bool true ∧ Kept w w' := by
  obtain ⟨y, hy⟩ : ∃ y : Int → Int, Bytes y 0 l := ⟨fun j => ((l[j.toNat]?).getD 0).toNat, fun j c hc => by
    show (c.toNat : Int) = (((l[(0 + (j : Int)).toNat]?).getD 0).toNat : Int)
    rw [show (0 + (j : Int)).toNat = j by omega, hc]; rfl⟩
  by_cases h4 : (l.length : Int) ≤ 24
  case neg => exact parts_ret (partsOut0 _) h (asC (decide_eq_false h4) asN) hy
  by_cases h0 : 0 ≤ b
  case neg => exact parts_ret (partsOut1 _) h (asC (decide_eq_true h4) (asC (decide_eq_false h0) asN)) hy
  by_cases h1 : b ≤ 3
  case neg => exact parts_ret (partsOut2 _) h (asC (decide_eq_true h4) (asC (decide_eq_true h0) (asC (decide_eq_false h1) asN))) hy
  by_cases h2 : 0 ≤ s
  case neg => exact parts_ret (partsOut3 _) h (asC (decide_eq_true h4) (asC (decide_eq_true h0) (asC (decide_eq_true h1) (asC (decide_eq_false h2) asN)))) hy
  by_cases h3 : s ≤ 2
  case neg => exact parts_ret (partsOut4 _) h (asC (decide_eq_true h4) (asC (decide_eq_true h0) (asC (decide_eq_true h1) (asC (decide_eq_true h2) (asC (decide_eq_false h3) asN))))) hy
  have hr : inR b s := ⟨h0, h1, h2, h3⟩
  have hn : l.length ≤ 24 := by omega
  have hin : AsgOk (ρP w y b s l.length c) inP := asC (decide_eq_true h4) (asC (decide_eq_true h0) (asC (decide_eq_true h1) (asC (decide_eq_true h2) (asC (decide_eq_true h3) asN))))
  obtain ⟨vB, vS, vI, vEr⟩ := z_app (w := w) (y := y) (b := b) (s := s) (c := c) (n := l.length) (o := yO) (e := yN) rfl rfl
  by_cases he : cE y b s 0 l.length = 0
  case neg =>
    obtain ⟨e14, eB, eS, i, hi, hlt, g1, g2⟩ := bad hr hn he
    have vI' : uI.val (ρP w y b s l.length c) = i := vI.trans hi
    obtain ⟨pB, pS, -, pE⟩ := z_app (w := w) (y := y) (b := b) (s := s) (c := c) (n := l.length) (o := yO) (e := uI) rfl vI'
    have sE4 := cE_zero (n := i) hr (by omega) g1
    have bB := pB.trans (cB_eq (by omega) sE4)
    have bS := pS.trans (cS_eq (by omega) sE4)
    have herr : AsgOk (ρP w y b s l.length c) errF :=
      asC (f_ne vEr rfl he) (asC (f_eq vEr rfl e14) (asC (f_le rfl vI' (by show (0 : Int) ≤ i; omega)) (asC (f_lt rfl vI' (by show ¬ (l.length : Int) ≤ i; omega)) (asC (f_le vI' rfl (by show (i : Int) ≤ l.length; omega)) (asC (f_eq vB rfl eB) (asC (f_eq vS rfl eS) (asC (f_eq pE rfl sE4) asN)))))))
    have hbyte := z_byte (w := w) (y := y) (b := b) (s := s) (c := c) (n := l.length) vI'
    have hbadF : ¬ good (y (0 + i)) → AsgOk (ρP w y b s l.length c) (badF uI) := fun hb =>
      asC (f_ne hbyte rfl fun e => hb (.inl e)) (asC (f_ne hbyte rfl fun e => hb (.inr (.inl e))) (asC (f_ne hbyte rfl fun e => hb (.inr (.inr (.inl e)))) (asC (f_ne hbyte rfl fun e => hb (.inr (.inr (.inr (.inl e))))) (asC (f_ne hbyte rfl fun e => hb (.inr (.inr (.inr (.inr (.inl e)))))) (asC (f_ne hbyte rfl fun e => hb (.inr (.inr (.inr (.inr (.inr e)))))) asN)))))
    have hbeh : ∀ j : Nat, i = j + 1 → AsgOk (ρP w y b s l.length c) behF ∧ backE.val (ρP w y b s l.length c) = j := fun j hj => by
      have hv : backE.val (ρP w y b s l.length c) = j := by
        show w64 (uI.val (ρP w y b s l.length c) - 1) = j
        rw [vI', hj, w_id (by omega) (by omega)]; omega
      exact ⟨asC (f_lt vI' rfl (by show ¬ (i : Int) ≤ 0; omega)) (asC (f_le rfl hv (by show (0 : Int) ≤ j; omega)) (asC (f_lt rfl hv (by show ¬ (l.length : Int) ≤ j; omega)) asN)), hv⟩
    have h2 := asA hin herr
    rcases why g1 g2 with hb | ⟨j, hj, hb⟩
    · by_cases hz : i = 0
      · exact parts_ret (partsErr _) h (asA (asA h2 (asC (f_le vI' rfl (by show (i : Int) ≤ 0; omega)) asN)) (hbadF hb)) hy
      · exact parts_ret (partsErr0 _) h (asA (asA h2 (hbeh (i - 1) (by omega)).1) (hbadF hb)) hy
    · obtain ⟨q1, q2⟩ := hbeh j hj
      have hprev := z_byte (w := w) (y := y) (b := b) (s := s) (c := c) (n := l.length) q2
      rcases hb with hb | hb | hb | hb
      · exact parts_ret (partsErr1 _) h (asA (asA h2 q1) (asC (f_eq bB rfl hb) asN)) hy
      · exact parts_ret (partsErr2 _) h (asA (asA h2 q1) (asC (f_eq bS rfl hb) asN)) hy
      · exact parts_ret (partsErr3 _) h (asA (asA h2 q1) (asC (f_eq hprev rfl hb) asN)) hy
      · exact parts_ret (partsErr4 _) h (asA (asA h2 q1) (asC (f_eq hprev rfl hb) asN)) hy
  case pos =>
    have gn := cE_go hr hn he
    have ht := tot_eq hr gn
    have vFT : fT.val (ρP w y b s l.length c) = (stp y b s 0 l.length).b := by
      show fin (fun i => (tot y b s i).1) (l.length : Int) 24 = _
      rw [fin_eq _ hn 24 (Nat.le_refl _) (by omega), ht]
    have vFS : fS.val (ρP w y b s l.length c) = (stp y b s 0 l.length).s := by
      show fin (fun i => (tot y b s i).2) (l.length : Int) 24 = _
      rw [fin_eq _ hn 24 (Nat.le_refl _) (by omega), ht]
    obtain ⟨i1, i2, i3, i4, -⟩ := inv hr _ gn
    have vB' := vB.trans (cB_eq hn he)
    have vS' := vS.trans (cS_eq hn he)
    have hok : AsgOk (ρP w y b s l.length c) okF :=
      asC (f_eq vEr rfl he) (asC (f_eq vI rfl (cI_zero he)) (asC (f_eq vB' vFT rfl) (asC (f_eq vS' vFS rfl) (asC (f_le vFT rfl i2) (asC (f_le vFS rfl i4) asN)))))
    have vn : n1.val (ρP w y b s l.length c) = (l.length : Int) + 1 := by
      show w64 ((l.length : Int) + 1) = _
      exact w_id (by omega) (by omega)
    obtain ⟨k, hk⟩ : ∃ k : Nat, (w64 c).tmod ((l.length : Int) + 1) = k := ⟨((w64 c).tmod ((l.length : Int) + 1)).toNat, by
      rw [show w64 c = c from wrap_id (by omega) (by omega), Int.toNat_of_nonneg (Int.tmod_nonneg _ hc.1)]⟩
    have hkn : k ≤ l.length := by
      rw [show w64 c = c from wrap_id (by omega) (by omega)] at hk
      have := Int.tmod_lt_of_pos c (show 0 < (l.length : Int) + 1 by omega)
      omega
    have vK : uK.val (ρP w y b s l.length c) = k := by
      show (w64 c).tmod (n1.val (ρP w y b s l.length c)) = k
      rw [vn]; exact hk
    obtain ⟨pB, pS, -, pE⟩ := z_app (w := w) (y := y) (b := b) (s := s) (c := c) (n := l.length) (o := yO) (e := uK) rfl vK
    have gk := go_le gn hkn
    have sE4 := cE_zero (n := k) hr (by omega) gk
    have bB := pB.trans (cB_eq (by omega) sE4)
    have bS := pS.trans (cS_eq (by omega) sE4)
    have hmod : AsgOk (ρP w y b s l.length c) modF :=
      asC (f_ne vn rfl (by show (l.length : Int) + 1 ≠ 0; omega)) (asC (f_le rfl vK (by show (0 : Int) ≤ k; omega)) (asC (f_le vK rfl (by show (k : Int) ≤ l.length; omega)) (asC (f_eq pE rfl sE4) asN)))
    have h3 := asA (asA hin hok) hmod
    obtain ⟨j1, j2, j3, j4, j5⟩ := inv hr _ gk
    have hfull : k ≠ l.length → (stp y b s 0 k).b ≤ 3 ∧ (stp y b s 0 k).s ≤ 2 := fun hne =>
      j5 (go_down (go_le gn (show k + 1 ≤ l.length by omega))).2.1
    by_cases c1 : (stp y b s 0 k).b ≤ 3
    case neg =>
      have e : k = l.length := Classical.byContradiction fun hne => c1 (hfull hne).1
      exact parts_ret (partsOk0 _) h (asA h3 (asC (f_lt bB rfl c1) (asC (f_eq vK rfl (by show (k : Int) = l.length; omega)) asN))) hy
    by_cases kC2 : (stp y b s 0 k).s ≤ 2
    case neg =>
      have e : k = l.length := Classical.byContradiction fun hne => kC2 (hfull hne).2
      exact parts_ret (partsOk1 _) h (asA h3 (asC (f_le bB rfl c1) (asC (f_lt bS rfl kC2) (asC (f_eq vK rfl (by show (k : Int) = l.length; omega)) asN)))) hy
    have hr' : inR (stp y b s 0 k).b (stp y b s 0 k).s := ⟨j1, c1, j3, kC2⟩
    obtain ⟨p1, p2, -, p4⟩ := Go.Pc.parts (y := y) (b := b) (s := s) (o := 0) k (l.length - k)
    rw [show k + (l.length - k) = l.length by omega] at p1 p2 p4
    have e1 := cE_zero (n := l.length - k) hr' (by omega) (p4 gn)
    obtain ⟨rE, rB, rS⟩ := z_res (w := w) (y := y) (b := b) (s := s) (c := c) (n := l.length) (r := 0 + (k : Int)) (t := ((l.length - k : Nat) : Int)) bB bS (by show 0 + uK.val (ρP w y b s l.length c) = _; rw [vK]) (by show (l.length : Int) - uK.val (ρP w y b s l.length c) = _; rw [vK]; omega)
    have sB' := rB.trans ((cB_eq (by omega) e1).trans p1)
    have sS' := rS.trans ((cS_eq (by omega) e1).trans p2)
    exact parts_ret (partsOk2 _) h (asA h3 (asC (f_le bB rfl c1) (asC (f_le bS rfl kC2) (asC (f_eq rE rfl e1) (asC (f_eq sB' vB' rfl) (asC (f_eq sS' vS' rfl) asN)))))) hy
end
end Go.Proofs.Tryz
