/- On the seat of the open Play statements: PlayCounts returns true, and what was in memory is as it was. -/
import Derived.Test.YthlmjjdlmidnlaaGreatDoorArU0
import Derived.Test.YthlmjjdlmidnlaaGreatDoorArU2
import Derived.Test.YthlmjjdlmidnlaaGreatDoorArU3
import Derived.Test.YthlmjjdlmidnlaaGreatDoorArU4
import Derived.Test.YthlmjjdlmidnlaaGreatDoorArI
namespace Go.Proofs.Tryz
open Go Go.Am
set_option maxRecDepth 100000

theorem tokL (q : FuncId → Option PT) (y t : Nat → Int → Int) (k : Option Nat) (B : Nat) : TOk (cxW q (fG y t) noDefs (rowsP k)) B (tLf k) :=
  (((((tokBase q (fG y t) noDefs (rowsP k)).add (pokMv (.inr rfl) mv40)).add (pokMv (.inl rfl) mv40)).add (pokPl (.inr rfl))).add (pokPl (.inl rfl))).add (pokTrue fun _ h => awake h)
theorem tokU (y t : Nat → Int → Int) (k : Option Nat) (B : Nat) : TOk (cxU k (fG y t)) B (tU k) :=
  ((tokL (tU k) y t k B).add (Cn.pokC (.inr rfl) (cntG y t))).add (Cn.pokC (.inl rfl) (cntG y t))

theorem mem_bits : ∀ l : List Bool, l ∈ bitsL l.length
  | [] => by simp [bitsL]
  | b :: l => by
    simp only [bitsL, List.length_cons, List.mem_flatMap]
    exact ⟨l, mem_bits l, by cases b <;> simp⟩

section
variable {w : World} {y0 y1 : Int → Int} {yo yn eo en lx ml : Int} {d : Nat → MvD} {k : Option Nat} {b0 o0 : Nat}

theorem u_pv {i j : Nat} (hi : i < 9) (hj : j < 10) : (pv i j).val (ρP w y0 y1 yo yn eo en lx ml d k b0 o0) = compM (d i) j := by
  show vP y0 y1 yo yn eo en lx ml d k (10 + 10 * i + j) = _
  unfold vP
  rw [if_pos (by omega)]; exact bvP_pv _ _ hj

theorem run_U {l0 : Asg} {pvv ev mv sv : Value} (hk : runU k (gOf y0 y1 d) l0 = true) (h : Laid w) (hkd : k.getD 0 ≤ 8) (hl : AsgOk (ρP w y0 y1 yo yn eo en lx ml d k b0 o0) l0)
    (hp : IsStr pvv y0 yo yn) (he : IsStr ev y1 eo en) (hm : CRel { m := fun _ => none, env := ρP w y0 y1 yo yn eo en lx ml d k b0 o0 } (moveSl k) mv) (hms : scal mv = true)
    (hr : ∀ i, i < k.getD 0 → IsMv w (cellsAt w b0 (o0 + 5 * i) 5) (d i)) (hs : IsStr sv (d 8).y (d 8).so (d 8).sn) :
    CallRet prog 7 #[.agg #[pvv, ev, .bool (decide (lx ≠ 0)), mv], sv, .agg #[vi (d 8).fr, vi (d 8).to]] w fun v' w' => v' = .bool true ∧ Kept w w' := by
  have hi : Inv (cxU k (gOf y0 y1 d)) w.heap.size { m := fun _ => none, env := ρP w y0 y1 yo yn eo en lx ml d k b0 o0 } ⟨.nil, 0⟩ w := inv0 _ rfl rfl (fun m x hx => by cases hx) h (rows_rel hkd hr)
  have hsr : CRel { m := fun _ => none, env := ρP w y0 y1 yo yn eo en lx ml d k b0 o0 } (.ot 10 (pv 8 3) (pv 8 4)) sv := by
    refine ot_rel (y := (d 8).y) ?_ fun j => ?_
    · show IsStr sv (d 8).y ((pv 8 3).val (ρP w y0 y1 yo yn eo en lx ml d k b0 o0)) ((pv 8 4).val (ρP w y0 y1 yo yn eo en lx ml d k b0 o0))
      rw [u_pv (by omega) (by omega), u_pv (by omega) (by omega)]; exact hs
    · show fG (yP y0 y1 d) (tP' d) (1000 + 10) [j] = _
      rw [fG_y, bs_y (by omega)]; rfl
  have hat : ARel { m := fun _ => none, env := ρP w y0 y1 yo yn eo en lx ml d k b0 o0 } (.agg [syC (pv 8 0), syC (pv 8 1)]) (.agg #[vi (d 8).fr, vi (d 8).to]) := by
    refine ⟨_, rfl, ⟨?_, ?_, trivial⟩, fun z hz => ?_⟩
    · show vi (d 8).fr = Value.int .i64 ((pv 8 0).val _)
      rw [u_pv (by omega) (by omega)]; rfl
    · show vi (d 8).to = Value.int .i64 ((pv 8 1).val _)
      rw [u_pv (by omega) (by omega)]; rfl
    · simp at hz; rcases hz with rfl | rfl <;> rfl
  have ha : All2 (VRel { m := fun _ => none, env := ρP w y0 y1 yo yn eo en lx ml d k b0 o0 }) (argsU k) (#[.agg #[pvv, ev, .bool (decide (lx ≠ 0)), mv], sv, .agg #[vi (d 8).fr, vi (d 8).to]] : Array Value).toList :=
    ⟨playC_rel hp he hm hms, hsr, hat, trivial⟩
  obtain ⟨l', h1, h2⟩ := symL (c := cxU k (gOf y0 y1 d)) (K := fun _ v _ => isTrue v) (tl := noTails) (ann := noAnn) (n := 200) (m := 40) cxWOk (tokU _ _ _ _) rfl hk hl (Nat.le_refl _) hi ha
  refine h2.mono ?_
  rintro v' w' ⟨v, st', β', q1, q2, q3⟩
  exact ⟨isTrue_rel q1 q2, Kept.ofNil q3⟩

/-- With more than four moves there is an error. -/
theorem plV_many (y0 : Int → Int) (yo yn : Int) (y1 : Int → Int) (eo en : Int) (d : Nat → MvD) {n : Nat} (hn : 4 < n) : plV y0 yo yn y1 eo en d n ≠ 0 := by
  unfold plV
  by_cases h : pitV y0 yo yn = 0
  · rw [if_pos h, if_neg (show ¬ n ≤ 4 by omega)]; split <;> omega
  · rw [if_neg h]; exact h
theorem plX_many {n : Nat} (hn : 4 < n) : (plX n).val (ρP w y0 y1 yo yn eo en lx ml d k b0 o0) ≠ 0 := by
  unfold plX plE
  rw [appE_val]
  show fG (yP y0 y1 d) (tP' d) 50 (((0 : Nat) : Int) :: _ :: _ :: ((1 : Nat) : Int) :: _ :: _ :: ((n : Nat) : Int) :: _) ≠ 0
  rw [fG_s (by omega)]
  exact plV_many _ _ _ _ _ _ _ (by simpa using hn)
end

theorem xF_ok {ρ : Env} : ∀ (l : List Bool) (i : Nat), (∀ j b, l[j]? = some b → Tst.holds ρ (.eq (pv (i + j) 2) (L 0)) = b) → AsgOk ρ (xF l i)
  | [], _, _ => asN
  | b :: l, i, h => asC (by simpa using h 0 b rfl) (xF_ok l (i + 1) fun j b hb => by
      have := h (j + 1) b (by simpa using hb)
      rw [show i + 1 + j = i + (j + 1) by omega]; exact this)

theorem counts_law {w : World} {y0 y1 y2 : Int → Int} {yo yn eo en lx so sn a b : Int} {d : Nat → MvD} {n : Nat} {pvv ev mv sv : Value} (h : Laid w) (hp : IsStr pvv y0 yo yn) (he : IsStr ev y1 eo en) (hm : IsMoves w mv d n) (hs : IsStr sv y2 so sn) :
    CallRet prog 7 #[.agg #[pvv, ev, .bool (decide (lx ≠ 0)), mv], sv, .agg #[vi a, vi b]] w fun v' w' => v' = .bool true ∧ Kept w w' := by
  have hms : scal mv = true := by obtain ⟨a, c, rfl, _⟩ := hm; rfl
  let m : MvD := ⟨a, b, 0, y2, so, sn, fun _ => 0, 0, 0⟩
  by_cases h6 : n ≤ 6
  case neg =>
    have hslx : CRel { m := fun _ => none, env := ρP w y0 y1 yo yn eo en lx n (fun _ => m) none 0 0 } (moveSl none) mv := by
      obtain ⟨a, c, rfl, _⟩ := hm
      exact ⟨a, n, c, rfl, rfl⟩
    exact run_U (lx := lx) (ml := n) (d := fun _ => m) (k := none) (b0 := 0) (o0 := 0) (runUn _) h (by simp) (asC (h_nle (by show ¬ (n : Int) ≤ 6; omega)) asN) hp he hslx hms (fun i hi => by simp at hi) hs
  obtain ⟨ad, c, rfl, hc, hrow⟩ := hm
  let d' : Nat → MvD := fun i => if i = 8 then m else d i
  have place : ∃ b0 o0 : Nat, CRel { m := fun _ => none, env := ρP w y0 y1 yo yn eo en lx 0 d' (some n) b0 o0 } (moveSl (some n)) (.slice ad n c) ∧ ∀ i, i < n → IsMv w (cellsAt w b0 (o0 + 5 * i) 5) (d' i) := by
    cases n with
    | zero => exact ⟨0, 0, ⟨ad, 0, c, rfl, rfl⟩, fun i hi => by omega⟩
    | succ n =>
      obtain ⟨b, off, rfl, hi⟩ := hrow (by omega)
      refine ⟨b, off, ⟨c, hc, rfl⟩, fun i hin => ?_⟩
      show IsMv w _ (if i = 8 then m else d i)
      rw [if_neg (by omega)]; exact hi i hin
  obtain ⟨b0, o0, p1, p2⟩ := place
  have fin : ∀ {l0 : Asg}, runU (some n) (gOf y0 y1 d') l0 = true → AsgOk (ρP w y0 y1 yo yn eo en lx 0 d' (some n) b0 o0) l0 → CallRet prog 7 #[.agg #[pvv, ev, .bool (decide (lx ≠ 0)), .slice ad n c], sv, .agg #[vi a, vi b]] w fun v' w' => v' = .bool true ∧ Kept w w' := fun hk hl =>
    run_U (lx := lx) (ml := 0) (d := d') (k := some n) (b0 := b0) (o0 := o0) hk h (by simp; omega) hl hp he p1 rfl p2 hs
  by_cases h0 : (plX n).val (ρP w y0 y1 yo yn eo en lx 0 d' (some n) b0 o0) = 0
  case neg =>
    have hl : AsgOk (ρP w y0 y1 yo yn eo en lx 0 d' (some n) b0 o0) [(.eq (plX n) (L 0), false)] := asC (h_ne h0) asN
    have hn : n = 0 ∨ n = 1 ∨ n = 2 ∨ n = 3 ∨ n = 4 ∨ n = 5 ∨ n = 6 := by omega
    rcases hn with rfl | rfl | rfl | rfl | rfl | rfl | rfl
    · exact fin (runUe0 _) hl
    · exact fin (runUe1 _) hl
    · exact fin (runUe2 _) hl
    · exact fin (runUe3 _) hl
    · exact fin (runUe4 _) hl
    · exact fin (runUe5 _) hl
    · exact fin (runUe6 _) hl
  by_cases h4 : n ≤ 4
  case neg => exact absurd h0 (plX_many (by omega))
  have bit : ∀ i, i < 9 → Tst.holds (ρP w y0 y1 yo yn eo en lx 0 d' (some n) b0 o0) (.eq (pv i 2) (L 0)) = decide ((d' i).x = 0) := fun i hi => by
    by_cases hx : (d' i).x = 0
    · rw [decide_eq_true hx]; exact h_eq (by rw [u_pv hi (by omega)]; exact hx)
    · rw [decide_eq_false hx]; exact h_ne (by rw [u_pv hi (by omega)]; exact hx)
  have hl : ∀ l : List Bool, l = (List.range l.length).map (fun i => decide ((d' i).x = 0)) → l.length ≤ 8 → AsgOk (ρP w y0 y1 yo yn eo en lx 0 d' (some n) b0 o0) (factsX n l) := fun l e h8 => asC (h_eq h0) (xF_ok l 0 fun j b hb => by
    have hj := (List.getElem?_eq_some_iff.1 hb).1
    rw [Nat.zero_add, bit j (by omega)]
    rw [e] at hb
    simp [hj] at hb
    exact hb)
  have use : ∀ {pre : List Bool} {r : Nat}, runUs n (gOf y0 y1 d') pre r = true → ∀ l : List Bool, l.length = r → pre ++ l = (List.range (pre ++ l).length).map (fun i => decide ((d' i).x = 0)) → (pre ++ l).length ≤ 8 → CallRet prog 7 #[.agg #[pvv, ev, .bool (decide (lx ≠ 0)), .slice ad n c], sv, .agg #[vi a, vi b]] w fun v' w' => v' = .bool true ∧ Kept w w' := fun hk l hr e h8 =>
    fin (List.all_eq_true.1 hk l (hr ▸ mem_bits l)) (hl _ e h8)
  have hn : n = 0 ∨ n = 1 ∨ n = 2 ∨ n = 3 ∨ n = 4 := by omega
  rcases hn with rfl | rfl | rfl | rfl | rfl
  · exact use (runU0 _) [] rfl rfl (by simp)
  · exact use (runU1 _) [decide ((d' 0).x = 0)] rfl rfl (by simp)
  · exact use (runU2 _) [decide ((d' 0).x = 0), decide ((d' 1).x = 0)] rfl rfl (by simp)
  · cases e0 : decide ((d' 0).x = 0) with
    | true => exact use (runU3t _) [decide ((d' 1).x = 0), decide ((d' 2).x = 0)] rfl (by simp [List.range, List.range.loop, e0]) (by simp)
    | false => exact use (runU3f _) [decide ((d' 1).x = 0), decide ((d' 2).x = 0)] rfl (by simp [List.range, List.range.loop, e0]) (by simp)
  · cases e0 : decide ((d' 0).x = 0) with
    | true =>
      cases e1 : decide ((d' 1).x = 0) with
      | true =>
        cases e2 : decide ((d' 2).x = 0) with
        | true =>
          cases e3 : decide ((d' 3).x = 0) with
          | true => exact use (runU4tttt _) [] rfl (by simp [List.range, List.range.loop, e0, e1, e2, e3]) (by simp)
          | false => exact use (runU4tttf _) [] rfl (by simp [List.range, List.range.loop, e0, e1, e2, e3]) (by simp)
        | false => exact use (runU4ttf _) [decide ((d' 3).x = 0)] rfl (by simp [List.range, List.range.loop, e0, e1, e2]) (by simp)
      | false => exact use (runU4tf _) [decide ((d' 2).x = 0), decide ((d' 3).x = 0)] rfl (by simp [List.range, List.range.loop, e0, e1]) (by simp)
    | false =>
      cases e1 : decide ((d' 1).x = 0) with
      | true => exact use (runU4ft _) [decide ((d' 2).x = 0), decide ((d' 3).x = 0)] rfl (by simp [List.range, List.range.loop, e0, e1]) (by simp)
      | false => exact use (runU4ff _) [decide ((d' 2).x = 0), decide ((d' 3).x = 0)] rfl (by simp [List.range, List.range.loop, e0, e1]) (by simp)
end Go.Proofs.Tryz
