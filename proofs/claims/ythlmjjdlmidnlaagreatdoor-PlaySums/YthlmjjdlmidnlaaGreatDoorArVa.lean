/- Plain: what a valid play's moves are. Rows in memory: carried on, equal, owned. Small contracts. -/
import Derived.Test.YthlmjjdlmidnlaaGreatDoorArV
import Derived.Test.YthlmjjdlmidnlaaGreatDoorArV3
import Derived.Test.YthlmjjdlmidnlaaGreatDoorArQ2
import Derived.Test.YthlmjjdlmidnlaaGreatDoorArCc
import Derived.Test.YthlmjjdlmidnlaaGreatDoorArDe
import Derived.Test.YthlmjjdlmidnlaaGreatDoorArO
namespace Go.Proofs.Tryz
open Go Go.Am
set_option maxRecDepth 100000

/-- Each leaf is an error or the touches' check. -/
inductive OkD : DT → Prop
  | bad (n : Int) (h : n ≠ 0) : OkD (dLf n)
  | tch : OkD (.leaf mTch)
  | node (t : Tst) (a b : DT) (h1 : OkD a) (h2 : OkD b) : OkD (.node t a b)
theorem OkD.zero {ρ : Env} {d : DT} (h : OkD d) : d.eval ρ = 0 → mTch.val ρ = 0 := by
  induction h with
  | bad n hn => intro e; rw [ev_lf'] at e; exact absurd e hn
  | tch => intro e; rw [ev_leaf] at e; exact e
  | node t a b _ _ i1 i2 =>
    intro e
    unfold DT.eval at e
    cases ht : t.holds ρ with
    | true => rw [ht] at e; exact i1 e
    | false => rw [ht] at e; exact i2 e
theorem okD_way {d : Int → DT} (h : ∀ c, OkD (d c)) : ∀ l, OkD (wayR d l)
  | [] => .bad 13 (by decide)
  | _ :: l => .node _ _ _ (h _) (okD_way h l)
theorem okD_good (t : Tst) : OkD (goodD t) := .node _ _ _ .tch (.bad 15 (by decide))
theorem okD_safe (c : Int) : OkD (safeR c) := by
  unfold safeR
  refine .node _ _ _ (.bad 15 (by decide)) (.node _ _ _ ?_ .tch)
  split
  · exact .bad 15 (by decide)
  · exact .tch
theorem okD_outs (c : Int) : OkD (outsR c) := by
  unfold outsR
  split
  · exact .node _ _ _ (.bad 15 (by decide)) (okD_good _)
  split
  · exact okD_good _
  split
  · exact .node _ _ _ (.bad 15 (by decide)) (.node _ _ _ (okD_good _) .tch)
  split
  · exact okD_good _
  · exact .node _ _ _ (okD_good _) (.bad 15 (by decide))

theorem mvV_zero {fr to x so sn bo bn : Int} {y t : Int → Int} (h : mvV fr to x y so sn t bo bn = 0) : (0 ≤ fr ∧ fr ≤ 3) ∧ (1 ≤ to ∧ to ≤ 4) ∧ tchV x t bo bn = 0 := by
  have hD : OkD (.node (.eq mSn (L 1)) (.node (.eq mOu (L 0)) (wayR safeR [98, 97, 115, 112, 107, 116, 111]) (wayR outsR [102, 103, 99, 100, 107, 110, 121])) (dLf 13)) :=
    .node _ _ _ (.node _ _ _ (okD_way okD_safe _) (okD_way okD_outs _)) (.bad 13 (by decide))
  unfold mvV moveR range34 at h
  simp only [ev_le, ev_lf', val_L', mv_fr, mv_to] at h
  by_cases h1 : 0 ≤ fr
  case neg => rw [if_neg h1] at h; cases h
  by_cases h2 : fr ≤ 3
  case neg => rw [if_pos h1, if_neg h2] at h; cases h
  by_cases h3 : 1 ≤ to
  case neg => rw [if_pos h1, if_pos h2, if_neg h3] at h; cases h
  by_cases h4 : to ≤ 4
  case neg => rw [if_pos h1, if_pos h2, if_pos h3, if_neg h4] at h; cases h
  rw [if_pos h1, if_pos h2, if_pos h3, if_pos h4] at h
  have := hD.zero h
  rw [mv_tch] at this
  exact ⟨⟨h1, h2⟩, ⟨h3, h4⟩, this⟩

section
variable {x o n : Int} {t : Int → Int}
theorem tch_at (j : Nat) : (tchE j).val (envV [x, o, n] (fT t)) = t (o + j) := (rfl)
theorem tch_tn : tN.val (envV [x, o, n] (fT t)) = n := (rfl)
theorem tch_to : tO.val (envV [x, o, n] (fT t)) = x := (rfl)
theorem loop_zero : ∀ m : Nat, m ≤ 9 → (tchLoop m).eval (envV [x, o, n] (fT t)) = 0 → ∀ j : Nat, 9 - m ≤ j → j < 9 → (j : Int) < n → 1 ≤ t (o + j) ∧ t (o + j) ≤ 9
  | 0, _, _, j, h1, h2, _ => by omega
  | m + 1, hm, h, j, h1, h2, h3 => by
    unfold tchLoop at h
    simp only [ev_le, ev_lf', val_L', tch_tn, tch_at] at h
    by_cases a1 : n ≤ ((8 - m : Nat) : Int)
    · exfalso; omega
    rw [if_neg a1] at h
    by_cases a2 : 1 ≤ t (o + ((8 - m : Nat) : Int))
    case neg => rw [if_neg a2] at h; cases h
    by_cases a3 : t (o + ((8 - m : Nat) : Int)) ≤ 9
    case neg => rw [if_pos a2, if_neg a3] at h; cases h
    rw [if_pos a2, if_pos a3] at h
    have hrest : (tchLoop m).eval (envV [x, o, n] (fT t)) = 0 := by
      cases hq : 8 - m with
      | zero => rw [hq] at h; exact h
      | succ i =>
        rw [hq] at h
        simp only [ev_eq, ev_lf', tch_at] at h
        split at h
        · cases h
        · exact h
    by_cases hj : j = 8 - m
    · subst hj; exact ⟨a2, a3⟩
    · exact loop_zero m (by omega) hrest j (by omega) h2 h3

theorem tchV_zero (h : tchV x t o n = 0) : n ≤ 9 ∧ (x ≠ 0 → n ≠ 0) ∧ ∀ j : Nat, (j : Int) < n → 1 ≤ t (o + j) ∧ t (o + j) ≤ 9 := by
  unfold tchV tchT at h
  simp only [ev_le, ev_eq, ev_lf', val_L', tch_tn, tch_to] at h
  by_cases a1 : n ≤ 9
  case neg => rw [if_neg a1] at h; cases h
  rw [if_pos a1] at h
  have fin : (tchLoop 9).eval (envV [x, o, n] (fT t)) = 0 → ∀ j : Nat, (j : Int) < n → 1 ≤ t (o + j) ∧ t (o + j) ≤ 9 := fun hl j hj => loop_zero 9 (Nat.le_refl _) hl j (by omega) (by omega) hj
  by_cases a2 : x = 0
  · rw [if_pos a2] at h
    exact ⟨a1, fun q => absurd a2 q, fin h⟩
  · rw [if_neg a2] at h
    by_cases a3 : n = 0
    · rw [if_pos a3] at h; cases h
    · rw [if_neg a3] at h
      exact ⟨a1, fun _ => a3, fin h⟩
end

theorem mvs_zero (d : Nat → MvD) : ∀ (n i : Nat), mvsV d n i = 0 → ∀ j, i ≤ j → j < i + n → (d j).check = 0
  | 0, i, _, j, h1, h2 => by omega
  | n + 1, i, h, j, h1, h2 => by
    unfold mvsV at h
    by_cases hc : (d i).check = 0
    · rw [if_pos hc] at h
      split at h
      · cases h
      · by_cases hj : j = i
        · subst hj; exact hc
        · exact mvs_zero d n (i + 1) h j (by omega) (by omega)
    · rw [if_neg hc] at h; exact absurd h hc

theorem val_of {y0 y1 : Int → Int} {yo yn eo en : Int} {d : Nat → MvD} {n : Nat} (h : plV y0 yo yn y1 eo en d n = 0) (hb : ∀ i, i < n → 0 ≤ (d i).bn) : Val d n ∧ ∀ i, i < n → 1 ≤ (d i).to ∧ (d i).to ≤ 4 := by
  unfold plV at h
  by_cases h1 : pitV y0 yo yn = 0
  case neg => rw [if_neg h1] at h; exact absurd h h1
  rw [if_pos h1] at h
  by_cases h2 : evOk y1 eo en = true
  case neg => rw [if_neg h2] at h; cases h
  rw [if_pos h2] at h
  by_cases h3 : n ≤ 4
  case neg => rw [if_neg h3] at h; cases h
  rw [if_pos h3] at h
  have hc : ∀ i, i < n → (d i).check = 0 := fun i hi => mvs_zero d n 0 h i (Nat.zero_le _) (by omega)
  refine ⟨⟨h3, fun i hi => (mvV_zero (hc i hi)).1, fun i hi => ⟨hb i hi, (tchV_zero (mvV_zero (hc i hi)).2.2).1⟩, fun i hi hx => ?_, fun i hi j hj => (tchV_zero (mvV_zero (hc i hi)).2.2).2.2 j hj⟩, fun i hi => (mvV_zero (hc i hi)).2.1⟩
  have := (tchV_zero (mvV_zero (hc i hi)).2.2).2.1 hx
  have := hb i hi
  omega
end Go.Proofs.Tryz

namespace Go.Proofs.Tryz
open Go Go.Am Go.RowKit Go.Dr
set_option maxRecDepth 100000

theorem Laid.below {w W : World} (h : Laid w) (hb : Below w.heap.size w W) : Laid W := fun b o v e => (hb.cell (cell_under (h b o v e))).trans (h b o v e)
theorem IsMoves.below {w W : World} {v : Value} {d : Nat → MvD} {n : Nat} (hm : IsMoves w v d n) (h : Below w.heap.size w W) : IsMoves W v d n := by
  obtain ⟨a, c, rfl, hc, hr⟩ := hm
  exact ⟨a, c, rfl, hc, fun h0 => let ⟨b, off, ha, hi⟩ := hr h0; ⟨b, off, ha, fun i hin => (hi i hin).below h⟩⟩

/-- The integers of a list, as a row. -/
def tl (l : List Int) : Int → Int := fun j => l[j.toNat]?.getD 0

theorem intsOf {w : World} {base n : Nat} {v : Value} {t : Int → Int} {o : Int} (h : w.ownsRow base 3 1 v n (vsOf (intsL t o n))) : IsInts w v t o n := by
  rcases h.2 with ⟨rfl, rfl⟩ | ⟨g, cap, cur, rfl, h1, h2, h3, h4, h5, h6⟩
  · exact ⟨none, 0, 0, rfl, Nat.le_refl _, rfl, fun q => absurd rfl q⟩
  · refine ⟨_, n, cap, rfl, h3, rfl, fun _ => ⟨g, 0, rfl, fun j hj => ?_⟩⟩
    have := h.cellAt j (by omega)
    simp only [Nat.zero_add, vsOf, List.getElem?_map, intsL_get hj, Option.map_some] at this ⊢
    exact this

theorem ints_of_l {w : World} {base : Nat} {v : Value} {l : List Int} (h : w.ownsRow base 3 1 v l.length (vsOf l)) : IsInts w v (tl l) 0 (l.length : Nat) := by
  refine intsOf (base := base) ?_
  have e : intsL (tl l) 0 l.length = l := by
    apply List.ext_getElem?
    intro j
    by_cases hj : j < l.length
    · rw [intsL_get hj]
      simp [tl, hj]
    · rw [List.getElem?_eq_none (by rw [length_intsL]; omega), List.getElem?_eq_none (by omega)]
  rw [e]; exact h

theorem str_eq {v v' : Value} {y : Int → Int} {o n : Int} (h : IsStr v y o n) (h' : IsStr v' y o n) : v = v' := by
  obtain ⟨l, rfl, e1, e2⟩ := h
  obtain ⟨l', rfl, f1, f2⟩ := h'
  have : l = l' := by
    apply List.ext_getElem?
    intro j
    by_cases hj : j < l.length
    · have hj' : j < l'.length := by omega
      have a := e2 j _ (List.getElem?_eq_getElem hj)
      have b := f2 j _ (List.getElem?_eq_getElem hj')
      rw [List.getElem?_eq_getElem hj, List.getElem?_eq_getElem hj']
      congr 1
      apply UInt8.toNat.inj
      omega
    · rw [List.getElem?_eq_none (by omega), List.getElem?_eq_none (by omega)]
  rw [this]

/-- A move as a value. -/
def IsMvV (w : World) (v : Value) (m : MvD) : Prop := ∃ sv bv, v = .agg #[vi m.fr, vi m.to, .bool (decide (m.x ≠ 0)), sv, bv] ∧ IsStr sv m.y m.so m.sn ∧ IsInts w bv m.t m.bo m.bn
theorem IsMvV.below {w W : World} {v : Value} {m : MvD} (hm : IsMvV w v m) (h : Below w.heap.size w W) : IsMvV W v m := by
  obtain ⟨sv, bv, e, h1, h2⟩ := hm
  exact ⟨sv, bv, e, h1, h2.below h⟩
/-- The move that is none. -/
def noM : MvD := ⟨0, 0, 0, fun _ => 0, 0, 0, fun _ => 0, 0, 0⟩
def noV : Value := .agg #[.int .i64 0, .int .i64 0, .bool false, .string ⟨#[]⟩, .slice none 0 0]
theorem noM_is (w : World) : IsMvV w noV noM := ⟨_, _, rfl, ⟨[], rfl, rfl, fun j b h => by cases h⟩, ⟨none, 0, 0, rfl, Nat.le_refl _, rfl, fun q => absurd rfl q⟩⟩

theorem same_w {a b : Value} {t : Int → Int} {o n : Int} {w : World} (h1 : IsInts w a t o n) (h2 : IsInts w b t o n) (hn : n ≤ 1000000) : Calls prog 66 #[a, b] w fun e w' => e = .returned (.bool true) ∧ Below w.heap.size w w' := by
  obtain ⟨a1, m1, c1, rfl, k1, k2, k3⟩ := h1
  obtain ⟨a2, m2, c2, rfl, q1, q2, q3⟩ := h2
  obtain rfl : m1 = m2 := by omega
  by_cases hm : m1 = 0
  · subst hm; exact same_none _ _ _ _ _
  · obtain ⟨b1, o1, rfl, f1⟩ := k3 hm
    obtain ⟨b2, o2, rfl, f2⟩ := q3 hm
    exact same_some b1 o1 b2 o2 m1 c1 c2 (fun j => t (o + j)) w (by omega) f1 f2

theorem hasB15 : f15.body.isSome = true := by kernel_rfl
theorem hasB17 : f17.body.isSome = true := by kernel_rfl
theorem fn15 : cx.fn 15 = some f15 := by kernel_rfl
theorem fn17 : cx.fn 17 = some f17 := by kernel_rfl
section
variable {w : World} {y0 y1 : Int → Int} {yo yn eo en lx : Int} {d : Nat → MvD} {n : Nat} {pvv ev mv : Value}
theorem chk_w (h : Laid w) (hp : IsStr pvv y0 yo yn) (he : IsStr ev y1 eo en) (hm : IsMoves w mv d n) :
    Calls prog 15 #[.agg #[pvv, ev, .bool (decide (lx ≠ 0)), mv]] w fun e w' => e = .returned (.int .i64 (plV y0 yo yn y1 eo en d n)) ∧ Below w.heap.size w w' := by
  obtain ⟨c, hc⟩ := Option.isSome_iff_exists.1 hasB15
  refine (CallRet.calls fn15 hc (play_ret h hp he hm)).mono ?_
  rintro e w' ⟨v, rfl, rfl, hk⟩
  exact ⟨rfl, belowOf hk⟩
theorem chkR_w (h : Laid w) (hp : IsStr pvv y0 yo yn) (he : IsStr ev y1 eo en) (hm : IsMoves w mv d n) :
    Calls prog 17 #[.agg #[pvv, ev, .bool (decide (lx ≠ 0)), mv]] w fun e w' => e = .returned (.int .i64 (plV y0 yo yn y1 eo en d n)) ∧ Below w.heap.size w w' := by
  obtain ⟨c, hc⟩ := Option.isSome_iff_exists.1 hasB17
  refine (CallRet.calls fn17 hc (playR_ret h hp he hm)).mono ?_
  rintro e w' ⟨v, rfl, rfl, hk⟩
  exact ⟨rfl, belowOf hk⟩
end

theorem when_w (b : Bool) (e : Int) (w : World) : Calls prog 71 #[.bool b, .int .i64 e] w fun x w' => x = .returned (.int .i64 (if b = true then e else 0)) ∧ w' = w := by
  go_enter func71, ntmps71
  cases b with
  | true => go_wp2; go_ret; exact ⟨rfl, rfl⟩
  | false => go_wp2; go_ret; exact ⟨rfl, rfl⟩

theorem within_w (x lo hi : Int) (w : World) : Calls prog 76 #[.int .i64 x, .int .i64 lo, .int .i64 hi] w fun e w' => e = .returned (.int .i64 (if lo ≤ x ∧ x ≤ hi then 0 else 3)) ∧ w' = w := by
  go_enter func76, ntmps76
  by_cases h1 : x < lo
  · have e1 : (if lo ≤ x ∧ x ≤ hi then (0 : Int) else 3) = 3 := if_neg (by omega)
    go_wp2_with (first
      | (go_at_call 71; refine (when_w _ _ _).mono ?_; rintro e w2 ⟨rfl, rfl⟩)
      | go_in)
    go_ret
    exact ⟨by first | rfl | (rw [e1]; rfl), rfl⟩
  · by_cases h2 : x > hi
    · have e1 : (if lo ≤ x ∧ x ≤ hi then (0 : Int) else 3) = 3 := if_neg (by omega)
      go_wp2_with (first
        | (go_at_call 71; refine (when_w _ _ _).mono ?_; rintro e w2 ⟨rfl, rfl⟩)
        | go_in)
      go_ret
      exact ⟨by first | rfl | (rw [e1]; rfl) | (rw [e1]; simp [h2]), rfl⟩
    · have e1 : (if lo ≤ x ∧ x ≤ hi then (0 : Int) else 3) = 0 := if_pos (by omega)
      go_wp2_with (first
        | (go_at_call 71; refine (when_w _ _ _).mono ?_; rintro e w2 ⟨rfl, rfl⟩)
        | go_in)
      go_ret
      exact ⟨by first | rfl | (rw [e1]; rfl) | (rw [e1]; simp [h2]), rfl⟩

theorem range_w (x lo hi : Int) (w : World) : Calls prog 31 #[.int .i64 x, .int .i64 lo, .int .i64 hi] w fun e w' => e = .returned (.int .i64 (if lo ≤ x ∧ x ≤ hi then 0 else 3)) ∧ w' = w := by
  go_enter func31, ntmps31
  by_cases h1 : x < lo
  · have e1 : (if lo ≤ x ∧ x ≤ hi then (0 : Int) else 3) = 3 := if_neg (by omega)
    go_wp2
    go_ret
    exact ⟨by first | rfl | rw [e1] | (rw [e1]; rfl), rfl⟩
  · by_cases h2 : x > hi
    · have e1 : (if lo ≤ x ∧ x ≤ hi then (0 : Int) else 3) = 3 := if_neg (by omega)
      go_wp2
      go_ret
      exact ⟨by first | rfl | rw [e1] | (rw [e1]; rfl), rfl⟩
    · have e1 : (if lo ≤ x ∧ x ≤ hi then (0 : Int) else 3) = 0 := if_pos (by omega)
      go_wp2
      go_ret
      exact ⟨by first | rfl | rw [e1] | (rw [e1]; rfl), rfl⟩

/-- The first error of two. -/
theorem first_w (b : Nat) (x y : Int) (w : World) (h0 : w.cell? ⟨b, 0, none⟩ = some (.int .i64 x)) (h1 : w.cell? ⟨b, 1, none⟩ = some (.int .i64 y)) : Calls prog 70 #[.slice (some ⟨b, 0, none⟩) 2 2] w fun e w' => e = .returned (.int .i64 (if x = 0 then y else x)) ∧ Below w.heap.size w w' := by
  go_enter func70, ntmps70
  by_cases hx : x = 0
  · subst hx
    by_cases hy : y = 0
    · subst hy
      go_wp2
      refine wp_loop_rounds 3 ?_
      rw [rounds_succ]
      go_wp2
      rw [rounds_succ]
      go_wp2
      rw [rounds_succ]
      go_wp2
      go_ret
      exact ⟨rfl, Below.refl _ _⟩
    · go_wp2
      refine wp_loop_rounds 2 ?_
      rw [rounds_succ]
      go_wp2
      rw [rounds_succ]
      go_wp2
      go_ret
      exact ⟨rfl, Below.refl _ _⟩
  · go_wp2
    refine wp_loop_rounds 1 ?_
    rw [rounds_succ]
    go_wp2
    go_ret
    exact ⟨by first | rfl | (rw [if_neg hx]; rfl), Below.refl _ _⟩

theorem firstR_w (b : Nat) (x y : Int) (w : World) (h0 : w.cell? ⟨b, 0, none⟩ = some (.int .i64 x)) (h1 : w.cell? ⟨b, 1, none⟩ = some (.int .i64 y)) : Calls prog 30 #[.slice (some ⟨b, 0, none⟩) 2 2] w fun e w' => e = .returned (.int .i64 (if x = 0 then y else x)) ∧ Below w.heap.size w w' := by
  go_enter func30, ntmps30
  by_cases hx : x = 0
  · subst hx
    by_cases hy : y = 0
    · subst hy
      go_wp2
      refine wp_loop_rounds 3 ?_
      rw [rounds_succ]
      go_wp2
      rw [rounds_succ]
      go_wp2
      rw [rounds_succ]
      go_wp2
      go_ret
      exact ⟨rfl, Below.refl _ _⟩
    · go_wp2
      refine wp_loop_rounds 2 ?_
      rw [rounds_succ]
      go_wp2
      rw [rounds_succ]
      go_wp2
      go_ret
      exact ⟨rfl, Below.refl _ _⟩
  · go_wp2
    refine wp_loop_rounds 1 ?_
    rw [rounds_succ]
    go_wp2
    go_ret
    exact ⟨by first | rfl | (rw [if_neg hx]; rfl), Below.refl _ _⟩
end Go.Proofs.Tryz
