/- Plain: what Draw answers is a permutation. PlayLoose: the roads on which the law is not asked. Plain: the canonical form of a valid play's canonical form. Plain: what PlayLoose compares at its end. PlayLoose: the contracts behind the law's own loops, under one name. Rows of moves that are built one by one. A move appended onto a row of moves that is built: one law for all places. -/
import Derived.Test.YthlmjjdlmidnlaaGreatDoorAsR
import Derived.Test.YthlmjjdlmidnlaaGreatDoorAsW
import Derived.Test.YthlmjjdlmidnlaaGreatDoorAsJ
import Derived.Test.YthlmjjdlmidnlaaGreatDoorAsC
import Derived.OwnWalkIn
namespace Go.Proofs.Tryz
open Go Go.Am Go.RowKit Go.Dr
set_option maxRecDepth 100000

theorem swp_perm {l : List Int} {i k : Nat} (hi : i < l.length) (hk : k < l.length) : (swp l i k).Perm l := by
  unfold swp
  rw [List.getElem?_eq_getElem hi, List.getElem?_eq_getElem hk]
  exact List.set_set_perm hi hk
theorem drw_perm : ∀ (i : Nat) (x : Int) (l : List Int), 0 ≤ x → (i = 0 ∨ i < l.length) → (drw i x l).Perm l
  | 0, _, _, _, _ => .refl _
  | i + 1, x, l, hx, hi => by
    have hn := nextX_range hx
    have hp := place_range hn.1 i
    rw [drw]
    have hl : i + 1 < l.length := by omega
    have hs := swp_perm (l := l) (i := i + 1) (k := ((nextX x).tmod ((i : Int) + 2)).toNat) hl (by omega)
    exact (drw_perm i _ _ hn.1 (.inr (by rw [length_swp]; omega))).trans hs
theorem drawL_perm {key : Int} (n : Nat) (h : 0 ≤ key) : (drawL key n).Perm (upto n) := drw_perm _ _ _ h (by rw [length_upto]; omega)
/-- The order that a key draws. -/
def drawN (key : Int) (n : Nat) : List Nat := (drawL key n).map Int.toNat
theorem drawN_perm {key : Int} (n : Nat) (h : 0 ≤ key) : (drawN key n).Perm (List.range n) := by
  have h1 := (drawL_perm n h).map Int.toNat
  have h2 : (upto n).map Int.toNat = List.range n := by
    unfold upto
    rw [List.map_map]
    conv => rhs; rw [← List.map_id (List.range n)]
    refine List.map_congr_left fun a _ => ?_
    simp
  rw [h2] at h1
  exact h1
theorem drawN_get {key : Int} {n : Nat} (h : 0 ≤ key) {i : Nat} (hi : i < n) : ∃ k, (drawN key n)[i]? = some k ∧ (vsOf (drawL key n))[i]? = some (.int .i64 (k : Nat)) ∧ k < n := by
  have hl := length_drawL key n
  have hg : (drawL key n)[i]? = some ((drawL key n)[i]'(by omega)) := List.getElem?_eq_getElem _
  obtain ⟨z, hz⟩ : ∃ z, (drawL key n)[i]'(by omega) = z := ⟨_, rfl⟩
  rw [hz] at hg
  have hm : z ∈ upto n := (drawL_perm n h).mem_iff.1 (List.mem_of_getElem? hg)
  unfold upto at hm
  obtain ⟨k, hk, rfl⟩ := List.mem_map.1 hm
  refine ⟨k, ?_, ?_, List.mem_range.1 hk⟩
  · unfold drawN; rw [List.getElem?_map, hg]; rfl
  · unfold vsOf; rw [List.getElem?_map, hg]; rfl
theorem length_drawN (key : Int) (n : Nat) : (drawN key n).length = n := by unfold drawN; rw [List.length_map, length_drawL]
end Go.Proofs.Tryz

namespace Go.Proofs.Tryz
open Go Go.Am Go.RowKit Go.Dr
set_option maxRecDepth 100000

section
variable {w : World} {y0 y1 : Int → Int} {yo yn eo en : Int} {lx : Bool} {d : Nat → MvD} {n : Nat} {s1 s2 : ByteArray} {ad : Option Addr} {c : Nat}
variable {u0 u1 : Int → Int} {uo un fo fn : Int} {zx : Bool} {d' : Nat → MvD} {n' : Nat} {z1 z2 : ByteArray} {ad' : Option Addr} {c' : Nat} {key : Int}
theorem loose_no1 (hL : Laid w) (hp : IsStr (.string s1) y0 yo yn) (he : IsStr (.string s2) y1 eo en) (hm : IsMoves w (.slice ad n c) d n) (h : ¬ plV y0 yo yn y1 eo en d n = 0) :
    Calls prog 10 #[.agg #[.string s1, .string s2, .bool lx, .slice ad n c], .agg #[.string z1, .string z2, .bool zx, .slice ad' n' c'], .int .i64 key] w fun e w' => e = .returned (.bool true) ∧ Below w.heap.size w w' := by
  have hB : Below w.heap.size w ((w.alloc (.cells #[.string s1, .string s2, .bool lx, .slice ad n c] 24)).alloc (.cells #[.string z1, .string z2, .bool zx, .slice ad' n' c'] 24)) := ((Below.refl _ _).alloc (Nat.le_refl _) _).alloc (by simp) _
  have cA := awake_w (hL.below hB)
  obtain ⟨p, hpv⟩ : ∃ p, plV y0 yo yn y1 eo en d n = p := ⟨_, rfl⟩
  have cS : ∀ W, Below w.heap.size w W → Calls prog 17 #[.agg #[.string s1, .string s2, .bool lx, .slice ad n c]] W fun e w' => e = .returned (.int .i64 p) ∧ Below W.heap.size W w' := fun W hW => by rw [← hpv]; exact chkR_b lx (hL.below hW) hp he (hm.below hW)
  rw [hpv] at h
  clear hpv
  go_enter func10, ntmps10
  go_wp2_with fail
  go_at_call 13
  refine cA.mono ?_
  rintro e w1 ⟨rfl, hk1⟩
  have hb1 : Below w.heap.size w w1 := hB.trans (hk1.mono (by rw [size2]; omega))
  have hx1 := (at2_0 _ _ _ _ _).below hk1 (by rw [size2]; omega)
  obtain ⟨⟨x0, x1, x2, x3⟩, -⟩ := box4 hx1
  clear cA
  have cS := cS _ hb1
  go_wp2_with fail
  go_at_call 17
  refine cS.mono ?_
  rintro e w2 ⟨rfl, hk2⟩
  have hb2 : Below w.heap.size w w2 := hb1.trans (hk2.mono hb1.size)
  have hx2 := hx1.below hk2 hx1.lt
  clear x0 x1 x2 x3
  obtain ⟨⟨x0, x1, x2, x3⟩, -⟩ := box4 hx2
  have cA := awake_w (hL.below hb2)
  go_wp2_with fail
  go_at_call 13
  refine cA.mono ?_
  rintro e w3 ⟨rfl, hk3⟩
  go_wp2
  go_ret
  exact ⟨rfl, hb2.trans (hk3.mono hb2.size)⟩
theorem loose_no2 (hL : Laid w) (hp : IsStr (.string s1) y0 yo yn) (he : IsStr (.string s2) y1 eo en) (hm : IsMoves w (.slice ad n c) d n) (h : plV y0 yo yn y1 eo en d n = 0)
    (hp' : IsStr (.string z1) u0 uo un) (he' : IsStr (.string z2) u1 fo fn) (hm' : IsMoves w (.slice ad' n' c') d' n') (h' : ¬ plV u0 uo un u1 fo fn d' n' = 0) :
    Calls prog 10 #[.agg #[.string s1, .string s2, .bool lx, .slice ad n c], .agg #[.string z1, .string z2, .bool zx, .slice ad' n' c'], .int .i64 key] w fun e w' => e = .returned (.bool true) ∧ Below w.heap.size w w' := by
  have hB : Below w.heap.size w ((w.alloc (.cells #[.string s1, .string s2, .bool lx, .slice ad n c] 24)).alloc (.cells #[.string z1, .string z2, .bool zx, .slice ad' n' c'] 24)) := ((Below.refl _ _).alloc (Nat.le_refl _) _).alloc (by simp) _
  have cA := awake_w (hL.below hB)
  obtain ⟨p, hpv⟩ : ∃ p, plV u0 uo un u1 fo fn d' n' = p := ⟨_, rfl⟩
  have cS : ∀ W, Below w.heap.size w W → Calls prog 17 #[.agg #[.string s1, .string s2, .bool lx, .slice ad n c]] W fun e w' => e = .returned (.int .i64 0) ∧ Below W.heap.size W w' := fun W hW => by rw [← h]; exact chkR_b lx (hL.below hW) hp he (hm.below hW)
  have cT : ∀ W, Below w.heap.size w W → Calls prog 17 #[.agg #[.string z1, .string z2, .bool zx, .slice ad' n' c']] W fun e w' => e = .returned (.int .i64 p) ∧ Below W.heap.size W w' := fun W hW => by rw [← hpv]; exact chkR_b zx (hL.below hW) hp' he' (hm'.below hW)
  rw [hpv] at h'
  clear hpv h
  go_enter func10, ntmps10
  go_wp2_with fail
  go_at_call 13
  refine cA.mono ?_
  rintro e w1 ⟨rfl, hk1⟩
  have hb1 : Below w.heap.size w w1 := hB.trans (hk1.mono (by rw [size2]; omega))
  have hx1 := (at2_0 _ _ _ _ _).below hk1 (by rw [size2]; omega)
  have hy1 := (at2_1 _ _ _ _ _).below hk1 (by rw [size2]; omega)
  obtain ⟨⟨x0, x1, x2, x3⟩, -⟩ := box4 hx1
  clear cA
  have cS := cS _ hb1
  go_wp2_with fail
  go_at_call 17
  refine cS.mono ?_
  rintro e w2 ⟨rfl, hk2⟩
  have hb2 : Below w.heap.size w w2 := hb1.trans (hk2.mono hb1.size)
  have hx2 := hx1.below hk2 hx1.lt
  have hy2 := hy1.below hk2 hy1.lt
  clear x0 x1 x2 x3
  obtain ⟨⟨y0', y1', y2', y3'⟩, -⟩ := box4 hy2
  have cT := cT _ hb2
  go_wp2_with fail
  go_at_call 17
  refine cT.mono ?_
  rintro e w3 ⟨rfl, hk3⟩
  have hb3 : Below w.heap.size w w3 := hb2.trans (hk3.mono hb2.size)
  have hx3 := hx2.below hk3 hx2.lt
  clear y0' y1' y2' y3'
  obtain ⟨⟨x0, x1, x2, x3⟩, -⟩ := box4 hx3
  have cA := awake_w (hL.below hb3)
  go_wp2_with fail
  go_at_call 13
  refine cA.mono ?_
  rintro e w4 ⟨rfl, hk4⟩
  go_wp2
  go_ret
  exact ⟨rfl, hb3.trans (hk4.mono hb3.size)⟩
theorem loose_no3 (hL : Laid w) (hp : IsStr (.string s1) y0 yo yn) (he : IsStr (.string s2) y1 eo en) (hm : IsMoves w (.slice ad n c) d n) (h : plV y0 yo yn y1 eo en d n = 0)
    (hp' : IsStr (.string z1) u0 uo un) (he' : IsStr (.string z2) u1 fo fn) (hm' : IsMoves w (.slice ad' n' c') d' n') (h' : plV u0 uo un u1 fo fn d' n' = 0) (hk : ¬ drwV key n = 0) :
    Calls prog 10 #[.agg #[.string s1, .string s2, .bool lx, .slice ad n c], .agg #[.string z1, .string z2, .bool zx, .slice ad' n' c'], .int .i64 key] w fun e w' => e = .returned (.bool true) ∧ Below w.heap.size w w' := by
  have hB : Below w.heap.size w ((w.alloc (.cells #[.string s1, .string s2, .bool lx, .slice ad n c] 24)).alloc (.cells #[.string z1, .string z2, .bool zx, .slice ad' n' c'] 24)) := ((Below.refl _ _).alloc (Nat.le_refl _) _).alloc (by simp) _
  have cA := awake_w (hL.below hB)
  obtain ⟨p, hpv⟩ : ∃ p, drwV key n = p := ⟨_, rfl⟩
  have cS : ∀ W, Below w.heap.size w W → Calls prog 17 #[.agg #[.string s1, .string s2, .bool lx, .slice ad n c]] W fun e w' => e = .returned (.int .i64 0) ∧ Below W.heap.size W w' := fun W hW => by rw [← h]; exact chkR_b lx (hL.below hW) hp he (hm.below hW)
  have cT : ∀ W, Below w.heap.size w W → Calls prog 17 #[.agg #[.string z1, .string z2, .bool zx, .slice ad' n' c']] W fun e w' => e = .returned (.int .i64 0) ∧ Below W.heap.size W w' := fun W hW => by rw [← h']; exact chkR_b zx (hL.below hW) hp' he' (hm'.below hW)
  have cD : ∀ W, Calls prog 39 #[.int .i64 key, .int .i64 n] W fun e w' => e = .returned (.int .i64 p) ∧ Below W.heap.size W w' := fun W => by rw [← hpv]; exact checkDraw_w key n W
  rw [hpv] at hk
  clear hpv h h'
  go_enter func10, ntmps10
  go_wp2_with fail
  go_at_call 13
  refine cA.mono ?_
  rintro e w1 ⟨rfl, hk1⟩
  have hb1 : Below w.heap.size w w1 := hB.trans (hk1.mono (by rw [size2]; omega))
  have hx1 := (at2_0 _ _ _ _ _).below hk1 (by rw [size2]; omega)
  have hy1 := (at2_1 _ _ _ _ _).below hk1 (by rw [size2]; omega)
  obtain ⟨⟨x0, x1, x2, x3⟩, -⟩ := box4 hx1
  clear cA
  have cS := cS _ hb1
  go_wp2_with fail
  go_at_call 17
  refine cS.mono ?_
  rintro e w2 ⟨rfl, hk2⟩
  have hb2 : Below w.heap.size w w2 := hb1.trans (hk2.mono hb1.size)
  have hx2 := hx1.below hk2 hx1.lt
  have hy2 := hy1.below hk2 hy1.lt
  clear x0 x1 x2 x3
  obtain ⟨⟨y0', y1', y2', y3'⟩, -⟩ := box4 hy2
  have cT := cT _ hb2
  go_wp2_with fail
  go_at_call 17
  refine cT.mono ?_
  rintro e w3 ⟨rfl, hk3⟩
  have hb3 : Below w.heap.size w w3 := hb2.trans (hk3.mono hb2.size)
  have hx3 := hx2.below hk3 hx2.lt
  clear y0' y1' y2' y3'
  obtain ⟨⟨x0, x1, x2, x3⟩, -⟩ := box4 hx3
  go_wp2_with fail
  go_at_call 39
  refine (cD _).mono ?_
  rintro e w4 ⟨rfl, hk4⟩
  have hb4 : Below w.heap.size w w4 := hb3.trans (hk4.mono hb3.size)
  have cA := awake_w (hL.below hb4)
  go_wp2_with fail
  go_at_call 13
  refine cA.mono ?_
  rintro e w5 ⟨rfl, hk5⟩
  go_wp2
  go_ret
  exact ⟨rfl, hb4.trans (hk5.mono hb4.size)⟩
end
end Go.Proofs.Tryz

namespace Go.Proofs.Tryz
open Go Go.Am Go.RowKit Go.Dr
set_option maxRecDepth 100000

section
variable {y0 y1 : Int → Int} {yo yn eo en : Int} {d : Nat → MvD} {n : Nat}
theorem canL_plV (hp : plV y0 yo yn y1 eo en d n = 0) (h : FullP y0 yo yn y1 eo en d n) : plV y0 yo yn y1 eo en (dOf (canL d n)) n = 0 := by
  rw [plV_eq fun j hj => canL_eq h hj]; exact hp
theorem canL_bn (h : FullP y0 yo yn y1 eo en d n) : ∀ i, i < n → 0 ≤ (dOf (canL d n) i).bn ∧ (dOf (canL d n) i).bn ≤ 9 := fun i hi => by
  rw [(canL_eq h hi).bn]
  exact h.v.v.bn i hi
theorem canL_full (hp : plV y0 yo yn y1 eo en d n = 0) (h : FullP y0 yo yn y1 eo en d n) : FullP y0 yo yn y1 eo en (dOf (canL d n)) n :=
  full_of (canL_plV hp h) (fun i hi => (canL_bn h i hi).1) h.yn.1 h.en.1
theorem again_same (s1 s2 : ByteArray) (lx : Bool) (hp : plV y0 yo yn y1 eo en d n = 0) (h : FullP y0 yo yn y1 eo en d n) :
    sameP ⟨s1, s2, lateC lx (canL d n), canL d n⟩ (canP s1 s2 (lateC lx (canL d n)) y0 yo yn y1 eo en (dOf (canL d n)) n) = true := by
  have hf := canL_full hp h
  have hl := canL_len h
  have hl2 := canL_len hf
  rw [canP_valid s1 s2 _ (canL_plV hp h) hf]
  have e : ∀ i, i < (canL d n).length → EqM (dOf (canL d n) i) (dOf (canL (dOf (canL d n)) n) i) := fun i hi => (canL_eq hf (by omega)).symm
  have hL : lateC (lateC lx (canL d n)) (canL (dOf (canL d n)) n) = lateC lx (canL d n) := by
    rw [← late_eq _ (by rw [hl, hl2]) e, late_late]
  unfold sameP
  show ((s1.toList == s1.toList) && (s2.toList == s2.toList) && (lateC lx (canL d n) == lateC (lateC lx (canL d n)) (canL (dOf (canL d n)) n)) && sameN (dOf (canL d n)) (canL d n).length (dOf (canL (dOf (canL d n)) n)) (canL (dOf (canL d n)) n).length) = true
  rw [hL, hl, hl2, same_eqm fun i hi => e i (by omega)]
  simp
theorem canL_same (h : FullP y0 yo yn y1 eo en d n) : sameN (dOf (canL d n)) (canL d n).length d n = true := by
  rw [canL_len h]
  exact same_eqm fun i hi => canL_eq h hi
end
end Go.Proofs.Tryz

namespace Go.Proofs.Tryz
open Go Go.Am Go.RowKit Go.Dr
set_option maxRecDepth 100000

theorem mvsL_same {d d' : Nat → MvD} {n : Nat} (h : allK (fun i => sameMD (d i) (d' i)) n = true) : mvsL d n = mvsL d' n := by
  induction n with
  | zero => rfl
  | succ n ih =>
    rw [allK, Bool.and_eq_true] at h
    rw [mvsL, mvsL, ih h.1, moveL_same h.2]
theorem playL_same {l1 l2 : List UInt8} {lx : Bool} {d d' : Nat → MvD} {n n' : Nat} (h : sameN d n d' n' = true) : playL l1 l2 lx d n = playL l1 l2 lx d' n' := by
  unfold sameN at h
  rw [Bool.and_eq_true, decide_eq_true_eq] at h
  obtain ⟨rfl, h⟩ := h
  unfold playL
  rw [mvsL_same h]
theorem sumK_eq {f : MvD → Int} (hf : ∀ a b, EqM a b → f a = f b) {d d' : Nat → MvD} : ∀ {n : Nat}, (∀ i, i < n → EqM (d i) (d' i)) → sumK f d n = sumK f d' n
  | 0, _ => rfl
  | n + 1, h => by rw [sumK, sumK, sumK_eq hf fun i hi => h i (by omega), hf _ _ (h n (by omega))]
theorem one_eq {q : MvD → Bool} (hq : ∀ a b, EqM a b → q a = q b) : ∀ a b, EqM a b → one q a = one q b := fun a b h => by unfold one; rw [hq a b h]
theorem sumK_nn (q : MvD → Bool) (d : Nat → MvD) : ∀ n, 0 ≤ sumK (one q) d n
  | 0 => Int.le_refl _
  | n + 1 => by
    have := sumK_nn q d n
    have h0 : 0 ≤ one q (d n) := by unfold one; split <;> omega
    rw [sumK]
    omega
theorem sumK_pos (q : MvD → Bool) (d : Nat → MvD) : ∀ {n i : Nat}, i < n → q (d i) = true → 0 < sumK (one q) d n
  | 0, i, h, _ => absurd h (Nat.not_lt_zero _)
  | n + 1, i, h, hq => by
    rw [sumK]
    by_cases e : i = n
    · subst e
      have := sumK_nn q d i
      unfold one at this ⊢
      rw [if_pos hq]; omega
    · have := sumK_pos q d (show i < n by omega) hq
      have h0 : 0 ≤ one q (d n) := by unfold one; split <;> omega
      omega
theorem any_pos {q : MvD → Bool} {L : List MvD} (h : L.any q = true) : 0 < sumK (one q) (dOf L) L.length := by
  obtain ⟨m, hm, hq⟩ := List.any_eq_true.1 h
  obtain ⟨i, hi, rfl⟩ := List.mem_iff_getElem.1 hm
  refine sumK_pos q (dOf L) hi ?_
  unfold dOf
  rw [List.getElem?_eq_getElem hi]
  exact hq

section
variable {y0 y1 : Int → Int} {yo yn eo en : Int} {d : Nat → MvD} {n : Nat} {s1 s2 : ByteArray}
variable {u0 u1 : Int → Int} {uo un fo fn : Int} {d' : Nat → MvD} {n' : Nat} {z1 z2 : ByteArray}
/-- The strings of two canonical forms are alike just where the forms are. -/
theorem print_iff (h : plV y0 yo yn y1 eo en d n = 0) (h' : plV u0 uo un u1 fo fn d' n' = 0) (hF : FullP y0 yo yn y1 eo en d n) (hF' : FullP u0 uo un u1 fo fn d' n')
    (hp : IsStr (.string s1) y0 yo yn) (he : IsStr (.string s2) y1 eo en) (hp' : IsStr (.string z1) u0 uo un) (he' : IsStr (.string z2) u1 fo fn) (tx tz : Bool) :
    ((bA (playL s1.toList s2.toList tx (dOf (canL d n)) n)).toList == (bA (playL z1.toList z2.toList tz (dOf (canL d' n')) n')).toList) = sameP ⟨s1, s2, tx, canL d n⟩ ⟨z1, z2, tz, canL d' n'⟩ := by
  have w1 := (canL_full h hF).w
  have w2 := (canL_full h' hF').w
  rw [← str_list hp, ← str_list he] at w1
  rw [← str_list hp', ← str_list he'] at w2
  rw [bA_list, bA_list]
  unfold sameP
  dsimp only
  rw [canL_len hF, canL_len hF']
  rw [Bool.eq_iff_iff]
  simp only [Bool.and_eq_true, beq_iff_eq]
  constructor
  · intro e
    obtain ⟨e1, e2, e3, e4⟩ := playL_inj w1 w2 e
    exact ⟨⟨⟨e1, e2⟩, e3⟩, e4⟩
  · rintro ⟨⟨⟨e1, e2⟩, e3⟩, e4⟩
    rw [e1, e2, e3, playL_same e4]
theorem can_sum {q : MvD → Bool} (hq : ∀ a b, EqM a b → q a = q b) (hF : FullP y0 yo yn y1 eo en d n) : sumK (one q) (dOf (canL d n)) n = sumK (one q) d n :=
  sumK_eq (one_eq hq) fun _ hi => canL_eq hF hi
/-- The mark 'late' of a canonical form. -/
theorem late_yes {lx : Bool} (hF : FullP y0 yo yn y1 eo en d n) (h : lateC lx (canL d n) = true) : lx = true ∧ 0 < sumK (one runQ) d n ∧ 0 < sumK (one outQ) d n := by
  unfold lateC at h
  rw [Bool.and_eq_true, Bool.and_eq_true] at h
  refine ⟨h.1.1, ?_, ?_⟩
  · rw [← can_sum (fun _ _ e => EqM.run e) hF]
    have := any_pos h.1.2
    rw [canL_len hF] at this
    exact this
  · rw [← can_sum (fun _ _ e => EqM.out e) hF]
    have := any_pos h.2
    rw [canL_len hF] at this
    exact this
/-- What is printed of a canonical form. -/
theorem prn_can (h : plV y0 yo yn y1 eo en d n = 0) (hF : FullP y0 yo yn y1 eo en d n) (hp : IsStr (.string s1) y0 yo yn) (he : IsStr (.string s2) y1 eo en) : PrnP s1.toList.length s2.toList.length (dOf (canL d n)) n := by
  have hq := prn_of (canL_plV h hF) (fun i hi => (canL_bn hF i hi).1)
  have e1 : (s1.toList.length : Int) = yn := by rw [str_list hp, strL, List.length_map, List.length_range]; have := hF.yn; omega
  have e2 : (s2.toList.length : Int) = en := by rw [str_list he, strL, List.length_map, List.length_range]; have := hF.en; omega
  rw [e1, e2]; exact hq
end
end Go.Proofs.Tryz

namespace Go.Proofs.Tryz
open Go Go.Am Go.RowKit Go.Dr
set_option maxRecDepth 100000

/-- The loose play. -/
structure LooseC (w : World) (s1 s2 : ByteArray) (lx tx : Bool) (d : Nat → MvD) (n : Nat) (L : List MvD) (LL : List MvD) (P3 : PlD) : Prop where
  same : sameP P3 ⟨s1, s2, tx, L⟩ = true
  small : SmallP P3
  copy : ∀ W a k, Below w.heap.size w W → IsMoves W (.slice a LL.length k) (dOf LL) LL.length →
      Calls prog 16 #[.agg #[.string s1, .string s2, .bool lx, .slice a LL.length k]] W fun e w' => ∃ a k, e = .returned (.agg #[.string s1, .string s2, .bool lx, .slice a LL.length k]) ∧ IsMoves w' (.slice a LL.length k) (dOf LL) LL.length ∧ Below W.heap.size W w'
  can : ∀ W a k, Below w.heap.size w W → IsMoves W (.slice a LL.length k) (dOf LL) LL.length →
      Calls prog 53 #[.agg #[.string s1, .string s2, .bool lx, .slice a LL.length k]] W fun e w' => PlAns w' e 0 P3 ∧ Below W.heap.size W w'
  eq : ∀ W a k a' k', Below w.heap.size w W → IsMoves W (.slice a LL.length k) (dOf LL) LL.length → IsMoves W (.slice a' n k') d n →
      Calls prog 54 #[.agg #[.string s1, .string s2, .bool lx, .slice a LL.length k], .agg #[.string s1, .string s2, .bool lx, .slice a' n k']] W fun e w' => e = .returned (.tuple #[.bool true, .int .i64 0]) ∧ Below W.heap.size W w'
/-- All that the law's last stretch calls. -/
structure TailC (w : World) (s1 s2 z1 z2 : ByteArray) (lx zx tx tz sm : Bool) (ad ad' : Option Addr) (n c n' c' : Nat) (d d' : Nat → MvD) (L Lo : List MvD) (σ : List Nat) (S1 S2 : ByteArray) (ra rb : Int) : Prop where
  lo : ∀ ex, ExOk d n ex → ∃ P3, LooseC w s1 s2 lx tx d n L (looseL d σ ex) P3
  ss : (S1.toList == S2.toList) = sm
  late : tx = true → lx = true ∧ 0 < ra ∧ 0 < rb
  len : L.length = n
  len' : Lo.length = n'
  cP : ∀ W, Below w.heap.size w W → Calls prog 16 #[.agg #[.string s1, .string s2, .bool lx, .slice ad n c]] W fun e w' => ∃ a k, e = .returned (.agg #[.string s1, .string s2, .bool lx, .slice a n k]) ∧ IsMoves w' (.slice a n k) d n ∧ Below W.heap.size W w'
  cO : ∀ W, Below w.heap.size w W → Calls prog 16 #[.agg #[.string z1, .string z2, .bool zx, .slice ad' n' c']] W fun e w' => ∃ a k, e = .returned (.agg #[.string z1, .string z2, .bool zx, .slice a n' k]) ∧ IsMoves w' (.slice a n' k) d' n' ∧ Below W.heap.size W w'
  cC : ∀ W a k, IsMoves W (.slice a n k) (dOf L) n → Calls prog 16 #[.agg #[.string s1, .string s2, .bool tx, .slice a n k]] W fun e w' => ∃ a k, e = .returned (.agg #[.string s1, .string s2, .bool tx, .slice a n k]) ∧ IsMoves w' (.slice a n k) (dOf L) n ∧ Below W.heap.size W w'
  cX : ∀ W a k, IsMoves W (.slice a n' k) (dOf Lo) n' → Calls prog 16 #[.agg #[.string z1, .string z2, .bool tz, .slice a n' k]] W fun e w' => ∃ a k, e = .returned (.agg #[.string z1, .string z2, .bool tz, .slice a n' k]) ∧ IsMoves w' (.slice a n' k) (dOf Lo) n' ∧ Below W.heap.size W w'
  cNO : ∀ W a k, Below w.heap.size w W → IsMoves W (.slice a n' k) d' n' → Calls prog 53 #[.agg #[.string z1, .string z2, .bool zx, .slice a n' k]] W fun e w' => PlAns w' e 0 ⟨z1, z2, tz, Lo⟩ ∧ Below W.heap.size W w'
  cE2 : ∀ W a k a' k', Below w.heap.size w W → IsMoves W (.slice a n k) d n → IsMoves W (.slice a' n' k') d' n' → Calls prog 54 #[.agg #[.string s1, .string s2, .bool lx, .slice a n k], .agg #[.string z1, .string z2, .bool zx, .slice a' n' k']] W fun e w' => e = .returned (.tuple #[.bool sm, .int .i64 0]) ∧ Below W.heap.size W w'
  cPC : ∀ W a k, Below w.heap.size w W → IsMoves W (.slice a n k) (dOf L) n → Calls prog 21 #[.agg #[.string s1, .string s2, .bool tx, .slice a n k]] W fun e w' => e = .returned (.tuple #[.string S1, .int .i64 0]) ∧ Below W.heap.size W w'
  cPX : ∀ W a k, Below w.heap.size w W → IsMoves W (.slice a n' k) (dOf Lo) n' → Calls prog 21 #[.agg #[.string z1, .string z2, .bool tz, .slice a n' k]] W fun e w' => e = .returned (.tuple #[.string S2, .int .i64 0]) ∧ Below W.heap.size W w'
  cRu : ∀ W a k, Below w.heap.size w W → IsMoves W (.slice a n k) (dOf L) n → Calls prog 46 #[.agg #[.string s1, .string s2, .bool tx, .slice a n k]] W fun e w' => e = .returned (.tuple #[.int .i64 ra, .int .i64 0]) ∧ Below W.heap.size W w'
  cOu : ∀ W a k, Below w.heap.size w W → IsMoves W (.slice a n k) (dOf L) n → Calls prog 45 #[.agg #[.string s1, .string s2, .bool tx, .slice a n k]] W fun e w' => e = .returned (.tuple #[.int .i64 rb, .int .i64 0]) ∧ Below W.heap.size W w'
  cRR : ∀ W, Below w.heap.size w W → Calls prog 49 #[.agg #[.string s1, .string s2, .bool lx, .slice ad n c]] W fun e w' => e = .returned (.int .i64 ra) ∧ Below W.heap.size W w'
  cOR : ∀ W, Below w.heap.size w W → Calls prog 48 #[.agg #[.string s1, .string s2, .bool lx, .slice ad n c]] W fun e w' => e = .returned (.int .i64 rb) ∧ Below W.heap.size W w'
  cMO : ∀ W (x : Int), Below w.heap.size w W → Calls prog 34 #[.agg #[.string s1, .string s2, .bool lx, .slice ad n c], .int .i64 x] W fun e w' => IdxW d n x e ∧ Below W.heap.size W w'

section
variable {w : World} {y0 y1 : Int → Int} {yo yn eo en : Int} {lx : Bool} {d : Nat → MvD} {n : Nat} {s1 s2 : ByteArray} {ad : Option Addr} {c : Nat}
variable {u0 u1 : Int → Int} {uo un fo fn : Int} {zx : Bool} {d' : Nat → MvD} {n' : Nat} {z1 z2 : ByteArray} {ad' : Option Addr} {c' : Nat} {key : Int}
theorem tail_of (hL : Laid w) (hp : IsStr (.string s1) y0 yo yn) (he : IsStr (.string s2) y1 eo en) (hm : IsMoves w (.slice ad n c) d n) (h : plV y0 yo yn y1 eo en d n = 0)
    (hp' : IsStr (.string z1) u0 uo un) (he' : IsStr (.string z2) u1 fo fn) (hm' : IsMoves w (.slice ad' n' c') d' n') (h' : plV u0 uo un u1 fo fn d' n' = 0) (hkp : 0 ≤ key)
    (hF : FullP y0 yo yn y1 eo en d n) (hF' : FullP u0 uo un u1 fo fn d' n') : ∃ tz sm Lo S1 S2 ra rb, TailC w s1 s2 z1 z2 lx zx (lateC lx (canL d n)) tz sm ad ad' n c n' c' d d' (canL d n) Lo (drawN key n) S1 S2 ra rb := by
  have hn4 : n ≤ 4 := hF.v.v.n4
  have hb9 : ∀ i, i < n → 0 ≤ (d i).bn ∧ (d i).bn ≤ 9 := fun i hi => hF.v.v.bn i hi
  obtain ⟨L, hLe⟩ : ∃ L, canL d n = L := ⟨_, rfl⟩
  have hLn : L.length = n := by rw [← hLe]; exact canL_len hF
  obtain ⟨tx, htx⟩ : ∃ tx, lateC lx L = tx := ⟨_, rfl⟩
  have hLb : ∀ i, i < n → 0 ≤ (dOf L i).bn ∧ (dOf L i).bn ≤ 9 := by rw [← hLe]; exact canL_bn hF
  have hLp : plV y0 yo yn y1 eo en (dOf L) n = 0 := by rw [← hLe]; exact canL_plV h hF
  have hE : canE y0 yo yn y1 eo en d n = 0 := canE_valid h hF
  have hPv : canP s1 s2 lx y0 yo yn y1 eo en d n = ⟨s1, s2, tx, L⟩ := by rw [canP_valid s1 s2 lx h hF, hLe, htx]
  have hσ := drawN_perm n hkp
  obtain ⟨Lo, hLo⟩ : ∃ Lo, canL d' n' = Lo := ⟨_, rfl⟩
  obtain ⟨tz, htz⟩ : ∃ tz, lateC zx Lo = tz := ⟨_, rfl⟩
  have hLon : Lo.length = n' := by rw [← hLo]; exact canL_len hF'
  have hn4' : n' ≤ 4 := hF'.v.v.n4
  have hb9' : ∀ i, i < n' → 0 ≤ (d' i).bn ∧ (d' i).bn ≤ 9 := fun i hi => hF'.v.v.bn i hi
  have hLob : ∀ i, i < n' → 0 ≤ (dOf Lo i).bn ∧ (dOf Lo i).bn ≤ 9 := by rw [← hLo]; exact canL_bn hF'
  have hPv' : canP z1 z2 zx u0 uo un u1 fo fn d' n' = ⟨z1, z2, tz, Lo⟩ := by rw [canP_valid z1 z2 zx h' hF', hLo, htz]
  have hE' : canE u0 uo un u1 fo fn d' n' = 0 := canE_valid h' hF'
  obtain ⟨sm, hsm⟩ : ∃ sm, sameP ⟨s1, s2, tx, L⟩ ⟨z1, z2, tz, Lo⟩ = sm := ⟨_, rfl⟩
  have copyG : ∀ {s1 s2 : ByteArray} {lx : Bool} {n : Nat} {d : Nat → MvD}, n ≤ 6 → (∀ i, i < n → (d i).bn ≤ 40) → ∀ W a k, IsMoves W (.slice a n k) d n → Calls prog 16 #[.agg #[.string s1, .string s2, .bool lx, .slice a n k]] W fun e w' => ∃ a k, e = .returned (.agg #[.string s1, .string s2, .bool lx, .slice a n k]) ∧ IsMoves w' (.slice a n k) d n ∧ Below W.heap.size W w' := fun {s1 s2 lx n d} q1 q2 W a k hmW => by
    refine (copied_w (s1 := s1) (s2 := s2) (lx := lx) hmW q1 q2).mono ?_
    rintro e w' ⟨v, rfl, hm', hB⟩
    have hm2 := hm'
    obtain ⟨a, k, rfl, -, -⟩ := hm'
    exact ⟨a, k, rfl, hm2, hB⟩
  have c1P : ∀ W a k, Below w.heap.size w W → IsMoves W (.slice a n k) d n → Calls prog 101 #[.agg #[.string s1, .string s2, .bool lx, .slice a n k]] W fun e w' => PlAns w' e 0 ⟨s1, s2, tx, L⟩ ∧ Below W.heap.size W w' := fun W a k hW hmW => by
    have := can_w (lx := lx) (hL.below hW) hp he hmW (by omega) (fun i hi => by have := hb9 i hi; omega)
    rw [hE, hPv] at this
    exact this
  have c1O : ∀ W a k, Below w.heap.size w W → IsMoves W (.slice a n' k) d' n' → Calls prog 101 #[.agg #[.string z1, .string z2, .bool zx, .slice a n' k]] W fun e w' => PlAns w' e 0 ⟨z1, z2, tz, Lo⟩ ∧ Below W.heap.size W w' := fun W a k hW hmW => by
    have := can_w (lx := zx) (hL.below hW) hp' he' hmW (by omega) (fun i hi => by have := hb9' i hi; omega)
    rw [hE', hPv'] at this
    exact this
  have hSmL : SmallP ⟨s1, s2, tx, L⟩ := by
    refine ⟨by show L.length ≤ _; rw [hLn]; omega, fun i hi => ?_⟩
    have hi' : i < n := by rw [← hLn]; exact hi
    have := hLb i hi'
    show (dOf L i).bn ≤ _
    omega
  have hLop : plV u0 uo un u1 fo fn (dOf Lo) n' = 0 := by rw [← hLo]; exact canL_plV h' hF'
  rw [hLe, htx]
  refine ⟨tz, sm, Lo, bA (playL s1.toList s2.toList tx (dOf L) n), bA (playL z1.toList z2.toList tz (dOf Lo) n'), sumK (one runQ) d n, sumK (one outQ) d n, ?_⟩
  constructor
  case lo =>
    intro ex hx
    obtain ⟨LL, hLL⟩ : ∃ LL, looseL d (drawN key n) ex = LL := ⟨_, rfl⟩
    have q1 : LL.length ≤ 4 := by rw [← hLL]; exact loose_len hF hσ hx
    have q2 : ∀ i, i < LL.length → 0 ≤ (dOf LL i).bn ∧ (dOf LL i).bn ≤ 18 := by rw [← hLL]; exact fun i hi => loose_bn hF hσ hx (dOf_mem hi)
    have q3 : canE y0 yo yn y1 eo en (dOf LL) LL.length = 0 := by rw [← hLL]; exact canE_loose h hF hσ hx
    have q4 : sameP (canP s1 s2 lx y0 yo yn y1 eo en (dOf LL) LL.length) ⟨s1, s2, tx, L⟩ = true := by rw [← hPv, ← hLL]; exact canP_loose s1 s2 lx h hF hσ hx
    have q5 : SmallP (canP s1 s2 lx y0 yo yn y1 eo en (dOf LL) LL.length) := can_small _ _ _ _ _ _ _ _ _ (by omega) (fun i hi => by have := q2 i hi; omega)
    rw [hLL]
    obtain ⟨P3, hP3⟩ : ∃ P, canP s1 s2 lx y0 yo yn y1 eo en (dOf LL) LL.length = P := ⟨_, rfl⟩
    rw [hP3] at q4 q5
    have c1L : ∀ W a k, Below w.heap.size w W → IsMoves W (.slice a LL.length k) (dOf LL) LL.length → Calls prog 101 #[.agg #[.string s1, .string s2, .bool lx, .slice a LL.length k]] W fun e w' => PlAns w' e 0 P3 ∧ Below W.heap.size W w' := fun W a k hW hmW => by
      have := can_w (lx := lx) (hL.below hW) hp he hmW (by omega) (fun i hi => by have := q2 i hi; omega)
      rw [q3, hP3] at this
      exact this
    refine ⟨P3, q4, q5, fun W a k _ hmW => copyG (by omega) (fun i hi => by have := q2 i hi; omega) W a k hmW, fun W a k hW hmW => canon_w fun W' hW2 => c1L W' a k (hW.trans (hW2.mono hW.size)) (hmW.below hW2), fun W a k a' k' hW r1 r2 => ?_⟩
    have := equal_w (fun W' hW2 => c1L W' a k (hW.trans (hW2.mono hW.size)) (r1.below hW2)) (fun W' hW2 => c1P W' a' k' (hW.trans (hW2.mono hW.size)) (r2.below hW2)) q5
    have e : eqB 0 0 P3 ⟨s1, s2, tx, L⟩ = true := by unfold eqB eqE; rw [q4]; simp
    rw [e] at this
    exact this
  case ss => rw [← hsm, ← hLe, ← hLo]; exact print_iff h h' hF hF' hp he hp' he' tx tz
  case late => exact fun q => by rw [← htx, ← hLe] at q; exact late_yes hF q
  case len => exact hLn
  case len' => exact hLon
  case cP => exact fun W hW => copyG (by omega) (fun i hi => by have := hb9 i hi; omega) W _ _ (hm.below hW)
  case cO => exact fun W hW => copyG (by omega) (fun i hi => by have := hb9' i hi; omega) W _ _ (hm'.below hW)
  case cC => exact fun W a k hmW => copyG (by omega) (fun i hi => by have := hLb i hi; omega) W _ _ hmW
  case cX => exact fun W a k hmW => copyG (by omega) (fun i hi => by have := hLob i hi; omega) W _ _ hmW
  case cNO => exact fun W a k hW hmW => canon_w fun W' hW' => c1O W' a k (hW.trans (hW'.mono hW.size)) (hmW.below hW')
  case cE2 =>
    intro W a k a' k' hW q1 q2
    have := equal_w (fun W' hW' => c1P W' a k (hW.trans (hW'.mono hW.size)) (q1.below hW')) (fun W' hW' => c1O W' a' k' (hW.trans (hW'.mono hW.size)) (q2.below hW')) hSmL
    have e : eqB 0 0 ⟨s1, s2, tx, L⟩ ⟨z1, z2, tz, Lo⟩ = sm := by unfold eqB eqE; rw [hsm]; simp
    rw [e] at this
    exact this
  case cPC =>
    intro W a k hW hmW
    have b1 := bA_str hp
    have b2 := bA_str he
    rw [← str_list hp] at b1
    rw [← str_list he] at b2
    have hch := chk_b (w := W) tx (hL.below hW) hp he hmW
    rw [hLp] at hch
    have := print_w (l1 := s1.toList) (l2 := s2.toList) (lx := tx) (ad := a) (c := k) (by rw [← b1, ← b2]; exact hch) hmW (fun _ => by rw [← hLe]; exact prn_can h hF hp he)
    rw [← b1, ← b2] at this
    exact this
  case cPX =>
    intro W a k hW hmW
    have b1 := bA_str hp'
    have b2 := bA_str he'
    rw [← str_list hp'] at b1
    rw [← str_list he'] at b2
    have hch := chk_b (w := W) tz (hL.below hW) hp' he' hmW
    rw [hLop] at hch
    have := print_w (l1 := z1.toList) (l2 := z2.toList) (lx := tz) (ad := a) (c := k) (by rw [← b1, ← b2]; exact hch) hmW (fun _ => by rw [← hLo]; exact prn_can h' hF' hp' he')
    rw [← b1, ← b2] at this
    exact this
  case cRu =>
    intro W a k hW hmW
    have hch := chk_b (w := W) tx (hL.below hW) hp he hmW
    rw [hLp] at hch
    have := runs_w hch hmW (by omega)
    rw [← hLe, can_sum (fun _ _ e => EqM.run e) hF] at this
    exact this
  case cOu =>
    intro W a k hW hmW
    have hch := chk_b (w := W) tx (hL.below hW) hp he hmW
    rw [hLp] at hch
    have := outs_w hch hmW (by omega)
    rw [← hLe, can_sum (fun _ _ e => EqM.out e) hF] at this
    exact this
  case cRR => exact fun W hW => runsR_w (hm.below hW) (by omega)
  case cOR => exact fun W hW => outsR_w (hm.below hW) (by omega)
  case cMO => exact fun W x hW => moveOfR_w (hm.below hW) (by omega)
end
end Go.Proofs.Tryz

namespace Go.Proofs.Tryz
open Go Go.Am Go.RowKit Go.Dr
set_option maxRecDepth 100000

theorem F2.snocL {α β : Type} {R : α → β → Prop} {l : List α} {m : List β} (h : F2 R l m) {a : α} {b : β} (hab : R a b) : F2 R (l ++ [a]) (m ++ [b]) := by
  induction h with
  | nil => exact .cons hab .nil
  | cons h _ ih => exact .cons h ih
theorem M5Own.atL {w : World} {base b : Nat} {c : M5} {m : MvD} {cs : Array Value} {e : TypeId} (h : M5Own w base c m) (ha : At w b cs e) (he : e ≠ 3) (o : Nat) (u : Value) : M5Own (w.setCell ⟨b, o, none⟩ u) base c m := by
  refine ⟨h.1, h.2.1, h.2.2.1, h.2.2.2.1, ownsRow_setCell_other h.2.2.2.2.1 (fun q => ?_) u, h.2.2.2.2.2⟩
  obtain ⟨cs', fz, hc⟩ := Lib.ownsRow_kind h.2.2.2.2.1 _ q
  unfold At at ha
  rw [ha] at hc
  simp only [Option.some.injEq, Obj.cells.injEq] at hc
  exact he hc.2.1
theorem M5Own.grownL {w w' : World} {base base2 k : Nat} {c : M5} {m : MvD} {v : Value} {xs : List Value} (h : M5Own w base c m) (hv : w.ownsRow base2 27 5 v k xs) (hg : w.grownBy w' v.ownBlock) : M5Own w' base c m :=
  ⟨h.1, h.2.1, h.2.2.1, h.2.2.2.1, h.2.2.2.2.1.kept hg (kinds_ne h.2.2.2.2.1 hv (by decide)), h.2.2.2.2.2⟩
/-- The moves built so far. -/
def LsR (wr : World) (base : Nat) (l : List MvD) (v : Value) : Prop := ∃ lk, wr.ownsRow base 27 5 v lk.length (flat lk) ∧ F2 (M5Own wr base) lk l
theorem LsR.start (wr : World) (base : Nat) : LsR wr base [] (.slice none 0 0) := ⟨[], World.ownsRow_nil _ _ _ _, .nil⟩
theorem LsR.below {w W : World} {base : Nat} {l : List MvD} {v : Value} (h : LsR w base l v) (hb : Below w.heap.size w W) : LsR W base l v :=
  let ⟨lk, h1, h2⟩ := h; ⟨lk, owns_below h1 hb, h2.imp fun _ _ o => o.below hb⟩
theorem LsR.slice {w : World} {base : Nat} {l : List MvD} {v : Value} (h : LsR w base l v) : ∃ a k c, v = .slice a k c := let ⟨_, h1, _⟩ := h; owns_slice h1
theorem LsR.set {w : World} {base : Nat} {l : List MvD} {v : Value} (h : LsR w base l v) {b : Nat} (hb : b < base) (o : Nat) (u : Value) : LsR (w.setCell ⟨b, o, none⟩ u) base l v :=
  let ⟨lk, h1, h2⟩ := h
  ⟨lk, ownsRow_setCell_below h1 (by exact hb) u, h2.imp fun _ _ o' => ⟨o'.1, o'.2.1, o'.2.2.1, o'.2.2.2.1, ownsRow_setCell_below o'.2.2.2.2.1 (by exact hb) u, o'.2.2.2.2.2⟩⟩
theorem LsR.setM {w : World} {base : Nat} {l : List MvD} {v : Value} (h : LsR w base l v) {b : Nat} {cs : Array Value} (ha : At w b cs 27) (hv : v.ownBlock ≠ some b) (o : Nat) (u : Value) : LsR (w.setCell ⟨b, o, none⟩ u) base l v :=
  let ⟨lk, h1, h2⟩ := h
  ⟨lk, ownsRow_setCell_other h1 hv u, h2.imp fun _ _ o' => o'.atL ha (by decide) _ _⟩
theorem LsR.more {w w' : World} {base m : Nat} {l : List MvD} {v v' : Value} {lk : List M5} {x : MvD} (h1 : w.ownsRow base 27 5 v m (flat lk)) (h2 : F2 (M5Own w base) lk l) {c : M5} (hc : M5Own w base c x)
    (hg : w.grownBy w' v.ownBlock) (ho : w'.ownsRow base 27 5 v' (m + 1) (flat lk ++ c.vals)) : LsR w' base (l ++ [x]) v' := by
  have hm : m = lk.length := by have := h1.1; rw [length_flat] at this; omega
  subst hm
  refine ⟨lk ++ [c], ?_, (h2.imp fun _ _ o => o.grownL h1 hg).snocL (hc.grownL h1 hg)⟩
  have e : flat (lk ++ [c]) = flat lk ++ c.vals := by rw [flat_append]; simp [flat]
  rw [List.length_append, e]; exact ho
theorem LsR.row {w : World} {base : Nat} {l : List MvD} {v : Value} (h : LsR w base l v) : IsMoves w v (dOf l) l.length := by
  obtain ⟨lk, h1, h2⟩ := h
  exact (moves_flat h1 (h2.imp fun _ _ o => o.ok)).2
theorem LsR.count {w : World} {base k c : Nat} {l : List MvD} {a : Option Addr} (h : LsR w base l (.slice a k c)) : k = l.length := by
  obtain ⟨a', c', e, -⟩ := h.row
  simp only [Value.slice.injEq] at e
  exact e.2.1
end Go.Proofs.Tryz

namespace Go.Proofs.Tryz
open Go Go.Am Go.RowKit Go.Dr
set_option maxRecDepth 100000

theorem LsR.lt {w : World} {base : Nat} {l : List MvD} {v : Value} (h : LsR w base l v) : ∀ q, v.ownBlock = some q → base ≤ q ∧ q < w.heap.size := let ⟨_, h1, _⟩ := h; h1.lt
theorem M5Own.le {w : World} {base base' : Nat} {c : M5} {m : MvD} (h : M5Own w base c m) (hb : base' ≤ base) : M5Own w base' c m :=
  ⟨h.1, h.2.1, h.2.2.1, h.2.2.2.1, ⟨h.2.2.2.2.1.1, h.2.2.2.2.1.2.imp id fun ⟨g, cap, cur, e, hbg, r⟩ => ⟨g, cap, cur, e, Nat.le_trans hb hbg, r⟩⟩, h.2.2.2.2.2⟩
/-- What the append of one move leaves. -/
structure AppM (w w' : World) (base : Nat) (L : List MvD) (c : M5) (v u : Value) : Prop where
  row : ∀ m, M5Own w base c m → LsR w' base (L ++ [m]) u
  size : w.heap.size ≤ w'.heap.size
  old : ∀ q, q < base → q < w.heap.size → w'.heap[q]? = w.heap[q]?
  new : ∀ q, v.ownBlock ≠ some q → q < w.heap.size → w'.heap[q]? = w.heap[q]?
  below : ∀ w0 : World, Below w0.heap.size w0 w → w0.heap.size ≤ base → Below w0.heap.size w0 w'
  grown : ∃ k xs, w.ownsRow base 27 5 v k xs ∧ w.grownBy w' v.ownBlock
/-- The cells of a move. -/
def M5.arr (c : M5) : Array Value := #[.int .i64 c.f1, .int .i64 c.f2, .bool c.xb, .string c.s, .slice c.a c.k c.c]
theorem run_appendM (w : World) (base b : Nat) (ty : TypeId) (L : List MvD) (v : Value) (h : LsR w base L v) (hn : L.length ≤ 1000000) (c : M5) (hb : At w b c.arr 27) (k1 : Nat) (hbase : base ≤ w.heap.size) :
    ∃ a' k' c' w', (Builtin.append_ #[22, 22] ty #[v, .slice (some ⟨b, 0, none⟩) 1 k1]).run prog w = .ok (.slice a' k' c') w' ∧ AppM w w' base L c v (.slice a' k' c') := by
  obtain ⟨i27, hi, hz0, hz1, hz2⟩ := info_more info27
  have zz : ((.agg #[.int .i64 0, .int .i64 0, .bool false, .string ⟨#[]⟩, .slice none 0 0] : Value)).cells.size = 5 := rfl
  have hl := h.lt
  obtain ⟨lk, h1, h2⟩ := h
  have hlen := h2.len
  obtain ⟨v', w', hr, ho, hg, -⟩ := run_append_own (P := prog) w base 22 ty 27 i27 _ 5 64 underlying22 hi hz0 hz1 hz2 zz (by decide) v lk.length (flat lk) h1 ⟨b, 0, none⟩ 1 k1 c.vals rfl (fun j u hj => by
      rw [add_adr, Nat.zero_add]
      unfold At at hb
      unfold World.cell?
      rw [hb]
      simpa [M5.arr, M5.vals] using hj) (fun u hu => by
      simp only [M5.vals, List.mem_cons, List.not_mem_nil, or_false] at hu
      rcases hu with rfl | rfl | rfl | rfl | rfl <;> rfl) (by unfold maxLen; omega) (by omega) hbase
  obtain ⟨a9, k9, c9, rfl⟩ := owns_slice ho
  exact ⟨a9, k9, c9, w', hr, fun m hm => LsR.more h1 h2 hm hg ho, hg.size, fun q hq hq2 => hg.block q hq2 (fun e => by have := (hl _ e.symm).1; omega), fun q hq hq2 => hg.block q hq2 (fun e => hq e.symm),
    fun w0 h0 hw0 => h0.grown hg h0.size (fun q hq => by have := (hl q hq).1; omega), ⟨_, _, h1, hg⟩⟩

theorem wpList_appendM (w : World) {ops : Array Oper} {rest : List Oper} {o : Oper} {a : Act} {Q : Exit → Act → World → Prop} (hgd : o.guard = none) (s x : Operand)
    (ho : o.op = .call { callee := .builtin .append, args := #[s, x], argTypes := #[22, 22] }) (base b : Nat) (L : List MvD) (v : Value) (hs : a.eval s = v) (k1 : Nat) (hx : a.eval x = .slice (some ⟨b, 0, none⟩) 1 k1)
    (h : LsR w base L v) (hn : L.length ≤ 1000000) (c : M5) (hb : At w b c.arr 27) (hbase : base ≤ w.heap.size)
    (hK : ∀ a' k' c' w', AppM w w' base L c v (.slice a' k' c') → wpList prog ops Q rest (a.put o.dst (.slice a' k' c')) w') : wpList prog ops Q (o :: rest) a w := by
  obtain ⟨a', k', c', w', hr, hA⟩ := run_appendM w base b o.type L v h hn c hb k1 hbase
  refine wpList_plain hgd fun K' hK' => ?_
  unfold Oper.wp execOp
  simp only [ho, resolve, invoke, builtin, Sem.run_bind, Sem.run_pure, Result.andThen_ok, List.map_toArray, List.map_cons, List.map_nil, hs, hx, hr]
  exact hK' _ _ (hK _ _ _ _ hA)

theorem wpListIn_appendM {F : Fence} {n : Nat} (w : World) {ops : Array Oper} {rest : List Oper} {o : Oper} {a : Act} {Q : Exit → Act → World → Prop} (hgd : o.guard = none) (s x : Operand)
    (ho : o.op = .call { callee := .builtin .append, args := #[s, x], argTypes := #[22, 22] }) (base b : Nat) (L : List MvD) (v : Value) (hs : a.eval s = v) (k1 : Nat) (hx : a.eval x = .slice (some ⟨b, 0, none⟩) 1 k1)
    (h : LsR w base L v) (hn : L.length ≤ 1000000) (c : M5) (hb : At w b c.arr 27) (hbase : base ≤ w.heap.size)
    (hK : ∀ a' k' c' w', AppM w w' base L c v (.slice a' k' c') → wpListIn F n prog ops Q rest (a.put o.dst (.slice a' k' c')) w') : wpListIn F n prog ops Q (o :: rest) a w := by
  obtain ⟨a', k', c', w', hr, hA⟩ := run_appendM w base b o.type L v h hn c hb k1 hbase
  refine wpListIn_plain hgd fun K' hK' => ?_
  unfold Oper.wpIn
  refine ⟨?_, ?_⟩
  · simp [Oper.about, ho, resolve, Target.leads, Sem.run_pure]
  · rw [Oper.semAt_plain F _ _ (by rw [ho]; intro c hc'; cases hc')]
    simp [execOp, ho, resolve, invoke, builtin, hs, hx, hr, Result.andThen]
    exact hK' _ _ (hK _ _ _ _ hA)
/-- One move laid into a row of its own. -/
theorem run_sliceM (w : World) (f1 f2 : Int) (xb : Bool) (s : ByteArray) (a : Option Addr) (k c : Nat) : (Instr.buildSlice 22 1 #[(0, .agg #[.int .i64 f1, .int .i64 f2, .bool xb, .string s, .slice a k c])]).run prog w = .ok (.slice (some ⟨w.heap.size, 0, none⟩) 1 1) (w.alloc (.cells #[.int .i64 f1, .int .i64 f2, .bool xb, .string s, .slice a k c] 27)) := by
  simp [go_sem]
/-- A halt of the walk. -/
def Halt (p : Prop) : Prop := p
theorem haltM {ops : Array Oper} {rest : List Oper} {d : Option Tmp} {t : TypeId} {p : String} {f : Array Edge} {g : Option (Nat × Bool)} {x : Operand} {a : Act} {w : World} {Q : Exit → Act → World → Prop} (h : Halt (wpList prog ops Q (⟨d, Op.buildSlice 22 1 #[(0, x)], t, p, f, g⟩ :: rest) a w)) : wpList prog ops Q (⟨d, Op.buildSlice 22 1 #[(0, x)], t, p, f, g⟩ :: rest) a w := h
theorem haltM_in {F : Fence} {n : Nat} {ops : Array Oper} {rest : List Oper} {d : Option Tmp} {t : TypeId} {p : String} {f : Array Edge} {g : Option (Nat × Bool)} {x : Operand} {a : Act} {w : World} {Q : Exit → Act → World → Prop} (h : Halt (wpListIn F n prog ops Q (⟨d, Op.buildSlice 22 1 #[(0, x)], t, p, f, g⟩ :: rest) a w)) : wpListIn F n prog ops Q (⟨d, Op.buildSlice 22 1 #[(0, x)], t, p, f, g⟩ :: rest) a w := h
theorem halt_at {ops : Array Oper} {rest : List Oper} {d : Option Tmp} {t : TypeId} {p : String} {f : Array Edge} {g : Option (Nat × Bool)} {x : Operand} {a : Act} {w : World} {Q : Exit → Act → World → Prop} (h : Halt (wpList prog ops Q (⟨d, Op.fieldAddr 24 x 3, t, p, f, g⟩ :: rest) a w)) : wpList prog ops Q (⟨d, Op.fieldAddr 24 x 3, t, p, f, g⟩ :: rest) a w := h
theorem halt_in {F : Fence} {n : Nat} {ops : Array Oper} {rest : List Oper} {d : Option Tmp} {t : TypeId} {p : String} {f : Array Edge} {g : Option (Nat × Bool)} {x : Operand} {a : Act} {w : World} {Q : Exit → Act → World → Prop} (h : Halt (wpListIn F n prog ops Q (⟨d, Op.fieldAddr 24 x 3, t, p, f, g⟩ :: rest) a w)) : wpListIn F n prog ops Q (⟨d, Op.fieldAddr 24 x 3, t, p, f, g⟩ :: rest) a w := h
theorem wpList_sliceM (w : World) {ops : Array Oper} {rest : List Oper} {o : Oper} {a : Act} {Q : Exit → Act → World → Prop} (hgd : o.guard = none) (x : Operand) (ho : o.op = .buildSlice 22 1 #[(0, x)]) (f1 f2 : Int) (xb : Bool) (s : ByteArray) (ad : Option Addr) (k c : Nat)
    (hx : a.eval x = .agg #[.int .i64 f1, .int .i64 f2, .bool xb, .string s, .slice ad k c])
    (h : wpList prog ops Q rest (a.put o.dst (.slice (some ⟨w.heap.size, 0, none⟩) 1 1)) (w.alloc (.cells #[.int .i64 f1, .int .i64 f2, .bool xb, .string s, .slice ad k c] 27))) : wpList prog ops Q (o :: rest) a w := by
  refine wpList_plain hgd fun K' hK' => ?_
  unfold Oper.wp execOp
  simp only [ho, List.map_toArray, List.map_cons, List.map_nil, hx, Sem.run_bind, run_sliceM, Result.andThen_ok, Sem.run_pure]
  exact hK' _ _ h
theorem wpListIn_sliceM {F : Fence} {n : Nat} (w : World) {ops : Array Oper} {rest : List Oper} {o : Oper} {a : Act} {Q : Exit → Act → World → Prop} (hgd : o.guard = none) (x : Operand) (ho : o.op = .buildSlice 22 1 #[(0, x)]) (f1 f2 : Int) (xb : Bool) (s : ByteArray) (ad : Option Addr) (k c : Nat)
    (hx : a.eval x = .agg #[.int .i64 f1, .int .i64 f2, .bool xb, .string s, .slice ad k c])
    (h : wpListIn F n prog ops Q rest (a.put o.dst (.slice (some ⟨w.heap.size, 0, none⟩) 1 1)) (w.alloc (.cells #[.int .i64 f1, .int .i64 f2, .bool xb, .string s, .slice ad k c] 27))) : wpListIn F n prog ops Q (o :: rest) a w := by
  refine wpListIn_plain hgd fun K' hK' => ?_
  unfold Oper.wpIn
  refine ⟨?_, ?_⟩
  · simp [Oper.about, ho]
  · rw [Oper.semAt_plain F _ _ (by rw [ho]; intro c hc'; cases hc')]
    simp only [execOp, ho, List.map_toArray, List.map_cons, List.map_nil, hx, Sem.run_bind, run_sliceM, Result.andThen_ok, Sem.run_pure]
    exact hK' _ _ h
end Go.Proofs.Tryz
