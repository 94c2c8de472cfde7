/- PlayBack returns true, and what was in memory is as it was: by the kit's walk. On the seat of the open Play statements: the row of PlayBack, proved. -/
import Derived.Test.YthlmjjdlmidnlaaGreatDoorAuDu
import Derived.Test.YthlmjjdlmidnlaaGreatDoorAtHu
namespace Go.Proofs.Tryz
open Go Go.Am Go.RowKit Go.Dr
set_option maxRecDepth 100000

section
variable {w : World} {l1 l2 m1 m2 : List UInt8} {lx mx : Bool} {d d' : Nat → MvD} {n n' c c' : Nat} {ad ad' : Option Addr} {p : Nat → PlH} {k cl : Nat} {al : Option Addr}
theorem back_no1 (hL : Laid w) (hm : IsMoves w (.slice ad n c) d n) (h : ¬ plV (yB l1) 0 (l1.length : Nat) (yB l2) 0 (l2.length : Nat) d n = 0) :
    Calls prog 12 #[.agg #[.string (bA l1), .string (bA l2), .bool lx, .slice ad n c], .agg #[.string (bA m1), .string (bA m2), .bool mx, .slice ad' n' c'], .slice al k cl] w fun e w' => e = .returned (.bool true) ∧ Below w.heap.size w w' := by
  obtain ⟨q, hq⟩ : ∃ q, plV (yB l1) 0 (l1.length : Nat) (yB l2) 0 (l2.length : Nat) d n = q := ⟨_, rfl⟩
  rw [hq] at h
  have h' : (q != 0) = true := by simpa using h
  have c17 : ∀ W, Below w.heap.size w W → Calls prog 17 #[.agg #[.string (bA l1), .string (bA l2), .bool lx, .slice ad n c]] W fun e w' => e = .returned (.int .i64 (q)) ∧ Below W.heap.size W w' := fun W hW => by
    have := chkR_p lx (hL.below hW) (isStr_bA l1) (isStr_bA l2) (hm.below hW)
    rwa [hq] at this
  have hB : Below w.heap.size w ((w.alloc (.cells #[.string (bA l1), .string (bA l2), .bool lx, .slice ad n c] 24)).alloc (.cells #[.string (bA m1), .string (bA m2), .bool mx, .slice ad' n' c'] 24)) := ((Below.refl _ _).alloc (Nat.le_refl _) _).alloc (by simp) _
  have hx0 : At ((w.alloc (.cells #[.string (bA l1), .string (bA l2), .bool lx, .slice ad n c] 24)).alloc (.cells #[.string (bA m1), .string (bA m2), .bool mx, .slice ad' n' c'] 24)) w.heap.size #[.string (bA l1), .string (bA l2), .bool lx, .slice ad n c] 24 := (at_new w #[.string (bA l1), .string (bA l2), .bool lx, .slice ad n c] 24).alloc _
  have hz0 : At ((w.alloc (.cells #[.string (bA l1), .string (bA l2), .bool lx, .slice ad n c] 24)).alloc (.cells #[.string (bA m1), .string (bA m2), .bool mx, .slice ad' n' c'] 24)) (w.heap.size + 1) #[.string (bA m1), .string (bA m2), .bool mx, .slice ad' n' c'] 24 := by
    have := at_new (w.alloc (.cells #[.string (bA l1), .string (bA l2), .bool lx, .slice ad n c] 24)) #[.string (bA m1), .string (bA m2), .bool mx, .slice ad' n' c'] 24
    simpa using this
  have cA := awake_w (hL.below hB)
  clear hq hm h
  go_enter func12, ntmps12
  go_wp2_with fail
  go_at_call 13
  refine cA.mono ?_
  rintro e w1 ⟨rfl, hk1⟩
  have hb1 : Below w.heap.size w w1 := hB.trans (hk1.mono hB.size)
  have hx1 := hx0.below hk1 hx0.lt
  have hz1 := hz0.below hk1 hz0.lt
  obtain ⟨⟨x0, x1, x2, x3⟩, -⟩ := box4 hx1
  have cC := c17 _ hb1
  clear cA hx0 hz0 hB hk1 c17
  go_wp2_with fail
  go_at_call 17
  refine cC.mono ?_
  rintro e w2 ⟨rfl, hk2⟩
  have hb2 : Below w.heap.size w w2 := hb1.trans (hk2.mono hb1.size)
  have hx2 := hx1.below hk2 hx1.lt
  have hz2 := hz1.below hk2 hz1.lt
  clear cC x0 x1 x2 x3 hx1 hz1 hb1 hk2
  have cA := awake_w (hL.below hb2)
  go_wp2_with fail
  go_at_call 13
  refine cA.mono ?_
  rintro e wz ⟨rfl, hkz⟩
  go_wp2
  go_ret
  exact ⟨rfl, hb2.trans (hkz.mono hb2.size)⟩
theorem back_no2 (hL : Laid w) (hm : IsMoves w (.slice ad n c) d n) (hm' : IsMoves w (.slice ad' n' c') d' n') (h1 : plV (yB l1) 0 (l1.length : Nat) (yB l2) 0 (l2.length : Nat) d n = 0) (h : ¬ plV (yB m1) 0 (m1.length : Nat) (yB m2) 0 (m2.length : Nat) d' n' = 0) :
    Calls prog 12 #[.agg #[.string (bA l1), .string (bA l2), .bool lx, .slice ad n c], .agg #[.string (bA m1), .string (bA m2), .bool mx, .slice ad' n' c'], .slice al k cl] w fun e w' => e = .returned (.bool true) ∧ Below w.heap.size w w' := by
  obtain ⟨q, hq⟩ : ∃ q, plV (yB m1) 0 (m1.length : Nat) (yB m2) 0 (m2.length : Nat) d' n' = q := ⟨_, rfl⟩
  rw [hq] at h
  have h' : (q != 0) = true := by simpa using h
  have c17 : ∀ W, Below w.heap.size w W → Calls prog 17 #[.agg #[.string (bA l1), .string (bA l2), .bool lx, .slice ad n c]] W fun e w' => e = .returned (.int .i64 (0)) ∧ Below W.heap.size W w' := fun W hW => by
    have := chkR_p lx (hL.below hW) (isStr_bA l1) (isStr_bA l2) (hm.below hW)
    rwa [h1] at this
  have c17' : ∀ W, Below w.heap.size w W → Calls prog 17 #[.agg #[.string (bA m1), .string (bA m2), .bool mx, .slice ad' n' c']] W fun e w' => e = .returned (.int .i64 (q)) ∧ Below W.heap.size W w' := fun W hW => by
    have := chkR_p mx (hL.below hW) (isStr_bA m1) (isStr_bA m2) (hm'.below hW)
    rwa [hq] at this
  have hB : Below w.heap.size w ((w.alloc (.cells #[.string (bA l1), .string (bA l2), .bool lx, .slice ad n c] 24)).alloc (.cells #[.string (bA m1), .string (bA m2), .bool mx, .slice ad' n' c'] 24)) := ((Below.refl _ _).alloc (Nat.le_refl _) _).alloc (by simp) _
  have hx0 : At ((w.alloc (.cells #[.string (bA l1), .string (bA l2), .bool lx, .slice ad n c] 24)).alloc (.cells #[.string (bA m1), .string (bA m2), .bool mx, .slice ad' n' c'] 24)) w.heap.size #[.string (bA l1), .string (bA l2), .bool lx, .slice ad n c] 24 := (at_new w #[.string (bA l1), .string (bA l2), .bool lx, .slice ad n c] 24).alloc _
  have hz0 : At ((w.alloc (.cells #[.string (bA l1), .string (bA l2), .bool lx, .slice ad n c] 24)).alloc (.cells #[.string (bA m1), .string (bA m2), .bool mx, .slice ad' n' c'] 24)) (w.heap.size + 1) #[.string (bA m1), .string (bA m2), .bool mx, .slice ad' n' c'] 24 := by
    have := at_new (w.alloc (.cells #[.string (bA l1), .string (bA l2), .bool lx, .slice ad n c] 24)) #[.string (bA m1), .string (bA m2), .bool mx, .slice ad' n' c'] 24
    simpa using this
  have cA := awake_w (hL.below hB)
  clear hq hm hm' h h1
  go_enter func12, ntmps12
  go_wp2_with fail
  go_at_call 13
  refine cA.mono ?_
  rintro e w1 ⟨rfl, hk1⟩
  have hb1 : Below w.heap.size w w1 := hB.trans (hk1.mono hB.size)
  have hx1 := hx0.below hk1 hx0.lt
  have hz1 := hz0.below hk1 hz0.lt
  obtain ⟨⟨x0, x1, x2, x3⟩, -⟩ := box4 hx1
  have cC := c17 _ hb1
  clear cA hx0 hz0 hB hk1 c17
  go_wp2_with fail
  go_at_call 17
  refine cC.mono ?_
  rintro e w2 ⟨rfl, hk2⟩
  have hb2 : Below w.heap.size w w2 := hb1.trans (hk2.mono hb1.size)
  have hx2 := hx1.below hk2 hx1.lt
  have hz2 := hz1.below hk2 hz1.lt
  clear cC x0 x1 x2 x3 hx1 hz1 hb1 hk2
  obtain ⟨⟨z0, z1, z2, z3⟩, -⟩ := box4 hz2
  have cC := c17' _ hb2
  clear c17'
  go_wp2_with fail
  go_at_call 17
  refine cC.mono ?_
  rintro e w3 ⟨rfl, hk3⟩
  have hb3 : Below w.heap.size w w3 := hb2.trans (hk3.mono hb2.size)
  have hx3 := hx2.below hk3 hx2.lt
  have hz3 := hz2.below hk3 hz2.lt
  clear cC z0 z1 z2 z3 hx2 hz2 hb2 hk3
  have cA := awake_w (hL.below hb3)
  go_wp2_with fail
  go_at_call 13
  refine cA.mono ?_
  rintro e wz ⟨rfl, hkz⟩
  go_wp2
  go_ret
  exact ⟨rfl, hb3.trans (hkz.mono hb3.size)⟩
theorem back_no3 (hL : Laid w) (hm : IsMoves w (.slice ad n c) d n) (hm' : IsMoves w (.slice ad' n' c') d' n') (h1 : plV (yB l1) 0 (l1.length : Nat) (yB l2) 0 (l2.length : Nat) d n = 0) (h2 : plV (yB m1) 0 (m1.length : Nat) (yB m2) 0 (m2.length : Nat) d' n' = 0) (h : 8 < k) :
    Calls prog 12 #[.agg #[.string (bA l1), .string (bA l2), .bool lx, .slice ad n c], .agg #[.string (bA m1), .string (bA m2), .bool mx, .slice ad' n' c'], .slice al k cl] w fun e w' => e = .returned (.bool true) ∧ Below w.heap.size w w' := by
  have h' : (8 : Int) < (k : Int) := by omega
  have c17 : ∀ W, Below w.heap.size w W → Calls prog 17 #[.agg #[.string (bA l1), .string (bA l2), .bool lx, .slice ad n c]] W fun e w' => e = .returned (.int .i64 (0)) ∧ Below W.heap.size W w' := fun W hW => by
    have := chkR_p lx (hL.below hW) (isStr_bA l1) (isStr_bA l2) (hm.below hW)
    rwa [h1] at this
  have c17' : ∀ W, Below w.heap.size w W → Calls prog 17 #[.agg #[.string (bA m1), .string (bA m2), .bool mx, .slice ad' n' c']] W fun e w' => e = .returned (.int .i64 (0)) ∧ Below W.heap.size W w' := fun W hW => by
    have := chkR_p mx (hL.below hW) (isStr_bA m1) (isStr_bA m2) (hm'.below hW)
    rwa [h2] at this
  have hB : Below w.heap.size w ((w.alloc (.cells #[.string (bA l1), .string (bA l2), .bool lx, .slice ad n c] 24)).alloc (.cells #[.string (bA m1), .string (bA m2), .bool mx, .slice ad' n' c'] 24)) := ((Below.refl _ _).alloc (Nat.le_refl _) _).alloc (by simp) _
  have hx0 : At ((w.alloc (.cells #[.string (bA l1), .string (bA l2), .bool lx, .slice ad n c] 24)).alloc (.cells #[.string (bA m1), .string (bA m2), .bool mx, .slice ad' n' c'] 24)) w.heap.size #[.string (bA l1), .string (bA l2), .bool lx, .slice ad n c] 24 := (at_new w #[.string (bA l1), .string (bA l2), .bool lx, .slice ad n c] 24).alloc _
  have hz0 : At ((w.alloc (.cells #[.string (bA l1), .string (bA l2), .bool lx, .slice ad n c] 24)).alloc (.cells #[.string (bA m1), .string (bA m2), .bool mx, .slice ad' n' c'] 24)) (w.heap.size + 1) #[.string (bA m1), .string (bA m2), .bool mx, .slice ad' n' c'] 24 := by
    have := at_new (w.alloc (.cells #[.string (bA l1), .string (bA l2), .bool lx, .slice ad n c] 24)) #[.string (bA m1), .string (bA m2), .bool mx, .slice ad' n' c'] 24
    simpa using this
  have cA := awake_w (hL.below hB)
  clear hm hm' h h1 h2
  go_enter func12, ntmps12
  go_wp2_with fail
  go_at_call 13
  refine cA.mono ?_
  rintro e w1 ⟨rfl, hk1⟩
  have hb1 : Below w.heap.size w w1 := hB.trans (hk1.mono hB.size)
  have hx1 := hx0.below hk1 hx0.lt
  have hz1 := hz0.below hk1 hz0.lt
  obtain ⟨⟨x0, x1, x2, x3⟩, -⟩ := box4 hx1
  have cC := c17 _ hb1
  clear cA hx0 hz0 hB hk1 c17
  go_wp2_with fail
  go_at_call 17
  refine cC.mono ?_
  rintro e w2 ⟨rfl, hk2⟩
  have hb2 : Below w.heap.size w w2 := hb1.trans (hk2.mono hb1.size)
  have hx2 := hx1.below hk2 hx1.lt
  have hz2 := hz1.below hk2 hz1.lt
  clear cC x0 x1 x2 x3 hx1 hz1 hb1 hk2
  obtain ⟨⟨z0, z1, z2, z3⟩, -⟩ := box4 hz2
  have cC := c17' _ hb2
  clear c17'
  go_wp2_with fail
  go_at_call 17
  refine cC.mono ?_
  rintro e w3 ⟨rfl, hk3⟩
  have hb3 : Below w.heap.size w w3 := hb2.trans (hk3.mono hb2.size)
  have hx3 := hx2.below hk3 hx2.lt
  have hz3 := hz2.below hk3 hz2.lt
  clear cC z0 z1 z2 z3 hx2 hz2 hb2 hk3
  have cA := awake_w (hL.below hb3)
  go_wp2_with fail
  go_at_call 13
  refine cA.mono ?_
  rintro e wz ⟨rfl, hkz⟩
  go_wp2
  go_ret
  exact ⟨rfl, hb3.trans (hkz.mono hb3.size)⟩
theorem back_no4 (hL : Laid w) (hm : IsMoves w (.slice ad n c) d n) (hm' : IsMoves w (.slice ad' n' c') d' n') (hl : IsPlays w (.slice al k cl) p k) (h1 : plV (yB l1) 0 (l1.length : Nat) (yB l2) 0 (l2.length : Nat) d n = 0) (h2 : plV (yB m1) 0 (m1.length : Nat) (yB m2) 0 (m2.length : Nat) d' n' = 0) (h8 : k ≤ 8) (h : ¬ chkL p k = 0) :
    Calls prog 12 #[.agg #[.string (bA l1), .string (bA l2), .bool lx, .slice ad n c], .agg #[.string (bA m1), .string (bA m2), .bool mx, .slice ad' n' c'], .slice al k cl] w fun e w' => e = .returned (.bool true) ∧ Below w.heap.size w w' := by
  obtain ⟨q, hq⟩ : ∃ q, chkL p k = q := ⟨_, rfl⟩
  rw [hq] at h
  have h' : (q != 0) = true := by simpa using h
  have h9 : ¬ (8 : Int) < (k : Int) := by omega
  have c17 : ∀ W, Below w.heap.size w W → Calls prog 17 #[.agg #[.string (bA l1), .string (bA l2), .bool lx, .slice ad n c]] W fun e w' => e = .returned (.int .i64 (0)) ∧ Below W.heap.size W w' := fun W hW => by
    have := chkR_p lx (hL.below hW) (isStr_bA l1) (isStr_bA l2) (hm.below hW)
    rwa [h1] at this
  have c17' : ∀ W, Below w.heap.size w W → Calls prog 17 #[.agg #[.string (bA m1), .string (bA m2), .bool mx, .slice ad' n' c']] W fun e w' => e = .returned (.int .i64 (0)) ∧ Below W.heap.size W w' := fun W hW => by
    have := chkR_p mx (hL.below hW) (isStr_bA m1) (isStr_bA m2) (hm'.below hW)
    rwa [h2] at this
  have c61 : ∀ W, Below w.heap.size w W → Calls prog 61 #[.slice al k cl] W fun e w' => e = .returned (.int .i64 q) ∧ Below W.heap.size W w' := fun W hW => by
    have := checkPlays_w (hL.below hW) (hl.below hW)
    rwa [hq] at this
  have hB : Below w.heap.size w ((w.alloc (.cells #[.string (bA l1), .string (bA l2), .bool lx, .slice ad n c] 24)).alloc (.cells #[.string (bA m1), .string (bA m2), .bool mx, .slice ad' n' c'] 24)) := ((Below.refl _ _).alloc (Nat.le_refl _) _).alloc (by simp) _
  have hx0 : At ((w.alloc (.cells #[.string (bA l1), .string (bA l2), .bool lx, .slice ad n c] 24)).alloc (.cells #[.string (bA m1), .string (bA m2), .bool mx, .slice ad' n' c'] 24)) w.heap.size #[.string (bA l1), .string (bA l2), .bool lx, .slice ad n c] 24 := (at_new w #[.string (bA l1), .string (bA l2), .bool lx, .slice ad n c] 24).alloc _
  have hz0 : At ((w.alloc (.cells #[.string (bA l1), .string (bA l2), .bool lx, .slice ad n c] 24)).alloc (.cells #[.string (bA m1), .string (bA m2), .bool mx, .slice ad' n' c'] 24)) (w.heap.size + 1) #[.string (bA m1), .string (bA m2), .bool mx, .slice ad' n' c'] 24 := by
    have := at_new (w.alloc (.cells #[.string (bA l1), .string (bA l2), .bool lx, .slice ad n c] 24)) #[.string (bA m1), .string (bA m2), .bool mx, .slice ad' n' c'] 24
    simpa using this
  have cA := awake_w (hL.below hB)
  clear hq hm hm' hl h h1 h2
  go_enter func12, ntmps12
  go_wp2_with fail
  go_at_call 13
  refine cA.mono ?_
  rintro e w1 ⟨rfl, hk1⟩
  have hb1 : Below w.heap.size w w1 := hB.trans (hk1.mono hB.size)
  have hx1 := hx0.below hk1 hx0.lt
  have hz1 := hz0.below hk1 hz0.lt
  obtain ⟨⟨x0, x1, x2, x3⟩, -⟩ := box4 hx1
  have cC := c17 _ hb1
  clear cA hx0 hz0 hB hk1 c17
  go_wp2_with fail
  go_at_call 17
  refine cC.mono ?_
  rintro e w2 ⟨rfl, hk2⟩
  have hb2 : Below w.heap.size w w2 := hb1.trans (hk2.mono hb1.size)
  have hx2 := hx1.below hk2 hx1.lt
  have hz2 := hz1.below hk2 hz1.lt
  clear cC x0 x1 x2 x3 hx1 hz1 hb1 hk2
  obtain ⟨⟨z0, z1, z2, z3⟩, -⟩ := box4 hz2
  have cC := c17' _ hb2
  clear c17'
  go_wp2_with fail
  go_at_call 17
  refine cC.mono ?_
  rintro e w3 ⟨rfl, hk3⟩
  have hb3 : Below w.heap.size w w3 := hb2.trans (hk3.mono hb2.size)
  have hx3 := hx2.below hk3 hx2.lt
  have hz3 := hz2.below hk3 hz2.lt
  clear cC z0 z1 z2 z3 hx2 hz2 hb2 hk3
  have cC := c61 _ hb3
  clear c61
  go_wp2_with fail
  go_at_call 61
  refine cC.mono ?_
  rintro e w4 ⟨rfl, hk4⟩
  have hb4 : Below w.heap.size w w4 := hb3.trans (hk4.mono hb3.size)
  have hx4 := hx3.below hk4 hx3.lt
  have hz4 := hz3.below hk4 hz3.lt
  clear cC hx3 hz3 hb3 hk4
  have cA := awake_w (hL.below hb4)
  go_wp2_with fail
  go_at_call 13
  refine cA.mono ?_
  rintro e wz ⟨rfl, hkz⟩
  go_wp2
  go_ret
  exact ⟨rfl, hb4.trans (hkz.mono hb4.size)⟩
theorem back_go (hL : Laid w) (hm : IsMoves w (.slice ad n c) d n) (hm' : IsMoves w (.slice ad' n' c') d' n') (hl : IsPlays w (.slice al k cl) p k) (hM : MaxL w) (h1 : plV (yB l1) 0 (l1.length : Nat) (yB l2) 0 (l2.length : Nat) d n = 0) (h2 : plV (yB m1) 0 (m1.length : Nat) (yB m2) 0 (m2.length : Nat) d' n' = 0) (h8 : k ≤ 8) (h3 : chkL p k = 0) :
    Calls prog 12 #[.agg #[.string (bA l1), .string (bA l2), .bool lx, .slice ad n c], .agg #[.string (bA m1), .string (bA m2), .bool mx, .slice ad' n' c'], .slice al k cl] w fun e w' => e = .returned (.bool true) ∧ Below w.heap.size w w' := by
  have h9 : ¬ (8 : Int) < (k : Int) := by omega
  have bP := back_of (lx := lx) h1 (moves_bn hm)
  have bO := back_of (lx := mx) h2 (moves_bn hm')
  have hA : AllP p k := ⟨(chkL_zero h3).2, fun i hi => by
    obtain ⟨b, off, c0, ad0, k0, kc, -, -, hmv, -, -⟩ := hl.at hi
    exact moves_bn hmv⟩
  obtain ⟨L, hL1, hL2, hL3⟩ := bP.par
  obtain ⟨out, hO1, hO2, hO3⟩ := hA.par (by omega)
  have hlen : (prAll p k).length ≤ 4096 := by have := hA.len k (Nat.le_refl _); omega
  have hln := hA.lines
  have hv1 := (valP_of h1 (moves_bn hm)).v
  have hv2 := (valP_of h2 (moves_bn hm')).v
  have hpr1 := prn_of h1 (moves_bn hm)
  have hpr2 := prn_of h2 (moves_bn hm')
  have hprA := plays_prn hl h3
  obtain ⟨S, hS⟩ : ∃ S, playL l1 l2 lx d n = S := ⟨_, rfl⟩
  obtain ⟨T, hT⟩ : ∃ T, playL m1 m2 mx d' n' = T := ⟨_, rfl⟩
  obtain ⟨A, hAA⟩ : ∃ A, prAll p k = A := ⟨_, rfl⟩
  have hSl : S.length ≤ 100 := by rw [← hS]; exact bP.len
  have hS0 : S ≠ [] := by rw [← hS]; exact playL_ne _ _ _ _ _
  -- the two strings are alike exactly if the plays are
  obtain ⟨st, hst⟩ : ∃ st, (((bA l1).toList == (bA m1).toList) && ((bA l2).toList == (bA m2).toList) && (lx == mx) && sameN d n d' n') = st := ⟨_, rfl⟩
  have hST : ((bA S).toList == (bA T).toList) = st := by
    rw [← hst, bA_list, bA_list, bA_list, bA_list, bA_list, bA_list]
    rw [Bool.eq_iff_iff]
    simp only [beq_iff_eq, Bool.and_eq_true]
    constructor
    · intro e
      rw [← hS, ← hT] at e
      obtain ⟨e1, e2, e3, e4⟩ := playL_inj bP.wp bO.wp e
      exact ⟨⟨⟨e1, e2⟩, e3⟩, e4⟩
    · rintro ⟨⟨⟨e1, e2⟩, e3⟩, e4⟩
      rw [← hS, ← hT, e1, e2, e3, playL_same e4]
  have hSz : (bA S).size = S.length := bA_size S
  have hnw := bP.nwords
  obtain ⟨KW, hKW⟩ : ∃ K, 2 + n + (if lx = true then 1 else 0) = K := ⟨_, rfl⟩
  have HKW := Lib.hid hKW
  rw [hKW] at hnw
  have hKW2 : 2 ≤ KW := by omega
  clear hKW
  have hn0 : (n : Int) ≤ 4 := by have := hv1.n4; omega
  rw [hS] at hL1 hnw
  rw [hAA] at hO1 hlen hln
  have hLbn : ∀ i, i < L.length → (dOf L i).bn ≤ 9 := by
    have := (parL_small S).2
    rw [hL1] at this
    exact this
  have c17 : ∀ W, Below w.heap.size w W → Calls prog 17 #[.agg #[.string (bA l1), .string (bA l2), .bool lx, .slice ad n c]] W fun e w' => e = .returned (.int .i64 (0)) ∧ Below W.heap.size W w' := fun W hW => by
    have := chkR_p lx (hL.below hW) (isStr_bA l1) (isStr_bA l2) (hm.below hW)
    rwa [h1] at this
  have c17' : ∀ W, Below w.heap.size w W → Calls prog 17 #[.agg #[.string (bA m1), .string (bA m2), .bool mx, .slice ad' n' c']] W fun e w' => e = .returned (.int .i64 (0)) ∧ Below W.heap.size W w' := fun W hW => by
    have := chkR_p mx (hL.below hW) (isStr_bA m1) (isStr_bA m2) (hm'.below hW)
    rwa [h2] at this
  have c61 : ∀ W, Below w.heap.size w W → Calls prog 61 #[.slice al k cl] W fun e w' => e = .returned (.int .i64 0) ∧ Below W.heap.size W w' := fun W hW => by
    have := checkPlays_w (hL.below hW) (hl.below hW)
    rwa [h3] at this
  have c16 : ∀ W, Below w.heap.size w W → Calls prog 16 #[.agg #[.string (bA l1), .string (bA l2), .bool lx, .slice ad n c]] W fun e w' => ∃ a k, e = .returned (.agg #[.string (bA l1), .string (bA l2), .bool lx, .slice a n k]) ∧ IsMoves w' (.slice a n k) d n ∧ Below W.heap.size W w' := fun W hW => by
    refine (copied_w (s1 := bA l1) (s2 := bA l2) (lx := lx) (hm.below hW) (by have := hv1.n4; omega) (fun i hi => by have := (hv1.bn i hi).2; omega)).mono ?_
    rintro e w' ⟨v, rfl, hv, hB⟩
    have hv0 := hv
    obtain ⟨a, k, rfl, -, -⟩ := hv
    exact ⟨a, k, rfl, hv0, hB⟩
  have c16' : ∀ W, Below w.heap.size w W → Calls prog 16 #[.agg #[.string (bA m1), .string (bA m2), .bool mx, .slice ad' n' c']] W fun e w' => ∃ a k, e = .returned (.agg #[.string (bA m1), .string (bA m2), .bool mx, .slice a n' k]) ∧ IsMoves w' (.slice a n' k) d' n' ∧ Below W.heap.size W w' := fun W hW => by
    refine (copied_w (s1 := bA m1) (s2 := bA m2) (lx := mx) (hm'.below hW) (by have := hv2.n4; omega) (fun i hi => by have := (hv2.bn i hi).2; omega)).mono ?_
    rintro e w' ⟨v, rfl, hv, hB⟩
    have hv0 := hv
    obtain ⟨a, k, rfl, -, -⟩ := hv
    exact ⟨a, k, rfl, hv0, hB⟩
  have c21 : ∀ W a k, Below w.heap.size w W → IsMoves W (.slice a n k) d n → Calls prog 21 #[.agg #[.string (bA l1), .string (bA l2), .bool lx, .slice a n k]] W fun e w' => e = .returned (.tuple #[.string (bA S), .int .i64 0]) ∧ Below W.heap.size W w' := fun W a k hW hmW => by
    have hch := chk_b lx (hL.below hW) (isStr_bA l1) (isStr_bA l2) hmW
    rw [h1] at hch
    have := print_w hch hmW (fun _ => hpr1)
    unfold prnL at this
    rwa [if_pos rfl, hS] at this
  have c21' : ∀ W a k, Below w.heap.size w W → IsMoves W (.slice a n' k) d' n' → Calls prog 21 #[.agg #[.string (bA m1), .string (bA m2), .bool mx, .slice a n' k]] W fun e w' => e = .returned (.tuple #[.string (bA T), .int .i64 0]) ∧ Below W.heap.size W w' := fun W a k hW hmW => by
    have hch := chk_b mx (hL.below hW) (isStr_bA m1) (isStr_bA m2) hmW
    rw [h2] at hch
    have := print_w hch hmW (fun _ => hpr2)
    unfold prnL at this
    rwa [if_pos rfl, hT] at this
  have c22 : ∀ W, Below w.heap.size w W → Calls prog 22 #[.string (bA S)] W fun e w' => ∃ a k, e = .returned (.tuple #[.agg #[.string (bA l1), .string (bA l2), .bool lx, .slice a L.length k], .int .i64 0, .int .i64 0]) ∧ IsMoves w' (.slice a L.length k) (dOf L) L.length ∧ Below W.heap.size W w' := fun W hW => by
    refine (parse_go S (by omega) W (hL.below hW) (hM.below hW)).mono ?_
    rintro e w' ⟨⟨v, rfl, hv⟩, hB⟩
    rw [hL1] at hv ⊢
    have hv0 := hv
    obtain ⟨a, k, rfl, -, -⟩ := hv
    exact ⟨a, k, rfl, hv0, hB⟩
  -- the play that was parsed is valid and has the string
  have hL4 : L.length = n := hL2
  have hpv : plV (yB l1) 0 (l1.length : Nat) (yB l2) 0 (l2.length : Nat) (dOf L) L.length = 0 := by
    have := parL_valid (l := S) (by rw [hL1])
    rw [hL1] at this
    exact this
  have hplS : playL l1 l2 lx (dOf L) L.length = S := by
    have := playL_parL (l := S) (by rw [hL1])
    rw [hL1] at this
    exact this
  have c21x : ∀ W a k, Below w.heap.size w W → IsMoves W (.slice a L.length k) (dOf L) L.length → Calls prog 21 #[.agg #[.string (bA l1), .string (bA l2), .bool lx, .slice a L.length k]] W fun e w' => e = .returned (.tuple #[.string (bA S), .int .i64 0]) ∧ Below W.heap.size W w' := fun W a k hW hmW => by
    have hch := chk_b lx (hL.below hW) (isStr_bA l1) (isStr_bA l2) hmW
    rw [hpv] at hch
    have := print_w hch hmW (fun _ => prn_of hpv (moves_bn hmW))
    unfold prnL at this
    rwa [if_pos rfl, hplS] at this
  have c25 : ∀ W a k, Below w.heap.size w W → IsMoves W (.slice a L.length k) (dOf L) L.length → Calls prog 25 #[.agg #[.string (bA l1), .string (bA l2), .bool lx, .slice a L.length k], .agg #[.string (bA l1), .string (bA l2), .bool lx, .slice ad n c]] W fun e w' => e = .returned (.bool true) ∧ Below W.heap.size W w' := fun W a k hW g => by
    have := samePlay_w (s1 := bA l1) (s2 := bA l2) (z1 := bA l1) (z2 := bA l2) (lx := lx) (zx := lx) g (hm.below hW) (by have := hv1.n4; omega) (fun i hi => by have := hLbn i hi; omega)
    rw [sameN_of hL2 fun i hi => sameMD_symm (hL3 i (by omega))] at this
    simpa using this
  have c25o : ∀ W, Below w.heap.size w W → Calls prog 25 #[.agg #[.string (bA l1), .string (bA l2), .bool lx, .slice ad n c], .agg #[.string (bA m1), .string (bA m2), .bool mx, .slice ad' n' c']] W fun e w' => e = .returned (.bool st) ∧ Below W.heap.size W w' := fun W hW => by
    have := samePlay_w (s1 := bA l1) (s2 := bA l2) (z1 := bA m1) (z2 := bA m2) (lx := lx) (zx := mx) (hm.below hW) (hm'.below hW) (by have := hv1.n4; omega) (fun i hi => by have := (hv1.bn i hi).2; omega)
    rwa [hst] at this
  have c57 : ∀ W, Calls prog 57 #[.string (bA S), .int .u8 32] W fun e w' => (∃ a c, e = .returned (.slice a KW c)) ∧ Below W.heap.size W w' := fun W => by
    refine (splitR_w S 32 (by omega) W).mono ?_
    rintro e w' ⟨v, rfl, hr, hB⟩
    refine ⟨?_, hB⟩
    rw [hnw] at hr
    rcases hr.2 with ⟨rfl, h0⟩ | ⟨g, cap, cur, rfl, _⟩
    · omega
    · exact ⟨_, _, rfl⟩
  -- the string without its last byte
  obtain ⟨⟨⟨q1, q2, qx, LY⟩, KY, EY⟩, hY⟩ : ∃ R, parL S.dropLast = R := ⟨_, rfl⟩
  have hYs := parL_small S.dropLast
  have hYn := fun h => short_not hS.symm hS0 h
  rw [hY] at hYs hYn
  obtain ⟨hY1, hY2⟩ : LY.length ≤ 4 ∧ ∀ i, i < LY.length → (dOf LY i).bn ≤ 9 := hYs
  have c22y : ∀ W, Below w.heap.size w W → Calls prog 22 #[.string (bA S.dropLast)] W fun e w' => ∃ a k, e = .returned (.tuple #[.agg #[.string q1, .string q2, .bool qx, .slice a LY.length k], .int .i64 (KY : Int), .int .i64 EY]) ∧ IsMoves w' (.slice a LY.length k) (dOf LY) LY.length ∧ Below W.heap.size W w' := fun W hW => by
    refine (parse_go S.dropLast (by rw [List.length_dropLast]; omega) W (hL.below hW) (hM.below hW)).mono ?_
    rintro e w' ⟨⟨v, rfl, hv⟩, hB⟩
    rw [hY] at hv ⊢
    have hv0 := hv
    obtain ⟨a, k, rfl, -, -⟩ := hv
    exact ⟨a, k, rfl, hv0, hB⟩
  have c25y : EY = 0 → ∀ W a k, Below w.heap.size w W → IsMoves W (.slice a LY.length k) (dOf LY) LY.length → Calls prog 25 #[.agg #[.string q1, .string q2, .bool qx, .slice a LY.length k], .agg #[.string (bA l1), .string (bA l2), .bool lx, .slice ad n c]] W fun e w' => e = .returned (.bool false) ∧ Below W.heap.size W w' := fun e0 W a k hW g => by
    have := samePlay_w (s1 := q1) (s2 := q2) (z1 := bA l1) (z2 := bA l2) (lx := qx) (zx := lx) g (hm.below hW) (by omega) (fun i hi => by have := hY2 i hi; omega)
    have hf : ((q1.toList == (bA l1).toList) && (q2.toList == (bA l2).toList) && (qx == lx) && sameN (dOf LY) LY.length d n) = false := by
      rw [Bool.eq_false_iff]
      intro hh
      simp only [Bool.and_eq_true, beq_iff_eq] at hh
      obtain ⟨⟨⟨e1, e2⟩, e3⟩, e4⟩ := hh
      rw [bA_list, Lib.toList_data] at e1 e2
      exact hYn e0 e1 e2 e3 e4
    rwa [hf] at this
  have c59 : ∀ W, Below w.heap.size w W → Calls prog 59 #[.slice al k cl] W fun e w' => (∃ a c, e = .returned (.slice a k c) ∧ IsPlays w' (.slice a k c) p k) ∧ Below W.heap.size W w' := fun W hW => by
    refine (copyPlays_w (hl.below hW) (by omega) (fun i hi => by
      obtain ⟨b, off, c0, ad0, k0, kc, -, -, hmv, -, -⟩ := hl.at hi
      have hv := (valP_of (hA.v i hi) (moves_bn hmv)).v
      exact ⟨by have := hv.n4; omega, fun j hj => by have := (hv.bn j hj).2; omega⟩)).mono ?_
    rintro e w' ⟨⟨u, rfl, hu⟩, hB⟩
    have hp := hu.plays
    rw [List.length_map, List.length_range] at hp
    have hp := hp.congr (pOf_range p k)
    have hp0 := hp
    obtain ⟨a, c, rfl, -, -⟩ := hp
    exact ⟨⟨a, c, rfl, hp0⟩, hB⟩
  have c58 : ∀ W a c, Below w.heap.size w W → IsPlays W (.slice a k c) p k → Calls prog 58 #[.slice a k c] W fun e w' => e = .returned (.tuple #[.string (bA A), .int .i64 0]) ∧ Below W.heap.size W w' := fun W a c hW g => by
    have := printAll_w (hL.below hW) g (fun _ => h8)
    unfold prnA at this
    rwa [if_pos h3, hAA, h3] at this
  have c60 : ∀ W, Below w.heap.size w W → Calls prog 60 #[.string (bA A)] W fun e w' => (∃ a c, e = .returned (.tuple #[.slice a k c, .int .i64 0, .int .i64 0]) ∧ IsPlays w' (.slice a k c) (pOf out) k) ∧ Below W.heap.size W w' := fun W hW => by
    refine (parseAll_w A hlen W (hL.below hW) (hM.below hW)).mono ?_
    rintro e w' ⟨hA', hB⟩
    unfold AllAns at hA'
    rw [hO1] at hA'
    obtain ⟨v, rfl, hv⟩ := hA'
    have hv0 : IsPlays w' v (pOf out) k := by rw [← hO2]; exact hv
    have hv1 := hv0
    obtain ⟨a, c, rfl, -, -⟩ := hv0
    exact ⟨⟨a, c, rfl, hv1⟩, hB⟩
  have c64 : ∀ W a c, Below w.heap.size w W → IsPlays W (.slice a k c) (pOf out) k → Calls prog 64 #[.slice a k c, .slice al k cl] W fun e w' => e = .returned (.bool true) ∧ Below W.heap.size W w' := fun W a c hW g =>
    samePlays_w g (hl.below hW) (by omega) (fun i hi => by
      have := (parAll_small A).2
      rw [hO1] at this
      have := this i (by show i < out.length; omega)
      replace this : SmH (pOf out i) := this
      exact ⟨by have := this.1; omega, fun j hj => by have := this.2 j hj; omega⟩) hO3
  have c57t : ∀ W, Calls prog 57 #[.string (bA A), .int .u8 10] W fun e w' => (∃ a c, e = .returned (.slice a (k + 1) c)) ∧ Below W.heap.size W w' := fun W => by
    have := split_len A (by omega) W
    rw [hln] at this
    have e : (plLs p k ++ [[]]).length = k + 1 := by simp [plLs]
    rwa [e] at this
  have hcut : (bA S).extract 0 (S.length - 1) = bA S.dropLast := by
    rw [bA_sub, List.dropLast_eq_take]; rfl
  have HCUT := Lib.hid hcut
  have HC25Y := Lib.hid c25y
  have HST := Lib.hid hST
  have hS1 : 1 ≤ S.length := List.length_pos_iff.2 hS0
  have HL2 := Lib.hid hL2
  have hB : Below w.heap.size w ((w.alloc (.cells #[.string (bA l1), .string (bA l2), .bool lx, .slice ad n c] 24)).alloc (.cells #[.string (bA m1), .string (bA m2), .bool mx, .slice ad' n' c'] 24)) := ((Below.refl _ _).alloc (Nat.le_refl _) _).alloc (by simp) _
  have hx0 : At ((w.alloc (.cells #[.string (bA l1), .string (bA l2), .bool lx, .slice ad n c] 24)).alloc (.cells #[.string (bA m1), .string (bA m2), .bool mx, .slice ad' n' c'] 24)) w.heap.size #[.string (bA l1), .string (bA l2), .bool lx, .slice ad n c] 24 := (at_new w #[.string (bA l1), .string (bA l2), .bool lx, .slice ad n c] 24).alloc _
  have hz0 : At ((w.alloc (.cells #[.string (bA l1), .string (bA l2), .bool lx, .slice ad n c] 24)).alloc (.cells #[.string (bA m1), .string (bA m2), .bool mx, .slice ad' n' c'] 24)) (w.heap.size + 1) #[.string (bA m1), .string (bA m2), .bool mx, .slice ad' n' c'] 24 := by
    have := at_new (w.alloc (.cells #[.string (bA l1), .string (bA l2), .bool lx, .slice ad n c] 24)) #[.string (bA m1), .string (bA m2), .bool mx, .slice ad' n' c'] 24
    simpa using this
  have cA := awake_w (hL.below hB)
  clear hm hm' hl h1 h2 h3 bP bO hA hL1 hL2 hL3 hO1 hO2 hO3 hlen hln hv1 hv2 hpr1 hpr2 hprA hS hT hAA hS0 hst hnw hLbn hL4 hpv hplS hY hY1 hY2 hYn hcut c25y hST hM h8
  go_enter func12, ntmps12
  go_wp2_with fail
  go_at_call 13
  refine cA.mono ?_
  rintro e w1 ⟨rfl, hk1⟩
  have hb1 : Below w.heap.size w w1 := hB.trans (hk1.mono hB.size)
  have hx1 := hx0.below hk1 hx0.lt
  have hz1 := hz0.below hk1 hz0.lt
  obtain ⟨⟨x0, x1, x2, x3⟩, -⟩ := box4 hx1
  have cC := c17 _ hb1
  clear cA hx0 hz0 hB hk1 c17
  go_wp2_with fail
  go_at_call 17
  refine cC.mono ?_
  rintro e w2 ⟨rfl, hk2⟩
  have hb2 : Below w.heap.size w w2 := hb1.trans (hk2.mono hb1.size)
  have hx2 := hx1.below hk2 hx1.lt
  have hz2 := hz1.below hk2 hz1.lt
  clear cC x0 x1 x2 x3 hx1 hz1 hb1 hk2
  obtain ⟨⟨z0, z1, z2, z3⟩, -⟩ := box4 hz2
  have cC := c17' _ hb2
  clear c17'
  go_wp2_with fail
  go_at_call 17
  refine cC.mono ?_
  rintro e w3 ⟨rfl, hk3⟩
  have hb3 : Below w.heap.size w w3 := hb2.trans (hk3.mono hb2.size)
  have hx3 := hx2.below hk3 hx2.lt
  have hz3 := hz2.below hk3 hz2.lt
  clear cC z0 z1 z2 z3 hx2 hz2 hb2 hk3
  have cC := c61 _ hb3
  clear c61
  go_wp2_with fail
  go_at_call 61
  refine cC.mono ?_
  rintro e w4 ⟨rfl, hk4⟩
  have hb4 : Below w.heap.size w w4 := hb3.trans (hk4.mono hb3.size)
  have hx4 := hx3.below hk4 hx3.lt
  have hz4 := hz3.below hk4 hz3.lt
  clear cC hx3 hz3 hb3 hk4
  obtain ⟨⟨x0, x1, x2, x3⟩, -⟩ := box4 hx4
  have cC := c16 _ hb4
  clear c16
  go_wp2_with fail
  go_at_call 16
  refine cC.mono ?_
  rintro e w5 ⟨a5, k5, rfl, hm5, hk5⟩
  have hb5 : Below w.heap.size w w5 := hb4.trans (hk5.mono hb4.size)
  have hx5 := hx4.below hk5 hx4.lt
  have hz5 := hz4.below hk5 hz4.lt
  have cC := c21 _ _ _ hb5 hm5
  clear c21 x0 x1 x2 x3 hx4 hz4 hb4 hk5 hm5
  go_wp2_with fail
  go_at_call 21
  refine cC.mono ?_
  rintro e w6 ⟨rfl, hk6⟩
  have hb6 : Below w.heap.size w w6 := hb5.trans (hk6.mono hb5.size)
  have hx6 := hx5.below hk6 hx5.lt
  have hz6 := hz5.below hk6 hz5.lt
  have cC := c22 _ hb6
  clear c22 hx5 hz5 hb5 hk6
  go_wp2_with fail
  go_at_call 22
  refine cC.mono ?_
  rintro e w7 ⟨a7, k7, rfl, hm7, hk7⟩
  have hal := (Below.refl w7.heap.size w7).alloc (Nat.le_refl _) (.cells #[.string (bA l1), .string (bA l2), .bool lx, .slice a7 L.length k7] 24)
  have hb7 := (hb6.trans (hk7.mono hb6.size)).trans (hal.mono (hb6.trans (hk7.mono hb6.size)).size)
  have hx7 := (hx6.below hk7 hx6.lt).alloc (.cells #[.string (bA l1), .string (bA l2), .bool lx, .slice a7 L.length k7] 24)
  have hz7 := (hz6.below hk7 hz6.lt).alloc (.cells #[.string (bA l1), .string (bA l2), .bool lx, .slice a7 L.length k7] 24)
  have hy7 := at_new w7 #[.string (bA l1), .string (bA l2), .bool lx, .slice a7 L.length k7] 24
  have hmx7 := hm7.below hal
  clear cC hx6 hz6 hb6 hk7 hm7 hal
  obtain ⟨⟨z0, z1, z2, z3⟩, -⟩ := box4 hz7
  have cC := c16' _ hb7
  clear c16'
  go_wp2_with fail
  go_at_call 16
  refine cC.mono ?_
  rintro e w8 ⟨a8, k8, rfl, hm8, hk8⟩
  have hb8 : Below w.heap.size w w8 := hb7.trans (hk8.mono hb7.size)
  have hx8 := hx7.below hk8 hx7.lt
  have hz8 := hz7.below hk8 hz7.lt
  have hy8 := hy7.below hk8 hy7.lt
  have hmx8 := hmx7.below hk8
  have cC := c21' _ _ _ hb8 hm8
  clear c21' z0 z1 z2 z3 hx7 hz7 hy7 hmx7 hb7 hk8 hm8
  go_wp2_with fail
  go_at_call 21
  refine cC.mono ?_
  rintro e w9 ⟨rfl, hk9⟩
  have hb9 : Below w.heap.size w w9 := hb8.trans (hk9.mono hb8.size)
  have hx9 := hx8.below hk9 hx8.lt
  have hz9 := hz8.below hk9 hz8.lt
  have hy9 := hy8.below hk9 hy8.lt
  have hmx9 := hmx8.below hk9
  clear cC hx8 hz8 hy8 hmx8 hb8 hk9
  obtain ⟨⟨x0, x1, x2, x3⟩, -⟩ := box4 hx9
  obtain ⟨⟨y0, y1, y2, y3⟩, -⟩ := box4 hy9
  have cC := c25 _ _ _ hb9 hmx9
  clear c25
  go_wp2_with fail
  go_at_call 25
  refine cC.mono ?_
  rintro e wA ⟨rfl, hkA⟩
  have hbA : Below w.heap.size w wA := hb9.trans (hkA.mono hb9.size)
  have hxA := hx9.below hkA hx9.lt
  have hzA := hz9.below hkA hz9.lt
  have hyA := hy9.below hkA hy9.lt
  have hmxA := hmx9.below hkA
  clear cC x0 x1 x2 x3 y0 y1 y2 y3 hx9 hz9 hy9 hmx9 hb9 hkA
  obtain ⟨⟨x0, x1, x2, x3⟩, -⟩ := box4 hxA
  obtain ⟨⟨z0, z1, z2, z3⟩, -⟩ := box4 hzA
  have cC := c25o _ hbA
  have hstq := HST.out
  clear c25o
  go_wp2_with fail
  go_at_call 25
  refine cC.mono ?_
  rintro e wB ⟨rfl, hkB⟩
  have hbB : Below w.heap.size w wB := hbA.trans (hkB.mono hbA.size)
  have hxB := hxA.below hkB hxA.lt
  have hyB := hyA.below hkB hyA.lt
  have hmxB := hmxA.below hkB
  clear cC x0 x1 x2 x3 z0 z1 z2 z3 hxA hzA hyA hmxA hbA hkB
  obtain ⟨⟨y0, y1, y2, y3⟩, -⟩ := box4 hyB
  have cC := c21x _ _ _ hbB hmxB
  have hss : (st != st) = false := by simp
  have hSi : ((S.length : Int) == 0) = false := by rw [beq_eq_false_iff_ne]; omega
  have hSi' : ¬ (S.length : Int) = 0 := by omega
  clear c21x
  go_wp2_with fail
  go_at_call 21
  refine cC.mono ?_
  rintro e wC ⟨rfl, hkC⟩
  have hbC : Below w.heap.size w wC := hbB.trans (hkC.mono hbB.size)
  have hxC := hxB.below hkC hxB.lt
  clear cC y0 y1 y2 y3 hxB hyB hmxB hbB hkC hstq hss
  obtain ⟨⟨x0, x1, x2, x3⟩, gx0, gx1, gx2, gx3⟩ := box4 hxC
  cases lx with
  | true =>
    have hq : (KW : Int) = 2 + (n : Int) + 1 := by have := HKW.out; simp at this; omega
    have hq1 : ((KW : Int) != 2 + (n : Int) + 1) = false := by rw [hq]; simp
    have hq2 : ¬ (KW : Int) ≠ 2 + (n : Int) + 1 := by omega
    have HQ := Lib.hid hq
    clear hq
    have cW := c57 wC
    go_wp2_with fail
    go_at_call 57
    refine cW.mono ?_
    rintro e wD ⟨⟨aD, cD, rfl⟩, hkD⟩
    have hbD : Below w.heap.size w wD := hbC.trans (hkD.mono hbC.size)
    have hxD := hxC.below hkD hxC.lt
    have cC := c22y _ hbD
    clear cW x0 x1 x2 x3 gx0 gx1 gx2 gx3 hxC hbC hkD
    go_wp2_with fail
    rw [HCUT.out]
    go_at_call 22
    refine cC.mono ?_
    rintro e wE ⟨aE, kE, rfl, hmE, hkE⟩
    have hal := (Below.refl wE.heap.size wE).alloc (Nat.le_refl _) (.cells #[.string q1, .string q2, .bool qx, .slice aE LY.length kE] 24)
    have hbE := (hbD.trans (hkE.mono hbD.size)).trans (hal.mono (hbD.trans (hkE.mono hbD.size)).size)
    have hxE := (hxD.below hkE hxD.lt).alloc (.cells #[.string q1, .string q2, .bool qx, .slice aE LY.length kE] 24)
    have hyE := at_new wE #[.string q1, .string q2, .bool qx, .slice aE LY.length kE] 24
    have hmyE := hmE.below hal
    clear cC hxD hbD hkE hmE hal
    obtain ⟨⟨x0, x1, x2, x3⟩, -⟩ := box4 hxE
    obtain ⟨⟨y0, y1, y2, y3⟩, -⟩ := box4 hyE
    by_cases hEY : EY = 0
    · have cC := HC25Y.out hEY _ _ _ hbE hmyE
      subst hEY
      clear HC25Y
      go_wp2_with fail
      go_at_call 25
      refine cC.mono ?_
      rintro e wG ⟨rfl, hkG⟩
      have hbG : Below w.heap.size w wG := hbE.trans (hkG.mono hbE.size)
      clear cC x0 x1 x2 x3 y0 y1 y2 y3 hxE hyE hmyE hkG hbE
      have cC := c59 _ hbG
      go_wp2_with fail
      go_at_call 59
      refine cC.mono ?_
      rintro e wH ⟨⟨aH, kH, rfl, hpH⟩, hkH⟩
      have hbH : Below w.heap.size w wH := hbG.trans (hkH.mono hbG.size)
      have cC := c58 _ _ _ hbH hpH
      go_wp2_with fail
      go_at_call 58
      refine cC.mono ?_
      rintro e wI ⟨rfl, hkI⟩
      have hbI : Below w.heap.size w wI := hbH.trans (hkI.mono hbH.size)
      have cC := c60 _ hbI
      clear hkI hkH hpH hbH hbG
      go_wp2_with fail
      go_at_call 60
      refine cC.mono ?_
      rintro e wJ ⟨⟨aJ, kJ, rfl, hpJ⟩, hkJ⟩
      have hbJ : Below w.heap.size w wJ := hbI.trans (hkJ.mono hbI.size)
      have cC := c64 _ _ _ hbJ hpJ
      clear hkJ hbI hpJ
      go_wp2_with fail
      go_at_call 64
      refine cC.mono ?_
      rintro e wK ⟨rfl, hkK⟩
      have hbK : Below w.heap.size w wK := hbJ.trans (hkK.mono hbJ.size)
      have cC := c57t wK
      clear hkK hbJ
      go_wp2_with fail
      go_at_call 57
      refine cC.mono ?_
      rintro e wL ⟨⟨aL, cL, rfl⟩, hkL⟩
      go_wp2
      go_ret
      exact ⟨by simp, hbK.trans (hkL.mono hbK.size)⟩
    · have hEY' : (EY == 0) = false := by rw [beq_eq_false_iff_ne]; exact hEY
      have hbG := hbE
      clear HC25Y hbE hmyE
      have cC := c59 _ hbG
      go_wp2_with fail
      go_at_call 59
      refine cC.mono ?_
      rintro e wH ⟨⟨aH, kH, rfl, hpH⟩, hkH⟩
      have hbH : Below w.heap.size w wH := hbG.trans (hkH.mono hbG.size)
      have cC := c58 _ _ _ hbH hpH
      go_wp2_with fail
      go_at_call 58
      refine cC.mono ?_
      rintro e wI ⟨rfl, hkI⟩
      have hbI : Below w.heap.size w wI := hbH.trans (hkI.mono hbH.size)
      have cC := c60 _ hbI
      clear hkI hkH hpH hbH hbG
      go_wp2_with fail
      go_at_call 60
      refine cC.mono ?_
      rintro e wJ ⟨⟨aJ, kJ, rfl, hpJ⟩, hkJ⟩
      have hbJ : Below w.heap.size w wJ := hbI.trans (hkJ.mono hbI.size)
      have cC := c64 _ _ _ hbJ hpJ
      clear hkJ hbI hpJ
      go_wp2_with fail
      go_at_call 64
      refine cC.mono ?_
      rintro e wK ⟨rfl, hkK⟩
      have hbK : Below w.heap.size w wK := hbJ.trans (hkK.mono hbJ.size)
      have cC := c57t wK
      clear hkK hbJ
      go_wp2_with fail
      go_at_call 57
      refine cC.mono ?_
      rintro e wL ⟨⟨aL, cL, rfl⟩, hkL⟩
      go_wp2
      go_ret
      exact ⟨by simp, hbK.trans (hkL.mono hbK.size)⟩
  | false =>
    have hq : (KW : Int) = 2 + (n : Int) := by have := HKW.out; simp at this; omega
    have hq1 : ((KW : Int) != 2 + (n : Int)) = false := by rw [hq]; simp
    have hq2 : ¬ (KW : Int) ≠ 2 + (n : Int) := by omega
    have HQ := Lib.hid hq
    clear hq
    have cW := c57 wC
    go_wp2_with fail
    go_at_call 57
    refine cW.mono ?_
    rintro e wD ⟨⟨aD, cD, rfl⟩, hkD⟩
    have hbD : Below w.heap.size w wD := hbC.trans (hkD.mono hbC.size)
    have hxD := hxC.below hkD hxC.lt
    have cC := c22y _ hbD
    clear cW x0 x1 x2 x3 gx0 gx1 gx2 gx3 hxC hbC hkD
    go_wp2_with fail
    rw [HCUT.out]
    go_at_call 22
    refine cC.mono ?_
    rintro e wE ⟨aE, kE, rfl, hmE, hkE⟩
    have hal := (Below.refl wE.heap.size wE).alloc (Nat.le_refl _) (.cells #[.string q1, .string q2, .bool qx, .slice aE LY.length kE] 24)
    have hbE := (hbD.trans (hkE.mono hbD.size)).trans (hal.mono (hbD.trans (hkE.mono hbD.size)).size)
    have hxE := (hxD.below hkE hxD.lt).alloc (.cells #[.string q1, .string q2, .bool qx, .slice aE LY.length kE] 24)
    have hyE := at_new wE #[.string q1, .string q2, .bool qx, .slice aE LY.length kE] 24
    have hmyE := hmE.below hal
    clear cC hxD hbD hkE hmE hal
    obtain ⟨⟨x0, x1, x2, x3⟩, -⟩ := box4 hxE
    obtain ⟨⟨y0, y1, y2, y3⟩, -⟩ := box4 hyE
    by_cases hEY : EY = 0
    · have cC := HC25Y.out hEY _ _ _ hbE hmyE
      subst hEY
      clear HC25Y
      go_wp2_with fail
      go_at_call 25
      refine cC.mono ?_
      rintro e wG ⟨rfl, hkG⟩
      have hbG : Below w.heap.size w wG := hbE.trans (hkG.mono hbE.size)
      clear cC x0 x1 x2 x3 y0 y1 y2 y3 hxE hyE hmyE hkG hbE
      have cC := c59 _ hbG
      go_wp2_with fail
      go_at_call 59
      refine cC.mono ?_
      rintro e wH ⟨⟨aH, kH, rfl, hpH⟩, hkH⟩
      have hbH : Below w.heap.size w wH := hbG.trans (hkH.mono hbG.size)
      have cC := c58 _ _ _ hbH hpH
      go_wp2_with fail
      go_at_call 58
      refine cC.mono ?_
      rintro e wI ⟨rfl, hkI⟩
      have hbI : Below w.heap.size w wI := hbH.trans (hkI.mono hbH.size)
      have cC := c60 _ hbI
      clear hkI hkH hpH hbH hbG
      go_wp2_with fail
      go_at_call 60
      refine cC.mono ?_
      rintro e wJ ⟨⟨aJ, kJ, rfl, hpJ⟩, hkJ⟩
      have hbJ : Below w.heap.size w wJ := hbI.trans (hkJ.mono hbI.size)
      have cC := c64 _ _ _ hbJ hpJ
      clear hkJ hbI hpJ
      go_wp2_with fail
      go_at_call 64
      refine cC.mono ?_
      rintro e wK ⟨rfl, hkK⟩
      have hbK : Below w.heap.size w wK := hbJ.trans (hkK.mono hbJ.size)
      have cC := c57t wK
      clear hkK hbJ
      go_wp2_with fail
      go_at_call 57
      refine cC.mono ?_
      rintro e wL ⟨⟨aL, cL, rfl⟩, hkL⟩
      go_wp2
      go_ret
      exact ⟨by simp, hbK.trans (hkL.mono hbK.size)⟩
    · have hEY' : (EY == 0) = false := by rw [beq_eq_false_iff_ne]; exact hEY
      have hbG := hbE
      clear HC25Y hbE hmyE
      have cC := c59 _ hbG
      go_wp2_with fail
      go_at_call 59
      refine cC.mono ?_
      rintro e wH ⟨⟨aH, kH, rfl, hpH⟩, hkH⟩
      have hbH : Below w.heap.size w wH := hbG.trans (hkH.mono hbG.size)
      have cC := c58 _ _ _ hbH hpH
      go_wp2_with fail
      go_at_call 58
      refine cC.mono ?_
      rintro e wI ⟨rfl, hkI⟩
      have hbI : Below w.heap.size w wI := hbH.trans (hkI.mono hbH.size)
      have cC := c60 _ hbI
      clear hkI hkH hpH hbH hbG
      go_wp2_with fail
      go_at_call 60
      refine cC.mono ?_
      rintro e wJ ⟨⟨aJ, kJ, rfl, hpJ⟩, hkJ⟩
      have hbJ : Below w.heap.size w wJ := hbI.trans (hkJ.mono hbI.size)
      have cC := c64 _ _ _ hbJ hpJ
      clear hkJ hbI hpJ
      go_wp2_with fail
      go_at_call 64
      refine cC.mono ?_
      rintro e wK ⟨rfl, hkK⟩
      have hbK : Below w.heap.size w wK := hbJ.trans (hkK.mono hbJ.size)
      have cC := c57t wK
      clear hkK hbJ
      go_wp2_with fail
      go_at_call 57
      refine cC.mono ?_
      rintro e wL ⟨⟨aL, cL, rfl⟩, hkL⟩
      go_wp2
      go_ret
      exact ⟨by simp, hbK.trans (hkL.mono hbK.size)⟩
theorem back_law {pv ev mv pv' ev' mv' lv : Value} {y0 y1 y0' y1' : Int → Int} {yo yn eo en yo' yn' eo' en' : Int} (hL : Laid w) (hM : MaxL w) (hp : IsStr pv y0 yo yn) (he : IsStr ev y1 eo en) (hm : IsMoves w mv d n) (hp' : IsStr pv' y0' yo' yn') (he' : IsStr ev' y1' eo' en') (hm' : IsMoves w mv' d' n') (hl : IsPlays w lv p k) :
    Calls prog 12 #[.agg #[pv, ev, .bool lx, mv], .agg #[pv', ev', .bool mx, mv'], lv] w fun e w' => e = .returned (.bool true) ∧ Below w.heap.size w w' := by
  obtain ⟨l1, rfl, -, -⟩ := hp
  obtain ⟨l2, rfl, -, -⟩ := he
  obtain ⟨m1, rfl, -, -⟩ := hp'
  obtain ⟨m2, rfl, -, -⟩ := he'
  have q1 := hm
  have q2 := hm'
  have q3 := hl
  obtain ⟨a, c, rfl, -, -⟩ := q1
  obtain ⟨a', c', rfl, -, -⟩ := q2
  obtain ⟨al, cl, rfl, -, -⟩ := q3
  by_cases h1 : plV (yB l1) 0 (l1.length : Nat) (yB l2) 0 (l2.length : Nat) d n = 0
  · by_cases h2 : plV (yB m1) 0 (m1.length : Nat) (yB m2) 0 (m2.length : Nat) d' n' = 0
    · by_cases h8 : 8 < k
      · exact back_no3 hL hm hm' h1 h2 h8
      · by_cases h3 : chkL p k = 0
        · exact back_go hL hm hm' hl hM h1 h2 (by omega) h3
        · exact back_no4 hL hm hm' hl h1 h2 (by omega) h3
    · exact back_no2 hL hm hm' h1 h2
  · exact back_no1 hL hm h1
end
end Go.Proofs.Tryz

namespace Go.Proofs.Tryz
open Go Go.Am Go.ChangeShapes Go.WideShapes Go.ChangeAt Go.RowKit
open YthlmjjdlmidnlaaGreatDoor
set_option maxRecDepth 100000

theorem back_lifted (os : Os) (started : os.Started) (H : Type) (enc : TypeId × Value → H) :
    ReturnsInHanded {} checked os 12 .any (fun w args => (Rows.playBackSpec.pre enc prog f12 [] false w args ∧ laidMetH prog Rows.playBackRow.laid w) ∧ sizedMet enc prog f12 (OpenSpec.ofChange Rows.playBackSpec) false w args)
      (Rows.playBackSpec.post enc prog f12 false true false false) := by
  refine handed_shaped (C := checked) (X := fun w _ => laidMetH prog Rows.playBackRow.laid w) (fun _ _ _ hh h => h.of_heap hh) own started (by kernel_rfl) func12
    (ChangeSpec.witness_shaped (enc := enc) (C := checked) (os := os) (X := fun w _ => laidMetH prog Rows.playBackRow.laid w) false (World.laidAll prog os Rows.playBackRow.laid) #[.agg #[.string ⟨#[]⟩, .string ⟨#[]⟩, .bool false, .slice none 0 0], .agg #[.string ⟨#[]⟩, .string ⟨#[]⟩, .bool false, .slice none 0 0], .slice none 0 0] 8 (World.laidAll_os _ _ _) (laid_shaped os) (by kernel_rfl) (by kernel_rfl) (by kernel_rfl) (laid_met os _)) ?_
  intro W args ds gs before base hval0 hW hL hsh
  have hval : ∀ (j : Nat) t v, f12.params[j]? = some t → args[j]? = some v → Value.okWide prog W .any base t v := hval0
  have hW' := hW
  obtain ⟨p, q, hA0, hV, rfl, hfz, hnd⟩ := hW
  have hA : DataW.TrodAll enc prog W 0 (fun _ => true) true f12.params.toList args.toList ds p := hA0
  rw [params12] at hA hval
  obtain ⟨v0, v1, v2, e0, e1, e2, p0, p1, p2, rfl, rfl, rfl, h0, h1, h2⟩ := trodAll_three hA
  obtain ⟨rfl, rfl⟩ := trodVars_none hV
  have hlaid := of_laid hL
  obtain ⟨y00, y10, yn0, en0, lx0, d0, n0, pv0, ev0, mv0, rfl, a0, b0, c0⟩ := play_arg (hval 0 24 v0 rfl rfl) h0
  obtain ⟨y01, y11, yn1, en1, lx1, d1, n1, pv1, ev1, mv1, rfl, a1, b1, c1⟩ := play_arg (hval 1 24 v1 rfl rfl) h1
  obtain ⟨pp2, k2, c2⟩ := plays_arg (hval 2 86 v2 rfl rfl) h2
  have hrun : Calls prog 12 #[.agg #[pv0, ev0, .bool (decide (lx0 ≠ 0)), mv0], .agg #[pv1, ev1, .bool (decide (lx1 ≠ 0)), mv1], v2] W fun e w' => e = .returned (.bool true) ∧ Below W.heap.size W w' := back_law hlaid (max_of hsh) a0 b0 c0 a1 b1 c1 c2
  refine hrun.mono fun e W' ⟨he, hB⟩ => ?_
  subst he
  have hlt : ∀ x ∈ p0 ++ p1 ++ p2, x.block < W.heap.size := fun x hx => by
    have := hW'.lt x (by simpa using hx)
    exact this
  refine ⟨_, rfl, _, _, _, [], p0 ++ (p1 ++ p2), [], hW', trodAll_mk1 (shut_bool underlying4 true), ?_, rfl, hB.frame _, fun h => by cases h⟩
  exact trodAll_mk3 (Below.trod laidOut (by kernel_rfl) (of_decide_eq_true (by kernel_rfl)) h0 hB fun x hx => hlt x (by simp [hx]))
    (Below.trod laidOut (by kernel_rfl) (of_decide_eq_true (by kernel_rfl)) h1 hB fun x hx => hlt x (by simp [hx]))
    (Below.trod laidOut (by kernel_rfl) (of_decide_eq_true (by kernel_rfl)) h2 hB fun x hx => hlt x (by simp [hx]))

theorem f12_named : checked.prog.funcNamed Rows.playBackRow.func = some 12 := by kernel_rfl
theorem f12_facts : joinedFacts checked.prog 12 f12 Rows.playBackSpec Rows.playBackRow = true := by kernel_rfl
theorem f12_inst : f12.isInstance checked.prog Rows.playBackRow.origin Rows.playBackRow.targs := of_decide_eq_true (by kernel_rfl)
theorem f12_wrap : f12.isWrapper checked.prog Rows.playBackRow.wrapper Rows.playBackRow.mainSum := by
  unfold Func.isWrapper; first | (rw [if_pos (by decide +kernel)]; kernel_rfl) | (rw [if_neg (by decide +kernel)]; exact ⟨rfl, rfl⟩)

theorem back_holds : Rows.PlayBackSaid :=
  OpenClaim.holds_of_wide 12 f12 rfl rfl rfl rfl rfl rfl rfl ⟨rfl, rfl, rfl, rfl, rfl⟩ rfl rfl rfl rfl rfl f12_named func12 f12_facts f12_inst f12_wrap
    (fun os started H enc _ => back_lifted os started H enc)
end Go.Proofs.Tryz
