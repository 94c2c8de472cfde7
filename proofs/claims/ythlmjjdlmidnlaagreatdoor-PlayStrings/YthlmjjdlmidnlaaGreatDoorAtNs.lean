/- PlayStrings returns true, and what was in memory is as it was: by the kit's walk. On the seat of the open Play statements: the row of PlayStrings, proved. -/
import Derived.Test.YthlmjjdlmidnlaaGreatDoorAtKs
import Derived.Test.YthlmjjdlmidnlaaGreatDoorAtMs
import Derived.Test.YthlmjjdlmidnlaaGreatDoorAsQs
import Derived.Test.YthlmjjdlmidnlaaGreatDoorAsAks
import Derived.Test.YthlmjjdlmidnlaaGreatDoorAtHs
namespace Go.Proofs.Tryz
open Go Go.Am Go.RowKit Go.Dr
set_option maxRecDepth 100000

section
variable {w : World} {y0 y1 : Int → Int} {yo yn eo en : Int} {lx : Bool} {d : Nat → MvD} {n : Nat} {l1 l2 l : List UInt8} {ad : Option Addr} {c : Nat}
theorem strings_no1 (hL : Laid w) (hp : IsStr (.string (bA l1)) y0 yo yn) (he : IsStr (.string (bA l2)) y1 eo en) (hm : IsMoves w (.slice ad n c) d n) (h : ¬ ShortP yn en d n) :
    Calls prog 4 #[.agg #[.string (bA l1), .string (bA l2), .bool lx, .slice ad n c], .string (bA l)] w fun e w' => e = .returned (.bool true) ∧ Below w.heap.size w w' := by
  have hB : Below w.heap.size w (w.alloc (.cells #[.string (bA l1), .string (bA l2), .bool lx, .slice ad n c] 24)) := (Below.refl _ _).alloc (Nat.le_refl _) _
  have cA := awake_w (hL.below hB)
  go_enter func4, ntmps4
  go_wp2_with fail
  go_at_call 13
  refine cA.mono ?_
  rintro e w1 ⟨rfl, hk1⟩
  have hb1 : Below w.heap.size w w1 := hB.trans (hk1.mono hB.size)
  have hx1 := (at_new w #[.string (bA l1), .string (bA l2), .bool lx, .slice ad n c] 24).below hk1 (by simp)
  obtain ⟨⟨x0, x1, x2, x3⟩, -⟩ := box4 hx1
  clear cA
  have cS := short_no (lx := lx) hp he (hm.below hb1) h
  go_wp2_with fail
  go_at_call 14
  refine cS.mono ?_
  rintro e w2 ⟨rfl, hk2⟩
  have hb2 : Below w.heap.size w w2 := hb1.trans (hk2.mono hb1.size)
  have cA := awake_w (hL.below hb2)
  clear cS
  go_wp2_with fail
  go_at_call 13
  refine cA.mono ?_
  rintro e w3 ⟨rfl, hk3⟩
  go_wp2
  go_ret
  exact ⟨rfl, hb2.trans (hk3.mono hb2.size)⟩
theorem strings_no2 (hL : Laid w) (hp : IsStr (.string (bA l1)) y0 yo yn) (he : IsStr (.string (bA l2)) y1 eo en) (hm : IsMoves w (.slice ad n c) d n) (h : ShortP yn en d n) (h2 : 200 < l.length) :
    Calls prog 4 #[.agg #[.string (bA l1), .string (bA l2), .bool lx, .slice ad n c], .string (bA l)] w fun e w' => e = .returned (.bool true) ∧ Below w.heap.size w w' := by
  have hB : Below w.heap.size w (w.alloc (.cells #[.string (bA l1), .string (bA l2), .bool lx, .slice ad n c] 24)) := (Below.refl _ _).alloc (Nat.le_refl _) _
  have cA := awake_w (hL.below hB)
  have hs : (bA l).size = l.length := bA_size l
  have h3 : 200 < (l.length : Int) := by omega
  go_enter func4, ntmps4
  go_wp2_with fail
  go_at_call 13
  refine cA.mono ?_
  rintro e w1 ⟨rfl, hk1⟩
  have hb1 : Below w.heap.size w w1 := hB.trans (hk1.mono hB.size)
  have hx1 := (at_new w #[.string (bA l1), .string (bA l2), .bool lx, .slice ad n c] 24).below hk1 (by simp)
  obtain ⟨⟨x0, x1, x2, x3⟩, -⟩ := box4 hx1
  clear cA
  have cS := short_yes (lx := lx) hp he (hm.below hb1) h
  go_wp2_with fail
  go_at_call 14
  refine cS.mono ?_
  rintro e w2 ⟨rfl, hk2⟩
  have hb2 : Below w.heap.size w w2 := hb1.trans (hk2.mono hb1.size)
  have cA := awake_w (hL.below hb2)
  clear cS
  go_wp2_with fail
  go_at_call 13
  refine cA.mono ?_
  rintro e w3 ⟨rfl, hk3⟩
  go_wp2
  go_ret
  exact ⟨rfl, hb2.trans (hk3.mono hb2.size)⟩

set_option maxHeartbeats 6400000 in
theorem strings_go (hL : Laid w) (hM : MaxL w) (hp : IsStr (.string (bA l1)) y0 yo yn) (he : IsStr (.string (bA l2)) y1 eo en) (hm : IsMoves w (.slice ad n c) d n) (hb : ∀ i, i < n → 0 ≤ (d i).bn) (h : ShortP yn en d n) (h2 : ¬ 200 < l.length)
    (hy : yn = (l1.length : Nat)) (hz : en = (l2.length : Nat)) :
    Calls prog 4 #[.agg #[.string (bA l1), .string (bA l2), .bool lx, .slice ad n c], .string (bA l)] w fun e w' => e = .returned (.bool true) ∧ Below w.heap.size w w' := by
  have hs : (bA l).size = l.length := bA_size l
  have h3 : ¬ 200 < (l.length : Int) := by omega
  have hn6 : n ≤ 6 := h.2.2.1
  have hbn : ∀ i, i < n → (d i).bn ≤ 40 := fun i hi => (h.2.2.2 i hi).2
  have hy1 : l1.length ≤ 1000 := by have := h.1; omega
  have hz1 : l2.length ≤ 1000 := by have := h.2.1; omega
  obtain ⟨pl, hpl⟩ : ∃ p, plV y0 yo yn y1 eo en d n = p := ⟨_, rfl⟩
  have hP : pl = 0 → PrnP l1.length l2.length d n := fun e => by
    have := prn_of (hpl.trans e) hb
    rw [hy, hz] at this
    exact this
  obtain ⟨⟨⟨q1, q2, qx, L⟩, K, E⟩, hR⟩ : ∃ R, parL l = R := ⟨_, rfl⟩
  have hS := parL_small l
  rw [hR] at hS
  obtain ⟨hS1, hS2⟩ : L.length ≤ 4 ∧ ∀ i, i < L.length → (dOf L i).bn ≤ 9 := hS
  have cP : ∀ W, Below w.heap.size w W → Calls prog 16 #[.agg #[.string (bA l1), .string (bA l2), .bool lx, .slice ad n c]] W fun e w' => ∃ a k, e = .returned (.agg #[.string (bA l1), .string (bA l2), .bool lx, .slice a n k]) ∧ IsMoves w' (.slice a n k) d n ∧ Below W.heap.size W w' := fun W hW => by
    refine (copied_w (s1 := bA l1) (s2 := bA l2) (lx := lx) (hm.below hW) (by omega) hbn).mono ?_
    rintro e w' ⟨v, rfl, hm', hB⟩
    have hm2 := hm'
    obtain ⟨a, k, rfl, -, -⟩ := hm'
    exact ⟨a, k, rfl, hm2, hB⟩
  have cT : ∀ W a k, Below w.heap.size w W → IsMoves W (.slice a n k) d n → Calls prog 21 #[.agg #[.string (bA l1), .string (bA l2), .bool lx, .slice a n k]] W fun e w' => e = .returned (.tuple #[.string (bA (prnL pl l1 l2 lx d n)), .int .i64 pl]) ∧ Below W.heap.size W w' := fun W a k hW hmW => by
    have hch := chk_b lx (hL.below hW) hp he hmW
    rw [hpl] at hch
    exact print_w hch hmW hP
  have c22 : ∀ W, Below w.heap.size w W → Calls prog 22 #[.string (bA l)] W fun e w' => ∃ a k, e = .returned (.tuple #[.agg #[.string q1, .string q2, .bool qx, .slice a L.length k], .int .i64 (K : Int), .int .i64 E]) ∧ IsMoves w' (.slice a L.length k) (dOf L) L.length ∧ Below W.heap.size W w' := fun W hW => by
    refine (parse_go l (by omega) W (hL.below hW) (hM.below hW)).mono ?_
    rintro e w' ⟨⟨v, rfl, hm'⟩, hB⟩
    rw [hR] at hm'
    have hm2 := hm'
    obtain ⟨a, k, rfl, -, -⟩ := hm'
    rw [hR]
    exact ⟨a, k, rfl, hm2, hB⟩
  have c23 : ∀ W, Below w.heap.size w W → Calls prog 23 #[.string (bA l)] W fun e w' => ∃ a k, e = .returned (.tuple #[.agg #[.string q1, .string q2, .bool qx, .slice a L.length k], .int .i64 (K : Int), .int .i64 E]) ∧ IsMoves w' (.slice a L.length k) (dOf L) L.length ∧ Below W.heap.size W w' := fun W hW => by
    refine (parseR_go l (by omega) W (hL.below hW)).mono ?_
    rintro e w' ⟨⟨v, rfl, hm'⟩, hB⟩
    rw [hR] at hm'
    have hm2 := hm'
    obtain ⟨a, k, rfl, -, -⟩ := hm'
    rw [hR]
    exact ⟨a, k, rfl, hm2, hB⟩
  have c17 : ∀ W, Below w.heap.size w W → Calls prog 17 #[.agg #[.string (bA l1), .string (bA l2), .bool lx, .slice ad n c]] W fun e w' => e = .returned (.int .i64 pl) ∧ Below W.heap.size W w' := fun W hW => by
    rw [← hpl]; exact chkR_p lx (hL.below hW) hp he (hm.below hW)
  have c24 : pl = 0 → ∀ W, Below w.heap.size w W → Calls prog 24 #[.agg #[.string (bA l1), .string (bA l2), .bool lx, .slice ad n c]] W fun e w' => e = .returned (.string (bA (playL l1 l2 lx d n))) ∧ Below W.heap.size W w' := fun e W hW =>
    printR_w hy1 hz1 (hm.below hW) (by omega) (hP e).hd
  have c25 : ∀ W a k a' k', IsMoves W (.slice a L.length k) (dOf L) L.length → IsMoves W (.slice a' L.length k') (dOf L) L.length → Calls prog 25 #[.agg #[.string q1, .string q2, .bool qx, .slice a L.length k], .agg #[.string q1, .string q2, .bool qx, .slice a' L.length k']] W fun e w' => e = .returned (.bool true) ∧ Below W.heap.size W w' := fun W a k a' k' h1 h2 => by
    have := samePlay_w (s1 := q1) (s2 := q2) (z1 := q1) (z2 := q2) (lx := qx) (zx := qx) h1 h2 (by omega) (fun i hi => by have := hS2 i hi; omega)
    rw [sameN_refl] at this
    simpa using this
  have hB : Below w.heap.size w (w.alloc (.cells #[.string (bA l1), .string (bA l2), .bool lx, .slice ad n c] 24)) := (Below.refl _ _).alloc (Nat.le_refl _) _
  have cA := awake_w (hL.below hB)
  obtain ⟨S, hSS⟩ : ∃ S, prnL pl l1 l2 lx d n = S := ⟨_, rfl⟩
  rw [hSS] at cT
  have HS : Hid ((pl = 0 → playL l1 l2 lx d n = S) ∧ (pl ≠ 0 → S = [])) := Lib.hid (by
    rw [← hSS]
    unfold prnL
    exact ⟨fun e => by rw [if_pos e], fun e => by rw [if_neg e]⟩)
  have HC24 := Lib.hid c24
  clear hpl hP hR hS1 hS2 hSS c24 hy hz hy1 hz1 hM
  go_enter func4, ntmps4
  go_wp2_with fail
  go_at_call 13
  refine cA.mono ?_
  rintro e w1 ⟨rfl, hk1⟩
  have hb1 : Below w.heap.size w w1 := hB.trans (hk1.mono hB.size)
  have hx1 := (at_new w #[.string (bA l1), .string (bA l2), .bool lx, .slice ad n c] 24).below hk1 (by simp)
  obtain ⟨⟨x0, x1, x2, x3⟩, -⟩ := box4 hx1
  clear cA
  have cS := short_yes (lx := lx) hp he (hm.below hb1) h
  go_wp2_with fail
  go_at_call 14
  refine cS.mono ?_
  rintro e w2 ⟨rfl, hk2⟩
  have hb2 : Below w.heap.size w w2 := hb1.trans (hk2.mono hb1.size)
  have hx2 := hx1.below hk2 hx1.lt
  clear cS x0 x1 x2 x3 hx1 hk2 hb1 hk1 hB
  obtain ⟨⟨x0, x1, x2, x3⟩, -⟩ := box4 hx2
  have cP := cP _ hb2
  go_wp2_with fail
  go_at_call 16
  refine cP.mono ?_
  rintro e w3 ⟨a3, k3, rfl, hm3, hk3⟩
  have hb3 : Below w.heap.size w w3 := hb2.trans (hk3.mono hb2.size)
  have hx3 := hx2.below hk3 hx2.lt
  have cT := cT _ _ _ hb3 hm3
  clear cP x0 x1 x2 x3 hx2 hk3 hb2 hm3
  go_wp2_with fail
  go_at_call 21
  refine cT.mono ?_
  rintro e w4 ⟨rfl, hk4⟩
  have hb4 : Below w.heap.size w w4 := hb3.trans (hk4.mono hb3.size)
  have hx4 := hx3.below hk4 hx3.lt
  have c22 := c22 _ hb4
  clear cT hx3 hk4 hb3
  go_wp2_with fail
  go_at_call 22
  refine c22.mono ?_
  rintro e w5 ⟨a5, k5, rfl, hm5, hk5⟩
  have hb5 := (hb4.trans (hk5.mono hb4.size)).alloc (hb4.trans (hk5.mono hb4.size)).size (.cells #[.string q1, .string q2, .bool qx, .slice a5 L.length k5] 24)
  have hx5 := (hx4.below hk5 hx4.lt).alloc (.cells #[.string q1, .string q2, .bool qx, .slice a5 L.length k5] 24)
  have hc5 := at_new w5 #[.string q1, .string q2, .bool qx, .slice a5 L.length k5] 24
  have hm6 := hm5.below ((Below.refl w5.heap.size w5).alloc (Nat.le_refl _) (.cells #[.string q1, .string q2, .bool qx, .slice a5 L.length k5] 24))
  have c17 := c17 _ hb5
  clear c22 hx4 hk5 hb4 hm5
  obtain ⟨⟨x0, x1, x2, x3⟩, -⟩ := box4 hx5
  go_wp2_with fail
  go_at_call 17
  refine c17.mono ?_
  rintro e w6 ⟨rfl, hk6⟩
  have hb6 : Below w.heap.size w w6 := hb5.trans (hk6.mono hb5.size)
  have hx6 := hx5.below hk6 hx5.lt
  have hc6 := hc5.below hk6 hc5.lt
  have hm7 := hm6.below hk6
  have c23 := c23 _ hb6
  clear c17 x0 x1 x2 x3 hx5 hc5 hm6 hk6 hb5
  go_wp2_with fail
  go_at_call 23
  refine c23.mono ?_
  rintro e w7 ⟨a7, k7, rfl, hmB, hk7⟩
  have hal := (Below.refl w7.heap.size w7).alloc (Nat.le_refl _) (.cells #[.string q1, .string q2, .bool qx, .slice a7 L.length k7] 24)
  have hb7 := (hb6.trans (hk7.mono hb6.size)).trans (hal.mono (hb6.trans (hk7.mono hb6.size)).size)
  have hx7 := (hx6.below hk7 hx6.lt).alloc (.cells #[.string q1, .string q2, .bool qx, .slice a7 L.length k7] 24)
  have hc7 := (hc6.below hk7 hc6.lt).alloc (.cells #[.string q1, .string q2, .bool qx, .slice a7 L.length k7] 24)
  have hd7 := at_new w7 #[.string q1, .string q2, .bool qx, .slice a7 L.length k7] 24
  have hmA8 := (hm7.below hk7).below hal
  have hmB8 := hmB.below hal
  clear c23 hx6 hc6 hm7 hk7 hb6 hmB hal
  obtain ⟨⟨x0, x1, x2, x3⟩, -⟩ := box4 hx7
  obtain ⟨⟨z0, z1, z2, z3⟩, -⟩ := box4 hc7
  by_cases h0 : pl = 0
  · have c24 := HC24.out h0 _ hb7
    rw [HS.out.1 h0] at c24
    subst h0
    clear HC24 HS
    go_wp2_with fail
    go_at_call 24
    refine c24.mono ?_
    rintro e w8 ⟨rfl, hk8⟩
    have hb8 := hb7.trans (hk8.mono hb7.size)
    have hc8 := hc7.below hk8 hc7.lt
    have hd8 := hd7.below hk8 hd7.lt
    have c25 := c25 _ _ _ _ _ (hmA8.below hk8) (hmB8.below hk8)
    clear c24 x0 x1 x2 x3 z0 z1 z2 z3 hx7 hc7 hd7 hmA8 hmB8 hk8 hb7
    obtain ⟨⟨x0, x1, x2, x3⟩, -⟩ := box4 hc8
    obtain ⟨⟨z0, z1, z2, z3⟩, -⟩ := box4 hd8
    go_wp2_with fail
    go_at_call 25
    refine c25.mono ?_
    rintro e w9 ⟨rfl, hk9⟩
    go_wp2
    go_ret
    exact ⟨by first | rfl | simp, hb8.trans (hk9.mono hb8.size)⟩
  · have hS0 := HS.out.2 h0
    subst hS0
    have eb : bA [] = ({ data := #[] } : ByteArray) := rfl
    rw [eb]
    have c25 := c25 _ _ _ _ _ hmA8 hmB8
    clear HC24 HS x0 x1 x2 x3 eb
    obtain ⟨⟨x0, x1, x2, x3⟩, -⟩ := box4 hd7
    go_wp2_with fail
    go_at_call 25
    refine c25.mono ?_
    rintro e w9 ⟨rfl, hk9⟩
    go_wp2
    go_ret
    exact ⟨by first | rfl | simp, hb7.trans (hk9.mono hb7.size)⟩
theorem strings_law {pv ev mv : Value} {s : ByteArray} (hL : Laid w) (hM : MaxL w) (hp : IsStr pv y0 yo yn) (he : IsStr ev y1 eo en) (hm : IsMoves w mv d n) (hb : ∀ i, i < n → 0 ≤ (d i).bn) :
    Calls prog 4 #[.agg #[pv, ev, .bool lx, mv], .string s] w fun e w' => e = .returned (.bool true) ∧ Below w.heap.size w w' := by
  have hp1 := hp
  have he1 := he
  have hm1 := hm
  obtain ⟨l1, rfl, hy, -⟩ := hp1
  obtain ⟨l2, rfl, hz, -⟩ := he1
  obtain ⟨a, c, rfl, -, -⟩ := hm1
  rw [← bA_data s]
  by_cases h : ShortP yn en d n
  · by_cases h2 : 200 < s.data.toList.length
    · exact strings_no2 hL hp he hm h h2
    · exact strings_go hL hM hp he hm hb h h2 hy.symm hz.symm
  · exact strings_no1 hL hp he hm h
end
end Go.Proofs.Tryz

namespace Go.Proofs.Tryz
open Go Go.Am Go.ChangeShapes Go.WideShapes Go.ChangeAt Go.RowKit
open YthlmjjdlmidnlaaGreatDoor
set_option maxRecDepth 100000

theorem strings_lifted (os : Os) (started : os.Started) (H : Type) (enc : TypeId × Value → H) :
    ReturnsInHanded {} checked os 4 .any (fun w args => (Rows.playStringsSpec.pre enc prog f4 [] false w args ∧ laidMetH prog Rows.playStringsRow.laid w) ∧ sizedMet enc prog f4 (OpenSpec.ofChange Rows.playStringsSpec) false w args)
      (Rows.playStringsSpec.post enc prog f4 false true false false) := by
  refine handed_shaped (C := checked) (X := fun w _ => laidMetH prog Rows.playStringsRow.laid w) (fun _ _ _ hh h => h.of_heap hh) own started (by kernel_rfl) func4
    (ChangeSpec.witness_shaped (enc := enc) (C := checked) (os := os) (X := fun w _ => laidMetH prog Rows.playStringsRow.laid w) false (World.laidAll prog os Rows.playStringsRow.laid) #[.agg #[.string ⟨#[]⟩, .string ⟨#[]⟩, .bool false, .slice none 0 0], .string ⟨#[]⟩] 8 (World.laidAll_os _ _ _) (laid_shaped os) (by kernel_rfl) (by kernel_rfl) (by kernel_rfl) (laid_met os _)) ?_
  intro W args ds gs before base hval0 hW hL hsh
  have hval : ∀ (j : Nat) t v, f4.params[j]? = some t → args[j]? = some v → Value.okWide prog W .any base t v := hval0
  have hW' := hW
  obtain ⟨p, q, hA0, hV, rfl, hfz, hnd⟩ := hW
  have hA : DataW.TrodAll enc prog W 0 (fun _ => true) true f4.params.toList args.toList ds p := hA0
  rw [params4] at hA hval
  obtain ⟨v0, v1, e0, e1, p0, p1, rfl, rfl, rfl, h0, h1⟩ := trodAll_two hA
  obtain ⟨rfl, rfl⟩ := trodVars_none hV
  have hlaid := of_laid hL
  obtain ⟨y00, y10, yn0, en0, lx0, d0, n0, pv0, ev0, mv0, rfl, a0, b0, c0⟩ := play_arg (hval 0 24 v0 rfl rfl) h0
  obtain ⟨s1, rfl⟩ := bytes_arg (hval 1 9 v1 rfl rfl)
  have hrun : Calls prog 4 #[.agg #[pv0, ev0, .bool (decide (lx0 ≠ 0)), mv0], .string s1] W fun e w' => e = .returned (.bool true) ∧ Below W.heap.size W w' := strings_law hlaid (max_of hsh) a0 b0 c0 (moves_bn c0)
  refine hrun.mono fun e W' ⟨he, hB⟩ => ?_
  subst he
  have hlt : ∀ x ∈ p0 ++ p1, x.block < W.heap.size := fun x hx => by
    have := hW'.lt x (by simpa using hx)
    exact this
  refine ⟨_, rfl, _, _, _, [], p0 ++ p1, [], hW', trodAll_mk1 (shut_bool underlying4 true), ?_, rfl, hB.frame _, fun h => by cases h⟩
  exact trodAll_mk2 (Below.trod laidOut (by kernel_rfl) (of_decide_eq_true (by kernel_rfl)) h0 hB fun x hx => hlt x (by simp [hx]))
    (Below.trod laidOut (by kernel_rfl) (of_decide_eq_true (by kernel_rfl)) h1 hB fun x hx => hlt x (by simp [hx]))

theorem f4_named : checked.prog.funcNamed Rows.playStringsRow.func = some 4 := by kernel_rfl
theorem f4_facts : joinedFacts checked.prog 4 f4 Rows.playStringsSpec Rows.playStringsRow = true := by kernel_rfl
theorem f4_inst : f4.isInstance checked.prog Rows.playStringsRow.origin Rows.playStringsRow.targs := of_decide_eq_true (by kernel_rfl)
theorem f4_wrap : f4.isWrapper checked.prog Rows.playStringsRow.wrapper Rows.playStringsRow.mainSum := by
  unfold Func.isWrapper; first | (rw [if_pos (by decide +kernel)]; kernel_rfl) | (rw [if_neg (by decide +kernel)]; exact ⟨rfl, rfl⟩)

theorem strings_holds : Rows.PlayStringsSaid :=
  OpenClaim.holds_of_wide 4 f4 rfl rfl rfl rfl rfl rfl rfl ⟨rfl, rfl, rfl, rfl, rfl⟩ rfl rfl rfl rfl rfl f4_named func4 f4_facts f4_inst f4_wrap
    (fun os started H enc _ => strings_lifted os started H enc)
end Go.Proofs.Tryz
