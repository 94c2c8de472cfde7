/- PlayCanons returns true, and what was in memory is as it was: by the kit's walk. PlayCanons, of whatever arguments. On the seat of the open Play statements: the row of PlayCanons, proved. -/
import Derived.Test.YthlmjjdlmidnlaaGreatDoorAsL
import Derived.Test.YthlmjjdlmidnlaaGreatDoorAsJ
import Derived.Deep.RegionHeld3
import Derived.Deep.RegionWith
import Derived.Deep.DeepCutAuto
import Derived.Test.YthlmjjdlmidnlaaGreatDoorArO
namespace Go.Proofs.Tryz
open Go Go.Am Go.RowKit Go.Dr
set_option maxRecDepth 100000

theorem sameMD_refl (m : MvD) : sameMD m m = true := by simp [sameMD]
theorem allK_all (p : Nat → Bool) (h : ∀ i, p i = true) : ∀ n, allK p n = true
  | 0 => rfl
  | n + 1 => by rw [allK, allK_all p h n, h n]; rfl
theorem sameN_refl (d : Nat → MvD) (n : Nat) : sameN d n d n = true := by rw [allK_same]; exact allK_all _ (fun i => sameMD_refl _) n
theorem can_small (s1 s2 : ByteArray) (lx : Bool) (y0 : Int → Int) (yo yn : Int) (y1 : Int → Int) (eo en : Int) {d : Nat → MvD} {n : Nat} (hn : n ≤ 1000000) (hb : ∀ i, i < n → (d i).bn ≤ 1000000) : SmallP (canP s1 s2 lx y0 yo yn y1 eo en d n) := by
  unfold canP
  split
  · refine ⟨?_, fun i hi => ?_⟩
    · show (canL d n).length ≤ 1000000
      unfold canL
      refine Nat.le_trans (List.length_filter_le _ _) ?_
      rw [List.length_map, (srt_perm d n).length_eq, List.length_range]
      exact hn
    · show (dOf (canL d n) i).bn ≤ 1000000
      have hi' : i < (canL d n).length := hi
      have hm : dOf (canL d n) i ∈ canL d n := by
        unfold dOf
        rw [List.getElem?_eq_getElem hi']
        exact List.getElem_mem hi'
      unfold canL at hm
      have hm2 := (List.mem_filter.1 hm).1
      obtain ⟨k, hk, e⟩ := List.mem_map.1 hm2
      unfold canL
      rw [← e]
      have hkn : k < n := List.mem_range.1 ((srt_perm d n).mem_iff.1 hk)
      have := plT_le (d k)
      have := hb k hkn
      show (((plT (d k)).length : Nat) : Int) ≤ 1000000
      omega
  · exact ⟨Nat.zero_le _, fun i hi => absurd hi (Nat.not_lt_zero _)⟩

/-- What Equal leaves in the law's region. -/
def CutE (W : World) (q : Bool) (E : Int) (v7 v8 : Value) (wx : World) : Prop := v7 = .bool q ∧ v8 = .int .i64 E ∧ Below W.heap.size W wx

section
variable {w : World} {y0 y1 : Int → Int} {yo yn eo en : Int} {lx : Bool} {d : Nat → MvD} {n : Nat} {s1 s2 : ByteArray} {ad : Option Addr} {c : Nat}
variable {u0 u1 : Int → Int} {uo un fo fn : Int} {zx : Bool} {d' : Nat → MvD} {n' : Nat} {z1 z2 : ByteArray} {ad' : Option Addr} {c' : Nat}
theorem canons_no1 (hL : Laid w) (hp : IsStr (.string s1) y0 yo yn) (he : IsStr (.string s2) y1 eo en) (hm : IsMoves w (.slice ad n c) d n) (h : ¬ ShortP yn en d n) :
    Calls prog 9 #[.agg #[.string s1, .string s2, .bool lx, .slice ad n c], .agg #[.string z1, .string z2, .bool zx, .slice ad' n' c']] w fun e w' => e = .returned (.bool true) ∧ Below w.heap.size w w' := by
  have hB : Below w.heap.size w ((w.alloc (.cells #[.string s1, .string s2, .bool lx, .slice ad n c] 24)).alloc (.cells #[.string z1, .string z2, .bool zx, .slice ad' n' c'] 24)) := ((Below.refl _ _).alloc (Nat.le_refl _) _).alloc (by simp) _
  have cA := awake_w (hL.below hB)
  go_enter func9, ntmps9
  go_wp2_with fail
  go_at_call 13
  refine cA.mono ?_
  rintro e w1 ⟨rfl, hk1⟩
  have hb1 : Below w.heap.size w w1 := hB.trans (hk1.mono (by rw [size2]; omega))
  have hx1 := (at2_0 _ _ _ _ _).below hk1 (by rw [size2]; omega)
  obtain ⟨⟨x0, x1, x2, x3⟩, -⟩ := box4 hx1
  clear cA
  have cS := short_no (lx := lx) hp he (hm.below hb1) h
  go_wp2_with fail
  go_at_call 14
  refine cS.mono ?_
  rintro e w2 ⟨rfl, hk2⟩
  have hb2 : Below w.heap.size w w2 := hb1.trans (hk2.mono hb1.size)
  have cA := awake_w (hL.below hb2)
  go_wp2_with fail
  go_at_call 13
  refine cA.mono ?_
  rintro e w3 ⟨rfl, hk3⟩
  go_wp2
  go_ret
  exact ⟨rfl, hb2.trans (hk3.mono hb2.size)⟩
theorem canons_no2 (hL : Laid w) (hp : IsStr (.string s1) y0 yo yn) (he : IsStr (.string s2) y1 eo en) (hm : IsMoves w (.slice ad n c) d n) (h : ShortP yn en d n)
    (hp' : IsStr (.string z1) u0 uo un) (he' : IsStr (.string z2) u1 fo fn) (hm' : IsMoves w (.slice ad' n' c') d' n') (h' : ¬ ShortP un fn d' n') :
    Calls prog 9 #[.agg #[.string s1, .string s2, .bool lx, .slice ad n c], .agg #[.string z1, .string z2, .bool zx, .slice ad' n' c']] w fun e w' => e = .returned (.bool true) ∧ Below w.heap.size w w' := by
  have hB : Below w.heap.size w ((w.alloc (.cells #[.string s1, .string s2, .bool lx, .slice ad n c] 24)).alloc (.cells #[.string z1, .string z2, .bool zx, .slice ad' n' c'] 24)) := ((Below.refl _ _).alloc (Nat.le_refl _) _).alloc (by simp) _
  have cA := awake_w (hL.below hB)
  go_enter func9, ntmps9
  go_wp2_with fail
  go_at_call 13
  refine cA.mono ?_
  rintro e w1 ⟨rfl, hk1⟩
  have hb1 : Below w.heap.size w w1 := hB.trans (hk1.mono (by rw [size2]; omega))
  have hx1 := (at2_0 _ _ _ _ _).below hk1 (by rw [size2]; omega)
  have hy1 := (at2_1 _ _ _ _ _).below hk1 (by rw [size2]; omega)
  obtain ⟨⟨x0, x1, x2, x3⟩, -⟩ := box4 hx1
  clear cA
  have cS := short_yes (lx := lx) hp he (hm.below hb1) h
  go_wp2_with fail
  go_at_call 14
  refine cS.mono ?_
  rintro e w2 ⟨rfl, hk2⟩
  have hb2 : Below w.heap.size w w2 := hb1.trans (hk2.mono hb1.size)
  have hy2 := hy1.below hk2 hy1.lt
  obtain ⟨⟨y0', y1', y2', y3'⟩, -⟩ := box4 hy2
  have cS := short_no (lx := zx) hp' he' (hm'.below hb2) h'
  clear x0 x1 x2 x3
  go_wp2_with fail
  go_at_call 14
  refine cS.mono ?_
  rintro e w3 ⟨rfl, hk3⟩
  have hb3 : Below w.heap.size w w3 := hb2.trans (hk3.mono hb2.size)
  have cA := awake_w (hL.below hb3)
  go_wp2_with fail
  go_at_call 13
  refine cA.mono ?_
  rintro e w4 ⟨rfl, hk4⟩
  go_wp2
  go_ret
  exact ⟨rfl, hb3.trans (hk4.mono hb3.size)⟩

set_option maxHeartbeats 6400000 in
theorem canons_go (hL : Laid w) (hp : IsStr (.string s1) y0 yo yn) (he : IsStr (.string s2) y1 eo en) (hm : IsMoves w (.slice ad n c) d n) (h : ShortP yn en d n)
    (hp' : IsStr (.string z1) u0 uo un) (he' : IsStr (.string z2) u1 fo fn) (hm' : IsMoves w (.slice ad' n' c') d' n') (h' : ShortP un fn d' n') :
    Calls prog 9 #[.agg #[.string s1, .string s2, .bool lx, .slice ad n c], .agg #[.string z1, .string z2, .bool zx, .slice ad' n' c']] w fun e w' => e = .returned (.bool true) ∧ Below w.heap.size w w' := by
  have hn6 : n ≤ 6 := h.2.2.1
  have hn6' : n' ≤ 6 := h'.2.2.1
  have hbn : ∀ i, i < n → (d i).bn ≤ 40 := fun i hi => (h.2.2.2 i hi).2
  have hbn' : ∀ i, i < n' → (d' i).bn ≤ 40 := fun i hi => (h'.2.2.2 i hi).2
  have hbm : ∀ i, i < n → (d i).bn ≤ 1000000 := fun i hi => by have := hbn i hi; omega
  have hbm' : ∀ i, i < n' → (d' i).bn ≤ 1000000 := fun i hi => by have := hbn' i hi; omega
  obtain ⟨P1, hP1⟩ : ∃ P, canP s1 s2 lx y0 yo yn y1 eo en d n = P := ⟨_, rfl⟩
  obtain ⟨P2, hP2⟩ : ∃ P, canP z1 z2 zx u0 uo un u1 fo fn d' n' = P := ⟨_, rfl⟩
  obtain ⟨E1, hE1⟩ : ∃ E, canE y0 yo yn y1 eo en d n = E := ⟨_, rfl⟩
  obtain ⟨E2, hE2⟩ : ∃ E, canE u0 uo un u1 fo fn d' n' = E := ⟨_, rfl⟩
  have hS1 : SmallP P1 := by rw [← hP1]; exact can_small _ _ _ _ _ _ _ _ _ (by omega) hbm
  have hB : Below w.heap.size w ((w.alloc (.cells #[.string s1, .string s2, .bool lx, .slice ad n c] 24)).alloc (.cells #[.string z1, .string z2, .bool zx, .slice ad' n' c'] 24)) := ((Below.refl _ _).alloc (Nat.le_refl _) _).alloc (by simp) _
  -- the copies and the canonical forms, in whatever later world
  have cP : ∀ W, Below w.heap.size w W → Calls prog 16 #[.agg #[.string s1, .string s2, .bool lx, .slice ad n c]] W fun e w' => ∃ a k, e = .returned (.agg #[.string s1, .string s2, .bool lx, .slice a n k]) ∧ IsMoves w' (.slice a n k) d n ∧ Below W.heap.size W w' := fun W hW => by
    refine (copied_w (s1 := s1) (s2 := s2) (lx := lx) (hm.below hW) (by omega) hbn).mono ?_
    rintro e w' ⟨v, rfl, hm', hB⟩
    have hm2 := hm'
    obtain ⟨a, k, rfl, -, -⟩ := hm'
    exact ⟨a, k, rfl, hm2, hB⟩
  have cQ : ∀ W, Below w.heap.size w W → Calls prog 16 #[.agg #[.string z1, .string z2, .bool zx, .slice ad' n' c']] W fun e w' => ∃ a k, e = .returned (.agg #[.string z1, .string z2, .bool zx, .slice a n' k]) ∧ IsMoves w' (.slice a n' k) d' n' ∧ Below W.heap.size W w' := fun W hW => by
    refine (copied_w (s1 := z1) (s2 := z2) (lx := zx) (hm'.below hW) (by omega) hbn').mono ?_
    rintro e w' ⟨v, rfl, hm', hB⟩
    have hm2 := hm'
    obtain ⟨a, k, rfl, -, -⟩ := hm'
    exact ⟨a, k, rfl, hm2, hB⟩
  have c1 : ∀ W a k, Below w.heap.size w W → IsMoves W (.slice a n k) d n → Calls prog 101 #[.agg #[.string s1, .string s2, .bool lx, .slice a n k]] W fun e w' => PlAns w' e E1 P1 ∧ Below W.heap.size W w' := fun W a k hW hmW => by
    rw [← hP1, ← hE1]; exact can_w (hL.below hW) hp he hmW (by omega) hbm
  have c2 : ∀ W a k, Below w.heap.size w W → IsMoves W (.slice a n' k) d' n' → Calls prog 101 #[.agg #[.string z1, .string z2, .bool zx, .slice a n' k]] W fun e w' => PlAns w' e E2 P2 ∧ Below W.heap.size W w' := fun W a k hW hmW => by
    rw [← hP2, ← hE2]; exact can_w (hL.below hW) hp' he' hmW (by omega) hbm'
  have r1 : ∀ W, Below w.heap.size w W → Calls prog 55 #[.agg #[.string s1, .string s2, .bool lx, .slice ad n c]] W fun e w' => PlAns w' e E1 P1 ∧ Below W.heap.size W w' := fun W hW => by
    rw [← hP1, ← hE1]; exact canR_w (hL.below hW) hp he (hm.below hW) (by omega) hbm
  have r2 : ∀ W, Below w.heap.size w W → Calls prog 55 #[.agg #[.string z1, .string z2, .bool zx, .slice ad' n' c']] W fun e w' => PlAns w' e E2 P2 ∧ Below W.heap.size W w' := fun W hW => by
    rw [← hP2, ← hE2]; exact canR_w (hL.below hW) hp' he' (hm'.below hW) (by omega) hbm'
  have cN : ∀ W a k, Below w.heap.size w W → IsMoves W (.slice a n k) d n → Calls prog 53 #[.agg #[.string s1, .string s2, .bool lx, .slice a n k]] W fun e w' => PlAns w' e E1 P1 ∧ Below W.heap.size W w' := fun W a k hW hmW =>
    canon_w fun W' hW' => c1 W' a k (hW.trans (hW'.mono hW.size)) (hmW.below hW')
  have cE : ∀ W a k a' k', Below w.heap.size w W → IsMoves W (.slice a n k) d n → IsMoves W (.slice a' n' k') d' n' → Calls prog 54 #[.agg #[.string s1, .string s2, .bool lx, .slice a n k], .agg #[.string z1, .string z2, .bool zx, .slice a' n' k']] W fun e w' => e = .returned (.tuple #[.bool (eqB E1 E2 P1 P2), .int .i64 (eqE E1 E2)]) ∧ Below W.heap.size W w' := fun W a k a' k' hW h1 h2 =>
    equal_w (fun W' hW' => c1 W' a k (hW.trans (hW'.mono hW.size)) (h1.below hW')) (fun W' hW' => c2 W' a' k' (hW.trans (hW'.mono hW.size)) (h2.below hW')) hS1
  obtain ⟨v, hv⟩ : ∃ v : Int, eqE E1 E2 = v := ⟨_, rfl⟩
  obtain ⟨q, hq⟩ : ∃ q, eqB E1 E2 P1 P2 = q := ⟨_, rfl⟩
  have HQ : Hid ((v ≠ 0 → q = false) ∧ (v = 0 → q = sameP P1 P2)) := Lib.hid (by
    rw [← hq, ← hv]
    unfold eqB
    exact ⟨fun h => by simp [h], fun h => by simp [h]⟩)
  rw [hv, hq] at cE
  have cF : ∀ (b : Nat) (W : World), W.cell? ⟨b, 0, none⟩ = some (.int .i64 E1) → W.cell? ⟨b, 1, none⟩ = some (.int .i64 E2) → Calls prog 30 #[.slice (some ⟨b, 0, none⟩) 2 2] W fun e w' => e = .returned (.int .i64 v) ∧ Below W.heap.size W w' := fun b W h0 h1 => by rw [← hv]; exact firstR_w b E1 E2 W h0 h1
  have cA := awake_w (hL.below hB)
  have aw : ∀ W, Below w.heap.size w W → Calls prog 13 #[] W fun e w' => e = .returned (.bool true) ∧ Below W.heap.size W w' := fun W hW => awake_w (hL.below hW)
  clear hP1 hP2 hE1 hE2 hv hq c1 c2 hbm hbm' hbn hbn'
  go_enter func9, ntmps9
  go_wp2_with fail
  go_at_call 13
  refine cA.mono ?_
  rintro e w1 ⟨rfl, hk1⟩
  have hb1 : Below w.heap.size w w1 := hB.trans (hk1.mono (by rw [size2]; omega))
  have hx1 := (at2_0 _ _ _ _ _).below hk1 (by rw [size2]; omega)
  have hy1 := (at2_1 _ _ _ _ _).below hk1 (by rw [size2]; omega)
  obtain ⟨⟨x0, x1, x2, x3⟩, -⟩ := box4 hx1
  have cS := short_yes (lx := lx) hp he (hm.below hb1) h
  clear cA aw hB
  go_wp2_with fail
  go_at_call 14
  refine cS.mono ?_
  rintro e w2 ⟨rfl, hk2⟩
  have hb2 : Below w.heap.size w w2 := hb1.trans (hk2.mono hb1.size)
  have hx2 := hx1.below hk2 hx1.lt
  have hy2 := hy1.below hk2 hy1.lt
  obtain ⟨⟨y0', y1', y2', y3'⟩, -⟩ := box4 hy2
  have cS := short_yes (lx := zx) hp' he' (hm'.below hb2) h'
  clear x0 x1 x2 x3 hx1 hy1 hk1 hk2 hb1
  go_wp2_with fail
  go_at_call 14
  refine cS.mono ?_
  rintro e w3 ⟨rfl, hk3⟩
  have hb3 : Below w.heap.size w w3 := hb2.trans (hk3.mono hb2.size)
  have hx3 := hx2.below hk3 hx2.lt
  have hy3 := hy2.below hk3 hy2.lt
  obtain ⟨⟨x0, x1, x2, x3⟩, -⟩ := box4 hx3
  clear y0' y1' y2' y3' hx2 hy2 hk3 hb2 cS
  go_wp2_with fail
  go_at_call 16
  refine (cP _ hb3).mono ?_
  rintro e w4 ⟨a4, k4, rfl, hm4, hk4⟩
  have hb4 : Below w.heap.size w w4 := hb3.trans (hk4.mono hb3.size)
  have hx4 := hx3.below hk4 hx3.lt
  have hy4 := hy3.below hk4 hy3.lt
  have cC := cN _ _ _ hb4 hm4
  clear x0 x1 x2 x3 hx3 hy3 hk4 hb3 hm4
  go_wp2_with fail
  go_at_call 53
  refine cC.mono ?_
  rintro e w5 ⟨⟨mv5, rfl, hm5⟩, hk5⟩
  obtain ⟨p1, p2, px, L⟩ := P1
  obtain ⟨q1, q2, qx, M⟩ := P2
  dsimp only at hm5 ⊢
  have hm5' := hm5
  obtain ⟨a5, k5, rfl, -, -⟩ := hm5'
  have hb5 : Below w.heap.size w w5 := hb4.trans (hk5.mono hb4.size)
  have hx5 := (hx4.below hk5 hx4.lt).alloc (.cells #[.string p1, .string p2, .bool px, .slice a5 L.length k5] 24)
  have hy5 := (hy4.below hk5 hy4.lt).alloc (.cells #[.string p1, .string p2, .bool px, .slice a5 L.length k5] 24)
  have hc5 := at_new w5 #[.string p1, .string p2, .bool px, .slice a5 L.length k5] 24
  have hb6 := hb5.alloc hb5.size (.cells #[.string p1, .string p2, .bool px, .slice a5 L.length k5] 24)
  have hm6 := hm5.below ((Below.refl w5.heap.size w5).alloc (Nat.le_refl _) (.cells #[.string p1, .string p2, .bool px, .slice a5 L.length k5] 24))
  have hW6s : (w5.alloc (.cells #[.string p1, .string p2, .bool px, .slice a5 L.length k5] 24)).heap.size = w5.heap.size + 1 := by simp
  clear cC hx4 hy4 hk5 hb4 hm5 cN
  go_wp2_with fail
  generalize w5.alloc (.cells #[.string p1, .string p2, .bool px, .slice a5 L.length k5] 24) = W6 at hx5 hy5 hc5 hb6 hm6 hW6s ⊢
  have hW6l : w5.heap.size < W6.heap.size := by omega
  clear hW6s
  obtain ⟨⟨x0, x1, x2, x3⟩, -⟩ := box4 hx5
  obtain ⟨⟨y0', y1', y2', y3'⟩, -⟩ := box4 hy5
  have hdr : Below W6.heap.size W6 W6.drew := (Below.refl _ _).drew
  clear hb5
  go_cut [7, 8] (fun s7 s8 wx => CutE W6 q v s7 s8 wx)
  case first =>
    as_aux_lemma =>
      go_region_held3 (fun W => W.cell? ⟨w.heap.size, 0, none⟩ = some (.string s1) ∧ W.cell? ⟨w.heap.size, 1, none⟩ = some (.string s2) ∧ W.cell? ⟨w.heap.size, 2, none⟩ = some (.bool lx) ∧ W.cell? ⟨w.heap.size, 3, none⟩ = some (.slice ad n c) ∧ W.cell? ⟨w.heap.size + 1, 0, none⟩ = some (.string z1) ∧ W.cell? ⟨w.heap.size + 1, 1, none⟩ = some (.string z2) ∧ W.cell? ⟨w.heap.size + 1, 2, none⟩ = some (.bool zx) ∧ W.cell? ⟨w.heap.size + 1, 3, none⟩ = some (.slice ad' n' c') ∧ Below W6.heap.size W6 W)
        (go_keep)
        (first
          | (go_at_call 16; refine Calls.mono (cP _ ?_) ?_; (exact hb6.trans (Below.mono (B := W6.heap.size) (by assumption) hb6.size)); rintro e W ⟨aP, kP, rfl, hmP, hkk⟩; have hbk := Below.trans (B := W6.heap.size) (a := W6) (by assumption) (Below.mono hkk (Below.size (B := W6.heap.size) (w := W6) (by assumption))); (try have hmQ := hmQ.below hkk); obtain ⟨⟨x0, x1, x2, x3⟩, -⟩ := box4 (hx5.below hbk hx5.lt); obtain ⟨⟨y0', y1', y2', y3'⟩, -⟩ := box4 (hy5.below hbk hy5.lt))
          | (go_at_call 16; refine Calls.mono (cQ _ ?_) ?_; (exact hb6.trans (Below.mono (B := W6.heap.size) (by assumption) hb6.size)); rintro e W ⟨aQ, kQ, rfl, hmQ, hkk⟩; have hbk := Below.trans (B := W6.heap.size) (a := W6) (by assumption) (Below.mono hkk (Below.size (B := W6.heap.size) (w := W6) (by assumption))); (try have hmP := hmP.below hkk); obtain ⟨⟨x0, x1, x2, x3⟩, -⟩ := box4 (hx5.below hbk hx5.lt); obtain ⟨⟨y0', y1', y2', y3'⟩, -⟩ := box4 (hy5.below hbk hy5.lt))
          | (go_at_call 54; refine Calls.mono (cE _ _ _ _ _ ?_ hmP hmQ) ?_; (exact hb6.trans (Below.mono (B := W6.heap.size) (by assumption) hb6.size)); rintro e W ⟨rfl, hkk⟩; have hbk := Below.trans (B := W6.heap.size) (a := W6) (by assumption) (Below.mono hkk (Below.size (B := W6.heap.size) (w := W6) (by assumption))); obtain ⟨⟨x0, x1, x2, x3⟩, -⟩ := box4 (hx5.below hbk hx5.lt); obtain ⟨⟨y0', y1', y2', y3'⟩, -⟩ := box4 (hy5.below hbk hy5.lt)))
      all_goals (go_wp2_with fail; go_meet; exact ⟨rfl, rfl, hbk⟩)
  case rest =>
    as_aux_lemma =>
      obtain ⟨rfl, rfl, hbA⟩ := hcut
      have hx6 := hx5.below hbA hx5.lt
      have hy6 := hy5.below hbA hy5.lt
      have hc6 := hc5.below hbA hc5.lt
      have hm7 := hm6.below hbA
      have hb7 := hb6.trans (hbA.mono hb6.size)
      clear x0 x1 x2 x3 y0' y1' y2' y3' hx5 hy5 hc5 hb6 hm6 hbA hdr cP cQ cE
      obtain ⟨⟨x0, x1, x2, x3⟩, -⟩ := box4 hx6
      have cR := r1 _ hb7
      go_wp2_with fail
      go_at_call 55
      refine cR.mono ?_
      rintro e w8 ⟨⟨mv8, rfl, hm8⟩, hk8⟩
      have hm8' := hm8
      obtain ⟨a8, k8, rfl, -, -⟩ := hm8'
      dsimp only at hm8 ⊢
      have hb8 := (hb7.trans (hk8.mono hb7.size)).alloc (hb7.trans (hk8.mono hb7.size)).size (.cells #[.string p1, .string p2, .bool px, .slice a8 L.length k8] 24)
      have hy8 := (hy6.below hk8 hy6.lt).alloc (.cells #[.string p1, .string p2, .bool px, .slice a8 L.length k8] 24)
      have hc8 := (hc6.below hk8 hc6.lt).alloc (.cells #[.string p1, .string p2, .bool px, .slice a8 L.length k8] 24)
      have hd8 := at_new w8 #[.string p1, .string p2, .bool px, .slice a8 L.length k8] 24
      have hm9 := hm8.below ((Below.refl w8.heap.size w8).alloc (Nat.le_refl _) (.cells #[.string p1, .string p2, .bool px, .slice a8 L.length k8] 24))
      have hm10 := (hm7.below hk8).below ((Below.refl w8.heap.size w8).alloc (Nat.le_refl _) (.cells #[.string p1, .string p2, .bool px, .slice a8 L.length k8] 24))
      obtain ⟨⟨y0', y1', y2', y3'⟩, -⟩ := box4 hy8
      have cR := r2 _ hb8
      clear x0 x1 x2 x3 hx6 hy6 hc6 hm7 hb7 hk8 hm8
      go_wp2_with fail
      go_at_call 55
      refine cR.mono ?_
      rintro e w10 ⟨⟨mv10, rfl, hmo⟩, hk10⟩
      have hmo' := hmo
      obtain ⟨a10, k10, rfl, -, -⟩ := hmo'
      dsimp only at hmo ⊢
      have hal := (Below.refl w10.heap.size w10).alloc (Nat.le_refl _) (.cells #[.string q1, .string q2, .bool qx, .slice a10 M.length k10] 24)
      have hb11 := (hb8.trans (hk10.mono hb8.size)).alloc (hb8.trans (hk10.mono hb8.size)).size (.cells #[.string q1, .string q2, .bool qx, .slice a10 M.length k10] 24)
      have hc11 := (hc8.below hk10 hc8.lt).alloc (.cells #[.string q1, .string q2, .bool qx, .slice a10 M.length k10] 24)
      have hd11 := (hd8.below hk10 hd8.lt).alloc (.cells #[.string q1, .string q2, .bool qx, .slice a10 M.length k10] 24)
      have he11 := at_new w10 #[.string q1, .string q2, .bool qx, .slice a10 M.length k10] 24
      have hmA := (hm10.below hk10).below hal
      have hmB := (hm9.below hk10).below hal
      have hmC := hmo.below hal
      clear y0' y1' y2' y3' hy8 hc8 hd8 hm9 hm10 hk10 hb8 hmo hal
      go_wp2_with fail
      go_at_call 30
      refine (cF _ _ (by simp) (by simp)).mono ?_
      rintro e w12 ⟨rfl, hk12⟩
      have hal := ((Below.refl _ _).alloc (Nat.le_refl _) (.cells #[.int .i64 E1, .int .i64 E2] 3) (w := w10.alloc (.cells #[.string q1, .string q2, .bool qx, .slice a10 M.length k10] 24))).trans (hk12.mono (by simp))
      have hb12 := hb11.trans (hal.mono hb11.size)
      have hc12 := hc11.below hal hc11.lt
      have hd12 := hd11.below hal hd11.lt
      have he12 := he11.below hal he11.lt
      have hmA2 := hmA.below hal
      have hmB2 := hmB.below hal
      have hmC2 := hmC.below hal
      obtain ⟨⟨x0, x1, x2, x3⟩, -⟩ := box4 hc12
      obtain ⟨⟨y0', y1', y2', y3'⟩, -⟩ := box4 hd12
      have cS : Calls prog 25 #[.agg #[.string p1, .string p2, .bool px, .slice a5 L.length k5], .agg #[.string p1, .string p2, .bool px, .slice a8 L.length k8]] w12 fun e w' => e = .returned (.bool true) ∧ Below w12.heap.size w12 w' := by
        have := samePlay_w (s1 := p1) (s2 := p2) (z1 := p1) (z2 := p2) (lx := px) (zx := px) hmA2 hmB2 hS1.1 hS1.2
        rw [sameN_refl] at this
        simpa using this
      clear hc11 hd11 he11 hmA hmB hmC hb11 hk12 hal hmA2 hc12
      go_wp2_with fail
      go_at_call 25
      refine cS.mono ?_
      rintro e w13 ⟨rfl, hk13⟩
      have hb13 := hb12.trans (hk13.mono hb12.size)
      have hd13 := hd12.below hk13 hd12.lt
      have he13 := he12.below hk13 he12.lt
      have hmB3 := hmB2.below hk13
      have hmC3 := hmC2.below hk13
      clear x0 x1 x2 x3 y0' y1' y2' y3' cS hd12 he12 hmB2 hmC2 hk13 hb12
      obtain ⟨⟨x0, x1, x2, x3⟩, -⟩ := box4 hd13
      obtain ⟨⟨y0', y1', y2', y3'⟩, -⟩ := box4 he13
      by_cases hv0 : v = 0
      · have hqs := HQ.out.2 hv0
        have cS : Calls prog 25 #[.agg #[.string p1, .string p2, .bool px, .slice a8 L.length k8], .agg #[.string q1, .string q2, .bool qx, .slice a10 M.length k10]] w13 fun e w' => e = .returned (.bool q) ∧ Below w13.heap.size w13 w' := by
          have := samePlay_w (s1 := p1) (s2 := p2) (z1 := q1) (z2 := q2) (lx := px) (zx := qx) hmB3 hmC3 hS1.1 hS1.2
          rw [hqs]
          exact this
        clear HQ hqs
        subst hv0
        go_wp2_with fail
        go_at_call 25
        refine cS.mono ?_
        rintro e w14 ⟨rfl, hk14⟩
        have hb14 := hb13.trans (hk14.mono hb13.size)
        cases q <;> (go_wp2; go_ret; exact ⟨by first | rfl | simp, hb14⟩)
      · have hqf := HQ.out.1 hv0
        subst hqf
        go_wp2
        go_ret
        exact ⟨by first | rfl | simp, hb13⟩
theorem canons_w (hL : Laid w) (hp : IsStr (.string s1) y0 yo yn) (he : IsStr (.string s2) y1 eo en) (hm : IsMoves w (.slice ad n c) d n)
    (hp' : IsStr (.string z1) u0 uo un) (he' : IsStr (.string z2) u1 fo fn) (hm' : IsMoves w (.slice ad' n' c') d' n') :
    Calls prog 9 #[.agg #[.string s1, .string s2, .bool lx, .slice ad n c], .agg #[.string z1, .string z2, .bool zx, .slice ad' n' c']] w fun e w' => e = .returned (.bool true) ∧ Below w.heap.size w w' := by
  by_cases h : ShortP yn en d n
  · by_cases h' : ShortP un fn d' n'
    · exact canons_go hL hp he hm h hp' he' hm' h'
    · exact canons_no2 hL hp he hm h hp' he' hm' h'
  · exact canons_no1 hL hp he hm h
end
end Go.Proofs.Tryz

namespace Go.Proofs.Tryz
open Go Go.Am Go.RowKit Go.Dr
set_option maxRecDepth 100000

theorem canons_law {w : World} {y0 y1 u0 u1 : Int → Int} {yo yn eo en uo un fo fn : Int} {lx zx : Bool} {d d' : Nat → MvD} {n n' : Nat} {pv ev mv pv' ev' mv' : Value}
    (hL : Laid w) (hp : IsStr pv y0 yo yn) (he : IsStr ev y1 eo en) (hm : IsMoves w mv d n) (_ : ∀ i, i < n → 0 ≤ (d i).bn) (hp' : IsStr pv' u0 uo un) (he' : IsStr ev' u1 fo fn) (hm' : IsMoves w mv' d' n') (_ : ∀ i, i < n' → 0 ≤ (d' i).bn) :
    Calls prog 9 #[.agg #[pv, ev, .bool lx, mv], .agg #[pv', ev', .bool zx, mv']] w fun e w' => e = .returned (.bool true) ∧ Below w.heap.size w w' := by
  have hp1 := hp
  have he1 := he
  have hm1 := hm
  have hp2 := hp'
  have he2 := he'
  have hm2 := hm'
  obtain ⟨l1, rfl, -, -⟩ := hp1
  obtain ⟨l2, rfl, -, -⟩ := he1
  obtain ⟨a, c, rfl, -, -⟩ := hm1
  obtain ⟨l3, rfl, -, -⟩ := hp2
  obtain ⟨l4, rfl, -, -⟩ := he2
  obtain ⟨a', c', rfl, -, -⟩ := hm2
  exact canons_w hL hp he hm hp' he' hm'
end Go.Proofs.Tryz

namespace Go.Proofs.Tryz
open Go Go.Am Go.ChangeShapes Go.WideShapes Go.ChangeAt Go.RowKit
open YthlmjjdlmidnlaaGreatDoor
set_option maxRecDepth 100000

theorem canons_lifted (os : Os) (started : os.Started) (H : Type) (enc : TypeId × Value → H) :
    ReturnsInHanded {} checked os 9 .any (fun w args => (Rows.playCanonsSpec.pre enc prog f9 [] false w args ∧ laidMetH prog Rows.playCanonsRow.laid w) ∧ sizedMet enc prog f9 (OpenSpec.ofChange Rows.playCanonsSpec) false w args)
      (Rows.playCanonsSpec.post enc prog f9 false true false false) := by
  refine returnsInHanded_of_change_and (C := checked) (X := fun w _ => laidMetH prog Rows.playCanonsRow.laid w) (fun _ _ _ hh h => h.of_heap hh) own started (by kernel_rfl) func9
    (ChangeSpec.witness_shaped (enc := enc) (C := checked) (os := os) (X := fun w _ => laidMetH prog Rows.playCanonsRow.laid w) false (World.laidAll prog os Rows.playCanonsRow.laid) #[.agg #[.string ⟨#[]⟩, .string ⟨#[]⟩, .bool false, .slice none 0 0], .agg #[.string ⟨#[]⟩, .string ⟨#[]⟩, .bool false, .slice none 0 0]] 8 (World.laidAll_os _ _ _) (laid_shaped os) (by kernel_rfl) (by kernel_rfl) (by kernel_rfl) (laid_met os _)) ?_
  intro W base args ds gs before hval0 hW _ _ hL _
  have hval : ∀ (j : Nat) t v, f9.params[j]? = some t → args[j]? = some v → Value.okWide prog W .any base t v := hval0
  have hW' := hW
  obtain ⟨p, q, hA0, hV, rfl, hfz, hnd⟩ := hW
  have hA : DataW.TrodAll enc prog W 0 (fun _ => true) true f9.params.toList args.toList ds p := hA0
  rw [params9] at hA hval
  obtain ⟨v0, v1, e0, e1, p0, p1, rfl, rfl, rfl, h0, h1⟩ := trodAll_two hA
  obtain ⟨rfl, rfl⟩ := trodVars_none hV
  have hlaid := of_laid hL
  obtain ⟨y00, y10, yn0, en0, lx0, d0, n0, pv0, ev0, mv0, rfl, a0, b0, c0⟩ := play_arg (hval 0 24 v0 rfl rfl) h0
  obtain ⟨y01, y11, yn1, en1, lx1, d1, n1, pv1, ev1, mv1, rfl, a1, b1, c1⟩ := play_arg (hval 1 24 v1 rfl rfl) h1
  have hrun : Calls prog 9 #[.agg #[pv0, ev0, .bool (decide (lx0 ≠ 0)), mv0], .agg #[pv1, ev1, .bool (decide (lx1 ≠ 0)), mv1]] W fun e w' => e = .returned (.bool true) ∧ Below W.heap.size W w' := canons_law hlaid a0 b0 c0 (moves_bn c0) a1 b1 c1 (moves_bn c1)
  refine hrun.mono fun e W' ⟨he, hB⟩ => ?_
  subst he
  have hlt : ∀ x ∈ p0 ++ p1, x.block < W.heap.size := fun x hx => by
    have := hW'.lt x (by simpa using hx)
    exact this
  refine ⟨_, rfl, _, _, _, [], p0 ++ p1, [], hW', trodAll_mk1 (shut_bool underlying4 true), ?_, rfl, hB.frame _, fun h => by cases h⟩
  exact trodAll_mk2 (Below.trod laidOut (by kernel_rfl) (of_decide_eq_true (by kernel_rfl)) h0 hB fun x hx => hlt x (by simp [hx]))
    (Below.trod laidOut (by kernel_rfl) (of_decide_eq_true (by kernel_rfl)) h1 hB fun x hx => hlt x (by simp [hx]))

theorem f9_named : checked.prog.funcNamed Rows.playCanonsRow.func = some 9 := by kernel_rfl
theorem f9_facts : joinedFacts checked.prog 9 f9 Rows.playCanonsSpec Rows.playCanonsRow = true := by kernel_rfl
theorem f9_inst : f9.isInstance checked.prog Rows.playCanonsRow.origin Rows.playCanonsRow.targs := of_decide_eq_true (by kernel_rfl)
theorem f9_wrap : f9.isWrapper checked.prog Rows.playCanonsRow.wrapper Rows.playCanonsRow.mainSum := by
  unfold Func.isWrapper; first | (rw [if_pos (by decide +kernel)]; kernel_rfl) | (rw [if_neg (by decide +kernel)]; exact ⟨rfl, rfl⟩)

theorem canons_holds : Rows.PlayCanonsSaid :=
  OpenClaim.holds_of_wide 9 f9 rfl rfl rfl rfl rfl rfl rfl ⟨rfl, rfl, rfl, rfl, rfl⟩ rfl rfl rfl rfl rfl f9_named func9 f9_facts f9_inst f9_wrap
    (fun os started H enc _ => canons_lifted os started H enc)
end Go.Proofs.Tryz
