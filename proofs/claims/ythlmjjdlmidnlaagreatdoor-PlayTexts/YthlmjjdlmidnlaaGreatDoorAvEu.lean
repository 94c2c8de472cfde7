/- ParseAll of the program: a range over a function whose iterator writes a box of its own. -/
import Derived.Test.YthlmjjdlmidnlaaGreatDoorAtMu
import Derived.Test.YthlmjjdlmidnlaaGreatDoorAtKu
import Derived.Test.YthlmjjdlmidnlaaGreatDoorArVau
namespace Go.Proofs.Tryz
open Go Go.Am Go.RowKit Go.Dr Go.Shelf
set_option maxRecDepth 100000
attribute [local go_sem] Oper.semAt_some

theorem at5 (w : World) (c0 c1 c2 c3 c4 : Array Value) (t0 t1 t2 t3 t4 : TypeId) :
    At (((((w.alloc (.cells c0 t0)).alloc (.cells c1 t1)).alloc (.cells c2 t2)).alloc (.cells c3 t3)).alloc (.cells c4 t4)) w.heap.size c0 t0 ∧
    At (((((w.alloc (.cells c0 t0)).alloc (.cells c1 t1)).alloc (.cells c2 t2)).alloc (.cells c3 t3)).alloc (.cells c4 t4)) (w.heap.size + 1) c1 t1 ∧
    At (((((w.alloc (.cells c0 t0)).alloc (.cells c1 t1)).alloc (.cells c2 t2)).alloc (.cells c3 t3)).alloc (.cells c4 t4)) (w.heap.size + 1 + 1) c2 t2 ∧
    At (((((w.alloc (.cells c0 t0)).alloc (.cells c1 t1)).alloc (.cells c2 t2)).alloc (.cells c3 t3)).alloc (.cells c4 t4)) (w.heap.size + 1 + 1 + 1) c3 t3 ∧
    At (((((w.alloc (.cells c0 t0)).alloc (.cells c1 t1)).alloc (.cells c2 t2)).alloc (.cells c3 t3)).alloc (.cells c4 t4)) (w.heap.size + 1 + 1 + 1 + 1) c4 t4 ∧
    Below w.heap.size w (((((w.alloc (.cells c0 t0)).alloc (.cells c1 t1)).alloc (.cells c2 t2)).alloc (.cells c3 t3)).alloc (.cells c4 t4)) := by
  refine ⟨((((at_new w c0 t0).alloc _).alloc _).alloc _).alloc _, ?_, ?_, ?_, ?_, ?_⟩
  · have := (((at_new (w.alloc (.cells c0 t0)) c1 t1).alloc (.cells c2 t2)).alloc (.cells c3 t3)).alloc (.cells c4 t4)
    simpa using this
  · have := ((at_new ((w.alloc (.cells c0 t0)).alloc (.cells c1 t1)) c2 t2).alloc (.cells c3 t3)).alloc (.cells c4 t4)
    simpa using this
  · have := (at_new (((w.alloc (.cells c0 t0)).alloc (.cells c1 t1)).alloc (.cells c2 t2)) c3 t3).alloc (.cells c4 t4)
    simpa using this
  · have := at_new ((((w.alloc (.cells c0 t0)).alloc (.cells c1 t1)).alloc (.cells c2 t2)).alloc (.cells c3 t3)) c4 t4
    simpa using this
  · exact (((((Below.refl _ w).alloc (Nat.le_refl _) _).alloc (by simp) _).alloc (by simp; omega) _).alloc (by simp; omega) _).alloc (by simp; omega) _
/-- Three cells stored, of three blocks: the results. -/
theorem put3 {w W : World} {b0 b1 b2 : Nat} {v0 v1 v2 u0 u1 u2 : Value} {e0 e1 e2 : TypeId} (h0 : At W b0 #[v0] e0) (h1 : At W b1 #[v1] e1) (h2 : At W b2 #[v2] e2) (n01 : b0 ≠ b1) (n02 : b0 ≠ b2) (n12 : b1 ≠ b2) (hb0 : w.heap.size ≤ b0) (hb1 : w.heap.size ≤ b1) (hb2 : w.heap.size ≤ b2) (hB : Below w.heap.size w W) :
    At (((W.setCell ⟨b0, 0, none⟩ u0).setCell ⟨b1, 0, none⟩ u1).setCell ⟨b2, 0, none⟩ u2) b0 #[u0] e0 ∧ At (((W.setCell ⟨b0, 0, none⟩ u0).setCell ⟨b1, 0, none⟩ u1).setCell ⟨b2, 0, none⟩ u2) b1 #[u1] e1 ∧
    At (((W.setCell ⟨b0, 0, none⟩ u0).setCell ⟨b1, 0, none⟩ u1).setCell ⟨b2, 0, none⟩ u2) b2 #[u2] e2 ∧ Below w.heap.size w (((W.setCell ⟨b0, 0, none⟩ u0).setCell ⟨b1, 0, none⟩ u1).setCell ⟨b2, 0, none⟩ u2) ∧
    KeepsOthers W (((W.setCell ⟨b0, 0, none⟩ u0).setCell ⟨b1, 0, none⟩ u1).setCell ⟨b2, 0, none⟩ u2) := by
  have a0 := h0.set 0 u0
  have a1 := (h1.setCell (a := ⟨b0, 0, none⟩) (by simpa using n01.symm) u0).set 0 u1
  have a2 := ((h2.setCell (a := ⟨b0, 0, none⟩) (by simpa using n02.symm) u0).setCell (a := ⟨b1, 0, none⟩) (by simpa using n12.symm) u1).set 0 u2
  simp only [List.setIfInBounds_toArray, List.set_cons_zero] at a0 a1 a2
  exact ⟨(a0.setCell (a := ⟨b1, 0, none⟩) (by simpa using n01) u1).setCell (a := ⟨b2, 0, none⟩) (by simpa using n02) u2, a1.setCell (a := ⟨b2, 0, none⟩) (by simpa using n12) u2, a2,
    ((hB.setCell (p := ⟨b0, 0, none⟩) hb0 _).setCell (p := ⟨b1, 0, none⟩) hb1 _).setCell (p := ⟨b2, 0, none⟩) hb2 _, ((KeepsOthers.setCell _ _ _).trans (KeepsOthers.setCell _ _ _)).trans (KeepsOthers.setCell _ _ _)⟩

set_option maxHeartbeats 6400000 in
theorem parseAll_w (l : List UInt8) (hl : l.length ≤ 4096) (w : World) (hL : Laid w) (hm : MaxL w) :
    Calls prog 60 #[.string (bA l)] w fun e w' => AllAns w' e (parAll l) ∧ Below w.heap.size w w' := by
  have hs : (bA l).size = l.length := bA_size l
  refine (callsIn_wide (n := 8)).1 ?_
  refine callsIn_of_wp_marks func60 rfl trivial ?_ rfl
  simp only [ntmps60, List.size_toArray, List.length_cons, List.length_nil, Nat.reduceAdd, Nat.reduceSub, Array.replicate_succ, Array.replicate_zero, List.push_toArray, List.append_toArray, List.nil_append, List.cons_append]
  have hk : ¬ (1000000 < (l.length : Int)) := by omega
  gi_wp2_with (refine ⟨trivial, ?_⟩; gi_at_call 112; refine (callsIn_wide.2 (lines_w l _)).mono ?_; rintro e w' ⟨rfl, rfl⟩)
  obtain ⟨g0, g1, g2, g3, g4, hB⟩ := at5 w #[.slice none 0 0] #[.int .i64 0] #[.int .i64 0] #[.slice none 0 0] #[.string (bA l)] 86 3 30 86 9
  generalize (((((w.alloc (.cells #[.slice none 0 0] 86)).alloc (.cells #[.int .i64 0] 3)).alloc (.cells #[.int .i64 0] 30)).alloc (.cells #[.slice none 0 0] 86)).alloc (.cells #[.string (bA l)] 9)) = W0 at g0 g1 g2 g3 g4 hB ⊢
  obtain ⟨B4, hB4⟩ : ∃ B, w.heap.size + 1 + 1 + 1 + 1 = B := ⟨_, rfl⟩
  rw [hB4] at g4 ⊢
  obtain ⟨bo, hbo⟩ : ∃ B, w.heap.size + 1 + 1 + 1 = B := ⟨_, rfl⟩
  rw [hbo] at g3 ⊢
  obtain ⟨b2, hb2⟩ : ∃ B, w.heap.size + 1 + 1 = B := ⟨_, rfl⟩
  rw [hb2] at g2 ⊢
  obtain ⟨b1, hb1⟩ : ∃ B, w.heap.size + 1 = B := ⟨_, rfl⟩
  rw [hb1] at g1 ⊢
  have o1 : w.heap.size < b1 := by omega
  have o2 : b1 < b2 := by omega
  have o3 : b2 < bo := by omega
  have o4 : bo < B4 := by omega
  have o5 : B4 < W0.heap.size := g4.lt
  have h0 : AllI w b1 b2 bo W0.heap.size [] W0 := ⟨⟨[], none, 0, 0, rfl, g3, LpR.start _ _, g0, g1, g2, Nat.le_refl _⟩, hB⟩
  have hmW := hm.below hB
  have hLB : Laid W0 := hL.below hB
  have hk' : decide (1000000 < (l.length : Int)) = false := decide_eq_false (by omega)
  clear hbo hb1 hb2 hB4 g0 g1 g2 g3
  refine range_boxed (by omega) (gf := 146) (lb := #[.pointer (some ⟨B4, 0, none⟩)]) rfl (enters_of func146 (by kernel_rfl) rfl) (lines_stops 7 (by omega) l hl B4 W0 g4) KpB.t (fun W k o o' hk' ho _ _ => World.putObj_heap_other (by omega)) (fun _ => rfl)
    (AllI w b1 b2 bo W0.heap.size) (AllX w b1 b2) (allI_own w b1 b2 bo _ _ hB.size) (fun c => allX_own w b1 b2 _ hB.size c) (fun s X v h => allI_box (by omega) (by omega) (by omega) (by omega) (by omega) (by omega) s X v h) h0
    (fun x => { tmps := #[.string (bA l), undef, .pointer (some ⟨w.heap.size, 0, none⟩), .pointer (some ⟨b1, 0, none⟩), .pointer (some ⟨b2, 0, none⟩), .pointer (some ⟨bo, 0, none⟩), .string (bA (x.take 4096)), undef, undef, undef, undef, undef, undef, .string (bA l), .int .i64 (l.length : Int), .bool false, .string (bA l), .func (.func 146) #[] #[.pointer (some ⟨B4, 0, none⟩)], .string (bA (x.take 4096)),
      undef, undef, undef, undef, undef, undef, undef, undef, undef, undef, undef, undef, undef, undef, undef, undef, undef, undef, undef, undef, undef, undef, undef, undef, undef, undef, undef, undef, undef, undef, undef, undef, undef, undef, undef], defers := [] }) ?assign ?body ?done ?stop
  case assign =>
    intro l' x W K hK
    dsimp only [encL]
    gi_wp2
    exact hK
  case body =>
    rintro l' pre x W ⟨⟨out, av, kv, cv, hacc, hbo, hlp, hz0, hz1, hz2, hsz⟩, hBW⟩ hlen
    have hmx : prog.follows .mixedOrders = true := by kernel_rfl
    obtain rfl := hlp.count
    have hol : out.length = pre.length := by have := accL_len hacc; rw [lnW_len] at this; simpa using this
    have hN256 : pre.length ≤ 256 := by rcases accL_le hacc with h | h <;> rw [lnW_len] at h <;> omega
    obtain ⟨wd, hwd⟩ : ∃ wd, x.take 4096 = wd := ⟨_, rfl⟩
    have hwl : wd.length ≤ 4096 := by rw [← hwd, List.length_take]; omega
    obtain ⟨N, hN⟩ : ∃ N, pre.length = N := ⟨_, rfl⟩
    have HX : Hid (∀ (e : Int) (W' : World), stepL N wd = .inl e → At W' w.heap.size #[.slice none 0 0] 86 → At W' b1 #[.int .i64 (N : Int)] 3 → At W' b2 #[.int .i64 e] 30 → Below w.heap.size w W' → AllX w b1 b2 .ret (pre ++ [x]) W') := Lib.hid fun e W' q1 q2 q3 q4 q5 =>
      ⟨⟨rfl, pre, x, out, e, rfl, hacc, by rw [hN, hwd]; exact q1, q2, by rw [hN]; exact q3, q4⟩, q5⟩
    have HI : Hid (∀ (q : PlH) (a' : Option Addr) (k' c' : Nat) (W' : World), stepL N wd = .inr q → At W' bo #[.slice a' k' c'] 86 → LpR W' W0.heap.size (out ++ [q]) (.slice a' k' c') → At W' w.heap.size #[.slice none 0 0] 86 → At W' b1 #[.int .i64 0] 3 → At W' b2 #[.int .i64 0] 30 → W0.heap.size ≤ W'.heap.size → Below w.heap.size w W' → AllI w b1 b2 bo W0.heap.size (pre ++ [x]) W') := Lib.hid fun q a' k' c' W' q1 q2 q3 q4 q5 q6 q7 q8 =>
      ⟨⟨out ++ [q], a', k', c', by rw [lnW_snoc, accL_snoc, hacc, lnW_len, Nat.zero_add, hN, hwd]; simp [q1], q2, q3, q4, q5, q6, q7⟩, q8⟩
    rw [hwd]
    rw [hN] at hol hN256
    have hst : stepL N wd = if Lib.hasSuffix wd [10] = false then .inl 25 else if 256 ≤ N then .inl 5 else if (parL (Lib.trimSuffix wd [10])).e = 0 then .inr (plR (Lib.trimSuffix wd [10])) else .inl (parL (Lib.trimSuffix wd [10])).e := rfl
    have hbl := Nat.le_trans (trim_len wd) hwl
    have cC := cut_w wd (by omega) W
    obtain ⟨bd, hbd⟩ : ∃ bd, Lib.trimSuffix wd [10] = bd := ⟨_, rfl⟩
    obtain ⟨bl, hbb⟩ : ∃ bl, Lib.hasSuffix wd [10] = bl := ⟨_, rfl⟩
    rw [hbd, hbb] at hst cC
    rw [hbd] at hbl
    obtain ⟨v0, gv0⟩ := box1 hbo
    obtain ⟨u0, gu0⟩ := box1 hz0
    obtain ⟨u1, gu1⟩ := box1 hz1
    obtain ⟨u2, gu2⟩ := box1 hz2
    have hmW' := hm.below hBW
    have hLW' := hL.below hBW
    rw [hol] at hbo hlp v0
    clear h0 hmW hLB hk' hk hacc hwd hlen hL hm hbd hbb hs hN g4
    obtain ⟨r1, hr1⟩ : ∃ r : Int, (if (!bl) = true then (25 : Int) else 0) = r := ⟨_, rfl⟩
    obtain ⟨r5, hr5⟩ : ∃ r : Int, (if (decide ((N : Int) = 256)) = true then (5 : Int) else 0) = r := ⟨_, rfl⟩
    obtain ⟨v, hv⟩ : ∃ v : Int, (if r1 = 0 then r5 else r1) = v := ⟨_, rfl⟩
    have hvv : (v ≠ 0 ∧ stepL N wd = .inl v) ∨ (v = 0 ∧ N < 256 ∧ stepL N wd = if (parL bd).e = 0 then .inr (plR bd) else .inl (parL bd).e) := by
      rw [hst, ← hv, ← hr1, ← hr5]
      cases bl with
      | false => left; simp
      | true =>
        by_cases h2 : N = 256
        · left; subst h2; simp
        · right
          have h3 : ¬ 256 ≤ N := by omega
          have h4 : ¬ (N : Int) = 256 := by omega
          refine ⟨by simp [h4], by omega, ?_⟩
          rw [if_neg (by decide), if_neg h3]
    have cW1 : ∀ W, Calls prog 71 #[.bool (!bl), .int .i64 25] W fun e w' => e = .returned (.int .i64 r1) ∧ w' = W := fun W => by rw [← hr1]; exact when_w _ 25 W
    have cW2 : ∀ W, Calls prog 71 #[.bool (decide ((N : Int) = 256)), .int .i64 5] W fun e w' => e = .returned (.int .i64 r5) ∧ w' = W := fun W => by rw [← hr5]; exact when_w _ 5 W
    have cF : ∀ (b : Nat) (W : World), W.cell? ⟨b, 0, none⟩ = some (.int .i64 r1) → W.cell? ⟨b, 1, none⟩ = some (.int .i64 r5) → Calls prog 70 #[.slice (some ⟨b, 0, none⟩) 2 2] W fun e w' => e = .returned (.int .i64 v) ∧ Below W.heap.size W w' := fun b W q0 q1 => by rw [← hv]; exact first_w b r1 r5 W q0 q1
    have HV := Lib.hid hvv
    clear hst hr1 hr5 hv hvv
    gi_wp2_with (refine ⟨trivial, ?_⟩; gi_at_call 113; refine (CallsIn.inRound l' (callsIn_wide.2 cC)).mono ?_; rintro e w4 ⟨rfl, rfl⟩)
    clear cC
    refine wpIn_mono (Q := fun e a' W1 => e = .normal ∧ a' = { tmps := #[.string (bA l), undef, .pointer (some ⟨w.heap.size, 0, none⟩), .pointer (some ⟨b1, 0, none⟩), .pointer (some ⟨b2, 0, none⟩), .pointer (some ⟨bo, 0, none⟩), .string (bA wd), .string (bA bd), .bool bl, .int .i64 v, undef, undef, undef, .string (bA l), .int .i64 (l.length : Int), .bool false, .string (bA l), .func (.func 146) #[] #[.pointer (some ⟨B4, 0, none⟩)], .string (bA wd),
      .tuple #[.string (bA bd), .bool bl], .string (bA wd), .tuple #[.string (bA bd), .bool bl], .string (bA bd), .bool bl, .bool bl, .bool !bl, .int .i64 r1, .slice av N cv, .int .i64 (N : Int), .bool ((N : Int) == 256), .int .i64 r5, .slice (some ⟨w4.heap.size, 0, none⟩) 2 2, .int .i64 v, undef, undef, undef, undef, undef, undef, undef, undef, undef, undef, undef, undef, undef, undef, undef, undef, undef, undef, undef, undef, undef], defers := [] } ∧ Below w4.heap.size w4 W1) ?h1 ?h2
    case h1 =>
      gi_region_with_o (first
        | (refine ⟨trivial, ?_⟩; gi_at_call 71; refine (CallsIn.inRound l' (callsIn_wide.2 (cW1 _))).mono ?_; rintro e w' ⟨rfl, rfl⟩)
        | (refine ⟨trivial, ?_⟩; gi_at_call 71; refine (CallsIn.inRound l' (callsIn_wide.2 (cW2 _))).mono ?_; rintro e w' ⟨rfl, rfl⟩)
        | (refine ⟨trivial, ?_⟩; gi_at_call 70; refine (CallsIn.inRound l' (callsIn_wide.2 (cF _ _ (by simp) (by simp)))).mono ?_; rintro e w' ⟨rfl, hk5⟩))
      all_goals exact ⟨rfl, rfl, (((Below.refl _ _).alloc (Nat.le_refl _) _).drew).trans (hk5.mono (by simp))⟩
    case h2 =>
      rintro e a' W1 ⟨rfl, rfl, hk1⟩
      dsimp only
      have hz0 := hz0.below hk1 hz0.lt
      have hz1 := hz1.below hk1 hz1.lt
      have hz2 := hz2.below hk1 hz2.lt
      have hbo := hbo.below hk1 hbo.lt
      have hlp := hlp.below hk1
      have hBW := hBW.trans (hk1.mono hBW.size)
      have hsz := Nat.le_trans hsz hk1.size
      have hKO := keeps_below hk1
      have hKB : KpB B4 w4 W1 := hk1.block B4 (by omega)
      have hmW := hmW'.below hk1
      have hLW := hLW'.below hk1
      clear cW1 cW2 cF v0 gv0 u0 gu0 u1 gu1 u2 gu2 hk1 hmW' hLW'
      obtain ⟨v0, gv0⟩ := box1 hbo
      obtain ⟨u0, gu0⟩ := box1 hz0
      obtain ⟨u1, gu1⟩ := box1 hz1
      obtain ⟨u2, gu2⟩ := box1 hz2
      rcases HV.out with ⟨hv0, hst⟩ | ⟨rfl, hN, hst⟩
      · have hv' : (v != 0) = true := by simpa using hv0
        have HST := Lib.hid hst
        clear HV HI hst
        gi_wp2_with fail
        refine wpIn_mono (Q := fun e a' W2 => e = .normal ∧ W2 = (((W1.drew.setCell ⟨w.heap.size, 0, none⟩ (.slice none 0 0)).setCell ⟨b1, 0, none⟩ (.int .i64 (N : Int))).setCell ⟨b2, 0, none⟩ (.int .i64 v))) ?r1 ?r2
        case r1 =>
          gi_region_with_o (fail)
          all_goals exact ⟨rfl, rfl⟩
        case r2 =>
          rintro e a' W2 ⟨rfl, rfl⟩
          obtain ⟨p0, p1, p2, p3, p4⟩ := put3 (u0 := .slice none 0 0) (u1 := .int .i64 (N : Int)) (u2 := .int .i64 v) hz0.drew hz1.drew hz2.drew (by omega) (by omega) (by omega) (Nat.le_refl _) (by omega) (by omega) hBW.drew
          gi_wp2
          exact ⟨hKO.trans ((KeepsOthers.drew _).trans p4), HX.out _ _ HST.out p0 p1 p2 p3⟩
      · obtain ⟨⟨⟨q1, q2, qx, L⟩, K, E⟩, hR⟩ : ∃ R, parL bd = R := ⟨_, rfl⟩
        have hPl : plR bd = ⟨q1.data.toList, q2.data.toList, qx, dOf L, L.length⟩ := by unfold plR; rw [hR]
        rw [hR, hPl] at hst
        have cP : Calls prog 22 #[.string (bA bd)] W1 fun e w' => (∃ a k c, e = .returned (.tuple #[.agg #[.string q1, .string q2, .bool qx, .slice a k c], .int .i64 (K : Int), .int .i64 E]) ∧ OwnMoves w' W1.heap.size (.slice a k c) (dOf L) L.length) ∧ Below W1.heap.size W1 w' := by
          refine (parse_own bd hbl W1 hLW hmW).mono ?_
          rintro e w' ⟨⟨mv, rfl, hm⟩, hB⟩
          rw [hR] at hm ⊢
          obtain ⟨a, k, c, rfl⟩ := hm.slice
          exact ⟨⟨a, k, c, rfl, hm⟩, hB⟩
        have HST : Hid (stepL N wd = if E = 0 then .inr ⟨q1.data.toList, q2.data.toList, qx, dOf L, L.length⟩ else .inl E) := Lib.hid hst
        clear HV hst hR hPl hLW hmW
        gi_wp2_with fail
        refine ⟨trivial, ?_⟩
        gi_at_call 22
        refine (CallsIn.inRound l' (callsIn_wide.2 cP)).mono ?_
        rintro e w5 ⟨⟨a5, k5, c5, rfl, hown⟩, hk5⟩
        have hal := (Below.refl w5.heap.size w5).alloc (Nat.le_refl _) (.cells #[.string q1, .string q2, .bool qx, .slice a5 k5 c5] 24)
        have hx2 := at_new w5 #[.string q1, .string q2, .bool qx, .slice a5 k5 c5] 24
        have hkk := hk5.trans (hal.mono hk5.size)
        have hz0 := hz0.below hkk hz0.lt
        have hz1 := hz1.below hkk hz1.lt
        have hz2 := hz2.below hkk hz2.lt
        have hbo := hbo.below hkk hbo.lt
        have hlp := hlp.below hkk
        have hBW := hBW.trans (hkk.mono hBW.size)
        have hown := (hown.mono hsz).below hal
        have hsz := Nat.le_trans hsz hkk.size
        have hKO := hKO.trans (keeps_below hkk)
        have hKB : KpB B4 w4 (w5.alloc (.cells #[.string q1, .string q2, .bool qx, .slice a5 k5 c5] 24)) := hKB.t (hkk.block B4 (by omega))
        clear cP v0 gv0 u0 gu0 u1 gu1 u2 gu2 hk5 hal hkk
        obtain ⟨v0, gv0⟩ := box1 hbo
        obtain ⟨u0, gu0⟩ := box1 hz0
        obtain ⟨u1, gu1⟩ := box1 hz1
        obtain ⟨u2, gu2⟩ := box1 hz2
        by_cases hE : E = 0
        · have hst : stepL N wd = .inr ⟨q1.data.toList, q2.data.toList, qx, dOf L, L.length⟩ := by rw [HST.out, if_pos hE]
          subst hE
          have HST2 := Lib.hid hst
          have hPl : PlOwn (w5.alloc (.cells #[.string q1, .string q2, .bool qx, .slice a5 k5 c5] 24)) W0.heap.size ⟨q1, q2, qx, a5, k5, c5⟩ ⟨q1.data.toList, q2.data.toList, qx, dOf L, L.length⟩ := ⟨(bA_data q1).symm, (bA_data q2).symm, rfl, hown⟩
          obtain ⟨⟨x0, x1, x2, x3⟩, -⟩ := box4 hx2
          have hlen : out.length ≤ 1000000 := by omega
          clear HST hst hown HX
          gi_wp2_with (first
            | (with_reducible refine haltP_in ?_)
            | fail)
          unfold Halt
          have hal2 := (Below.refl (w5.alloc (.cells #[.string q1, .string q2, .bool qx, .slice a5 k5 c5] 24)).heap.size _).alloc (Nat.le_refl _) (.cells #[.string q1, .string q2, .bool qx, .slice a5 k5 c5] 24)
          refine wpListIn_sliceP _ rfl _ rfl q1 q2 qx a5 k5 c5 rfl ?_
          refine wpListIn_appendP _ rfl _ _ rfl W0.heap.size (w5.alloc (.cells #[.string q1, .string q2, .bool qx, .slice a5 k5 c5] 24)).heap.size out _ rfl 1 rfl (hlp.below hal2) hlen ⟨q1, q2, qx, a5, k5, c5⟩ (at_new _ _ _) ?c2 ?_
          case c2 => have := hal2.size; omega
          intro a9 k9 c9 w9 hA
          have hl9 := hA.row _ (hPl.below hal2)
          have hb9 := hA.below w (hBW.trans (hal2.mono hBW.size)) (by omega)
          have hs9 := Nat.le_trans hsz (Nat.le_trans hal2.size hA.size)
          have hbo9 : At w9 bo #[.slice av N cv] 86 := (hA.old bo (by omega) (by have := hbo.lt; have := hal2.size; omega)).trans (hbo.below hal2 hbo.lt)
          have hz09 : At w9 w.heap.size #[.slice none 0 0] 86 := (hA.old _ (by omega) (by have := hz0.lt; have := hal2.size; omega)).trans (hz0.below hal2 hz0.lt)
          have hz19 : At w9 b1 #[.int .i64 0] 3 := (hA.old _ (by omega) (by have := hz1.lt; have := hal2.size; omega)).trans (hz1.below hal2 hz1.lt)
          have hz29 : At w9 b2 #[.int .i64 0] 30 := (hA.old _ (by omega) (by have := hz2.lt; have := hal2.size; omega)).trans (hz2.below hal2 hz2.lt)
          have hKB9 : KpB B4 w4 w9 := (hKB.t (hal2.block B4 (by omega))).t (hA.old B4 (by omega) (by have := hal2.size; omega))
          have hKO9 : KeepsOthers w4 w9 := (hKO.trans (keeps_below hal2)).trans (by
            obtain ⟨kk, xs, ho, hg⟩ := hA.grown
            exact keeps_grown24 hg ho)
          clear hA hPl hlp hal2 hx2 x0 x1 x2 x3 v0 gv0 u0 gu0 u1 gu1 u2 gu2 hKB hKO hBW hz0 hz1 hz2 hbo hsz
          obtain ⟨v0, gv0⟩ := box1 hbo9
          have hbo5 := hbo9.set 0 (.slice a9 k9 c9)
          simp only [List.setIfInBounds_toArray, List.set_cons_zero] at hbo5
          gi_wp2_with fail
          exact ⟨hKO9.trans (KeepsOthers.setCell _ _ _), hKB9.t (Below.heap_setCell _ _ _ _ (by show B4 ≠ bo; omega)), HI.out _ _ _ _ _ HST2.out hbo5 (hl9.set (by omega) _ _) (hz09.setCell (by simp; omega) _) (hz19.setCell (by simp; omega) _) (hz29.setCell (by simp; omega) _) (by simpa using hs9) (hb9.setCell (p := ⟨bo, 0, none⟩) (by show w.heap.size ≤ bo; omega) _)⟩
        · have hst : stepL N wd = .inl E := by rw [HST.out, if_neg hE]
          have HST2 := Lib.hid hst
          have hE' : (E != 0) = true := by simpa using hE
          clear HST hst hown HI
          gi_wp2_with fail
          refine wpIn_mono (Q := fun e a' W2 => e = .normal ∧ W2 = ((((w5.alloc (.cells #[.string q1, .string q2, .bool qx, .slice a5 k5 c5] 24)).drew.setCell ⟨w.heap.size, 0, none⟩ (.slice none 0 0)).setCell ⟨b1, 0, none⟩ (.int .i64 (N : Int))).setCell ⟨b2, 0, none⟩ (.int .i64 E))) ?r1 ?r2
          case r1 =>
            gi_region_with_o (fail)
            all_goals exact ⟨rfl, rfl⟩
          case r2 =>
            rintro e a' W2 ⟨rfl, rfl⟩
            obtain ⟨p0, p1, p2, p3, p4⟩ := put3 (u0 := .slice none 0 0) (u1 := .int .i64 (N : Int)) (u2 := .int .i64 E) hz0.drew hz1.drew hz2.drew (by omega) (by omega) (by omega) (Nat.le_refl _) (by omega) (by omega) hBW.drew
            gi_wp2
            exact ⟨hKO.trans ((KeepsOthers.drew _).trans p4), HX.out _ _ HST2.out p0 p1 p2 p3⟩
  case done =>
    intro D xs W hD hS hI hKd
    as_aux_lemma =>
      obtain ⟨⟨out, av, kv, cv, hacc, hbo, hlp, hz0, hz1, hz2, hsz⟩, hBW⟩ := hI
      have HR := Lib.hid (parAll_done hl hS hacc)
      obtain rfl := hlp.count
      obtain ⟨v0, gv0⟩ := box1 hbo
      obtain ⟨u0, gu0⟩ := box1 hz0
      obtain ⟨u1, gu1⟩ := box1 hz1
      obtain ⟨u2, gu2⟩ := box1 hz2
      obtain ⟨p0, p1, p2, p3, p4⟩ := put3 (u0 := .slice av out.length cv) (u1 := .int .i64 0) (u2 := .int .i64 0) hz0 hz1 hz2 (by omega) (by omega) (by omega) (Nat.le_refl _) (by omega) (by omega) hBW
      have hK4 := p4.same D _ hKd rfl
      have hlp4 := ((((hlp.set (b := w.heap.size) (by omega) 0 (.slice av out.length cv)).set (b := b1) (by omega) 0 (.int .i64 0)).set (b := b2) (by omega) 0 (.int .i64 0)).putD hK4).plays
      clear h0 hmW hLB hk hL hm hs hacc hS hbo hlp hsz g4
      gi_wp2
      refine ⟨by simp, .inl ⟨_, _, rfl, run_takeDeferred hK4, ?_⟩⟩
      refine ⟨.tuple #[.slice av out.length cv, .int .i64 0, .int .i64 0], res_all f60 rfl rfl rfl rfl (p0.put (by omega) _) (p1.put (by omega) _) (p2.put (by omega) _), ?_⟩
      unfold AllAns
      rw [HR.out]
      exact ⟨⟨_, rfl, hlp4⟩, p3.trans (belowK_b (w := w) (Nat.le_refl _) _ D _ _ (by have := hB.size; omega) hK4 rfl rfl)⟩
  case stop =>
    intro D c pre W hD hSp hX hKd
    as_aux_lemma =>
      obtain ⟨⟨rfl, pre0, x, out, e, rfl, hacc, hst, hz0, hz1, hz2⟩, hBW⟩ := hX
      have HR := Lib.hid (parAll_stop hl hSp hacc hst)
      clear h0 hmW hLB hk hL hm hs hacc hSp hst g4
      gi_wp2
      refine ⟨by simp, .inl ⟨_, _, rfl, run_takeDeferred hKd, ?_⟩⟩
      refine ⟨.tuple #[.slice none 0 0, .int .i64 (pre0.length : Int), .int .i64 e], res_all f60 rfl rfl rfl rfl (hz0.put (by omega) _) (hz1.put (by omega) _) (hz2.put (by omega) _), ?_⟩
      unfold AllAns
      rw [HR.out]
      exact ⟨⟨_, rfl, noPlays _⟩, hBW.trans (belowK_b (w := w) (Nat.le_refl _) _ D _ _ (by have := hB.size; omega) hKd rfl rfl)⟩
end Go.Proofs.Tryz
