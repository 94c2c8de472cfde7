/- A move's word read by the reference: the word of a move, or one with a letter among its digits. -/
import Derived.Test.YthlmjjdlmidnlaaGreatDoorAtDu
import Derived.Deep.AppendLies
import Derived.Deep.RegionLaw
namespace Go.Proofs.Tryz
open Go Go.Am Go.RowKit Go.Dr
set_option maxRecDepth 100000

set_option maxHeartbeats 6400000 in
theorem parseMoveR_good (l : List UInt8) (hh : pmHeadR l = true) (hl : l.length ≤ 100000) (w : World) :
    Calls prog 89 #[.string (bA l)] w fun e w' => PmAns w' w.heap.size e l ∧ Below w.heap.size w w' := by
  have hs : (bA l).size = l.length := bA_size l
  have hB : Below w.heap.size w (w.alloc (.cells #[.int .i64 0, .int .i64 0, .bool false, .string ⟨#[]⟩, .slice none 0 0] 27)) := (Below.refl _ _).alloc (Nat.le_refl _) _
  have hx0 := at_new w #[.int .i64 0, .int .i64 0, .bool false, .string ⟨#[]⟩, .slice none 0 0] 27
  have HP : Hid (pmOk l = (l.drop 5).all dig) := Lib.hid (by rw [pmOk_R, hh, Bool.true_and])
  have d0 := dig_iff (by' l 0)
  have d2 := dig_iff (by' l 2)
  have u1 := u8_iff (by' l 1) 45 (by decide)
  have u1' := u8_iff (by' l 1) 120 (by decide)
  have u4 := u8_iff (by' l 4) 58 (by decide)
  have e45 : UInt8.ofNat 45 = 45 := rfl
  have e120 : UInt8.ofNat 120 = 120 := rfl
  have e58 : UInt8.ofNat 58 = 58 := rfl
  rw [e45] at u1
  rw [e120] at u1'
  rw [e58] at u4
  unfold pmHeadR pmHead at hh
  simp only [Bool.and_eq_true, decide_eq_true_eq, Bool.or_eq_true, beq_iff_eq] at hh
  rw [d0, d2, u1, u4] at hh
  have HU : Hid (by' l 1 = 120 ↔ ((by' l 1).toNat : Int) = 120) := Lib.hid u1'
  rw [u1'] at hh
  have i0 : ∀ w, (Instr.index 9 (.string (bA l)) (.int .i64 0)).run prog w = .ok (.int .u8 ((by' l 0).toNat : Int)) w := run_idx l 0 (by omega)
  have i1 : ∀ w, (Instr.index 9 (.string (bA l)) (.int .i64 1)).run prog w = .ok (.int .u8 ((by' l 1).toNat : Int)) w := run_idx l 1 (by omega)
  have i2 : ∀ w, (Instr.index 9 (.string (bA l)) (.int .i64 2)).run prog w = .ok (.int .u8 ((by' l 2).toNat : Int)) w := run_idx l 2 (by omega)
  have i3 : ∀ w, (Instr.index 9 (.string (bA l)) (.int .i64 3)).run prog w = .ok (.int .u8 ((by' l 3).toNat : Int)) w := run_idx l 3 (by omega)
  have i4 : 5 < l.length → ∀ w, (Instr.index 9 (.string (bA l)) (.int .i64 4)).run prog w = .ok (.int .u8 ((by' l 4).toNat : Int)) w := fun h => run_idx l 4 (by omega)
  have e34 := slice34 (l := l) (by omega)
  obtain ⟨b0, hb0⟩ : ∃ b, by' l 0 = b := ⟨_, rfl⟩
  obtain ⟨b1, hb1⟩ : ∃ b, by' l 1 = b := ⟨_, rfl⟩
  obtain ⟨b2, hb2⟩ : ∃ b, by' l 2 = b := ⟨_, rfl⟩
  obtain ⟨b3, hb3⟩ : ∃ b, by' l 3 = b := ⟨_, rfl⟩
  obtain ⟨b4, hb4⟩ : ∃ b, by' l 4 = b := ⟨_, rfl⟩
  rw [hb0] at hh i0
  rw [hb1] at hh i1 HU
  rw [hb2] at hh i2
  rw [hb3] at hh i3 e34
  rw [hb4] at hh i4
  obtain ⟨n0, hn0⟩ : ∃ n : Int, (b0.toNat : Int) - 48 = n := ⟨_, rfl⟩
  obtain ⟨n2, hn2⟩ : ∃ n : Int, (b2.toNat : Int) - 48 = n := ⟨_, rfl⟩
  obtain ⟨x1, hx1⟩ : ∃ x, ((b1.toNat : Int) == 120) = x := ⟨_, rfl⟩
  have HF : Hid ((pmM l).fr = n0 ∧ (pmM l).to = n2 ∧ decide ((pmM l).x ≠ 0) = x1 ∧ IsStr (.string (bA [b3])) (pmM l).y (pmM l).so (pmM l).sn) := Lib.hid (by
    refine ⟨by unfold pmM; rw [hb0]; exact hn0, by unfold pmM; rw [hb2]; exact hn2, ?_, ?_⟩
    · rw [← hx1]
      unfold pmM
      dsimp only
      rw [hb1]
      by_cases q : b1 = 120
      · have := HU.out.1 q
        simp [q]
      · have q' : ¬ (b1.toNat : Int) = 120 := fun e => q (HU.out.2 e)
        have q2 : ((b1.toNat : Int) == 120) = false := by rw [beq_eq_false_iff_ne]; exact q'
        simp [q, q2]
    · refine ⟨[b3], rfl, rfl, fun j b h => ?_⟩
      match j, h with
      | 0, h => cases h; unfold pmM; rw [hb3])
  obtain ⟨i3', hi3', hz30, hz31, hz32⟩ := info_parts info3
  obtain ⟨n, hn⟩ : ∃ n, l.length = n := ⟨_, rfl⟩
  have key : (4 ≤ (n : Int) ∧ ¬ (n : Int) < 4) ∧ ¬ (b0.toNat : Int) < 48 ∧ ¬ 57 < (b0.toNat : Int) ∧ ((b1.toNat : Int) = 45 ∨ (¬ (b1.toNat : Int) = 45 ∧ (b1.toNat : Int) = 120)) ∧ ¬ (b2.toNat : Int) < 48 ∧ ¬ 57 < (b2.toNat : Int) ∧ ¬ (b3.toNat : Int) < 97 ∧ ¬ 122 < (b3.toNat : Int) ∧ ¬ (n : Int) = 5 ∧
    (¬ 5 < (n : Int) ∨ (5 < (n : Int) ∧ (b4.toNat : Int) = 58)) := by omega
  obtain ⟨⟨k1, k1'⟩, k2, k2', k3, k4, k4', k5, k5', k6, k7⟩ := key
  have k6' : ((n : Int) == 5) = false := by rw [beq_eq_false_iff_ne]; exact k6
  clear hh d0 d2 u1 u1' u4 e45 e120 e58 hb0 hb1 hb2 hb3 hb4 HU
  go_enter func89, ntmps89
  go_upto_region 1 with fail
  generalize w.alloc (.cells #[.int .i64 0, .int .i64 0, .bool false, .string ⟨#[]⟩, .slice none 0 0] 27) = W0 at hB hx0 ⊢
  rw [hn] at hs i4
  go_cut [55] (fun s55 wx => s55 = .bool false ∧ wx = W0)
  case first =>
    rcases k7 with k7 | ⟨k7, k7'⟩
    · clear i4
      rcases k3 with k3 | ⟨k3, k3'⟩ <;> (go_wp2; go_meet; exact ⟨rfl, rfl⟩)
    · have i4 := i4 (by omega)
      rcases k3 with k3 | ⟨k3, k3'⟩ <;> (go_wp2; go_meet; exact ⟨rfl, rfl⟩)
  case rest =>
    obtain ⟨rfl, eW⟩ := hcut
    subst eW
    obtain ⟨W0, eW0⟩ : ∃ W : World, W = wc := ⟨_, rfl⟩
    subst eW0
    clear i4 k7 k3 k6 k6'
    go_wp2_with fail
    go_region
    have hxA := (hx0.alloc (.cells #[.int .i64 n0, .int .i64 n2, .bool x1, .string (bA [b3]), .slice none 0 0] 27)).drew
    have hyA := (at_new W0 #[.int .i64 n0, .int .i64 n2, .bool x1, .string (bA [b3]), .slice none 0 0] 27).drew
    have hbA := (hB.alloc hB.size (.cells #[.int .i64 n0, .int .i64 n2, .bool x1, .string (bA [b3]), .slice none 0 0] 27)).drew
    have hlt := hx0.lt
    have hsz : W0.heap.size < (W0.alloc (.cells #[.int .i64 n0, .int .i64 n2, .bool x1, .string (bA [b3]), .slice none 0 0] 27)).drew.heap.size := by simp
    generalize (W0.alloc (.cells #[.int .i64 n0, .int .i64 n2, .bool x1, .string (bA [b3]), .slice none 0 0] 27)).drew = W1 at hxA hyA hbA hsz ⊢
    have hrow := World.ownsRow_nil W1 W1.heap.size 3 1
    clear hx1 hx0 hB i0 i1 i2 i3 k1' k2 k2' k4 k4' k5 k5' e34 hn0 hn2
    go_wp2_with fail
    go_loopw [5] (fun s5 wr => ∃ (i : Nat) (v : Value), 5 ≤ i ∧ (i ≤ l.length ∨ i = 5) ∧ s5 = .int .i64 i ∧ allK5 l i = true ∧ At wr w.heap.size #[.int .i64 0, .int .i64 0, .bool false, .string ⟨#[]⟩, .slice none 0 0] 27 ∧ At wr W0.heap.size #[.int .i64 n0, .int .i64 n2, .bool x1, .string (bA [b3]), v] 27 ∧ wr.ownsRow W1.heap.size 3 1 v (i - 5) (vsOf (tchK l i)) ∧ Below w.heap.size w wr ∧ W1.heap.size ≤ wr.heap.size) (fun s5 _ => n + 5 - (numOf' s5).toNat)
    case atStart => exact ⟨5, _, Nat.le_refl _, .inr rfl, rfl, by unfold allK5; simp, hxA, hyA, by simpa [tchK, vsOf] using hrow, hbA, Nat.le_refl _⟩
    case round =>
      clear hxA hyA hbA hrow
      obtain ⟨i, v, hi5, hi, rfl, hall, hxA, hyA, hrow, hbA, hsA⟩ := hrel
      by_cases hin : i < n
      · as_aux_lemma =>
          have hinl : i < l.length := by omega
          have ix := run_idx l i hinl
          have cN := isDigit_w (by' l i) wr
          have eT := tchK_succ hi5 hinl
          have eA := allK5_succ hi5 hinl
          have hbn := Lib.hid (show by' l i ∈ l.drop 5 from by
            have : (l.drop 5)[i - 5]? = some (by' l i) := by
              rw [List.getElem?_drop, show 5 + (i - 5) = i by omega]
              unfold by'
              rw [List.getElem?_eq_getElem hinl]; rfl
            exact List.mem_of_getElem? this)
          have hdi := dig_iff (by' l i)
          generalize by' l i = b at ix cN eT eA hbn hdi
          obtain ⟨q, hq⟩ : ∃ q, dig b = q := ⟨_, rfl⟩
          have HQ := Lib.hid hq
          rw [hq] at cN eA hdi
          obtain ⟨av, kv, cv, rfl⟩ := owns_slice hrow
          obtain ⟨⟨y0, y1, y2, y3, y4⟩, -, -, -, -, g4⟩ := box5 hyA
          clear hq
          go_wp2_with fail
          go_at_call 96
          refine cN.mono ?_
          rintro e w' ⟨rfl, rfl⟩
          obtain ⟨W2, eW2⟩ : ∃ W : World, W = w' := ⟨_, rfl⟩
          subst eW2
          clear cN
          cases q with
          | false =>
            have hN := Lib.hid (show pmOk l = false from by
              rw [HP.out, ← Bool.not_eq_true, List.all_eq_true]
              intro q
              have := q _ hbn.out
              rw [HQ.out] at this
              cases this)
            obtain ⟨⟨x0, x1', x2, x3, x4⟩, f0, f1, f2, f3, f4⟩ := box5 hxA
            clear HP HF HQ hbn eT eA hdi hrow hi y0 y1 y2 y3 y4 g4 ix
            go_wp2
            refine bodyPost_ret (v := .tuple #[.agg #[.int .i64 0, .int .i64 0, .bool false, .string ⟨#[]⟩, .slice none 0 0], .bool false]) (by simp [results, results89, go_sem, World.cell?_setCell_same, x0, x1', x2, x3, x4]) rfl ⟨pm_no hN.out, ?_⟩
            exact ((((hbA.setCell (p := ⟨w.heap.size, 0, none⟩) (by simp) _).setCell (p := ⟨w.heap.size, 1, none⟩) (by simp) _).setCell (p := ⟨w.heap.size, 2, none⟩) (by simp) _).setCell (p := ⟨w.heap.size, 3, none⟩) (by simp) _).setCell (p := ⟨w.heap.size, 4, none⟩) (by simp) _
          | true =>
            obtain ⟨k8, k8'⟩ := hdi.1 rfl
            obtain ⟨z, hz⟩ : ∃ z, (b.toNat : Int) - 48 = z := ⟨_, rfl⟩
            have HA : Hid (allK5 l (i + 1) = true ∧ tchK l (i + 1) = tchK l i ++ [z]) := Lib.hid ⟨by rw [eA, hall]; rfl, by rw [eT, ← hz]; rfl⟩
            obtain ⟨xs, hxs⟩ : ∃ xs, vsOf (tchK l i) = xs := ⟨_, rfl⟩
            have HX := Lib.hid hxs
            rw [hxs] at hrow
            clear hxs hdi eT eA hall HP HF HQ hbn
            go_wp2_with fail
            have fin : ∀ (v' : Value) (w3 : World), w3.ownsRow W1.heap.size 3 1 v' (i - 5 + 1) (xs ++ [.int .i64 z]) → (W2.alloc (.cells #[.int .i64 z] 3)).drew.grownBy w3 ((.slice av kv cv : Value).ownBlock) → ∃ a k c, v' = .slice a k c ∧
                At w3 W0.heap.size #[.int .i64 n0, .int .i64 n2, .bool x1, .string (bA [b3]), .slice av kv cv] 27 ∧ At (w3.setCell ⟨W0.heap.size, 4, none⟩ v') w.heap.size #[.int .i64 0, .int .i64 0, .bool false, .string ⟨#[]⟩, .slice none 0 0] 27 ∧
                At (w3.setCell ⟨W0.heap.size, 4, none⟩ v') W0.heap.size #[.int .i64 n0, .int .i64 n2, .bool x1, .string (bA [b3]), v'] 27 ∧ (w3.setCell ⟨W0.heap.size, 4, none⟩ v').ownsRow W1.heap.size 3 1 v' (i + 1 - 5) (vsOf (tchK l (i + 1))) ∧
                Below w.heap.size w (w3.setCell ⟨W0.heap.size, 4, none⟩ v') ∧ W1.heap.size ≤ (w3.setCell ⟨W0.heap.size, 4, none⟩ v').heap.size := fun v' w3 ho hg => by
              obtain ⟨a', k', c', rfl⟩ := owns_slice ho
              have hol := hrow.lt
              have keep : ∀ q, q < W1.heap.size → w3.heap[q]? = W2.heap[q]? := fun q hq => (hg.block q (by simp; omega) (fun e => by have := (hol _ e.symm).1; omega)).trans (Below.heap_alloc _ _ _ (by omega))
              have hy3 : At w3 W0.heap.size #[.int .i64 n0, .int .i64 n2, .bool x1, .string (bA [b3]), .slice av kv cv] 27 := (keep _ hsz).trans hyA
              have hx3 : At w3 w.heap.size #[.int .i64 0, .int .i64 0, .bool false, .string ⟨#[]⟩, .slice none 0 0] 27 := (keep _ (by omega)).trans hxA
              have hb3 : Below w.heap.size w w3 := ((hbA.alloc hbA.size _).drew).grown hg (by have := hbA.size; simp; omega) (fun q hq => by have := (hol q hq).1; omega)
              have hs3 : W1.heap.size ≤ w3.heap.size := by have := hg.size; simp at this; omega
              have hy4 := hy3.set 4 (.slice a' k' c')
              simp only [List.setIfInBounds_toArray, List.set_cons_zero, List.set_cons_succ] at hy4
              refine ⟨a', k', c', rfl, hy3, hx3.setCell (a := ⟨W0.heap.size, 4, none⟩) (by simp; omega) _, hy4, ?_, hb3.setCell (p := ⟨W0.heap.size, 4, none⟩) (by simp; omega) _, by rw [size_set]; exact hs3⟩
              have e1 : i + 1 - 5 = i - 5 + 1 := by omega
              have e2 : vsOf (tchK l (i + 1)) = xs ++ [.int .i64 z] := by rw [HA.out.2, ← HX.out]; simp [vsOf]
              rw [e1, e2]
              exact ownsRow_setCell_below ho (by exact hsz) _
            have Fin := Lib.hid fin
            clear fin
            have nI0 : (0 : Int) ≤ (i : Int) := Int.natCast_nonneg _
            have nI1 : (i : Int) < (n : Int) := by omega
            obtain ⟨⟨-, -, -, -, y4a⟩, -⟩ := box5 (hyA.alloc (.cells #[.int .i64 z] 3))
            have hw8 : IntKind.u8.wrap z = z := wraps_u8 z (by omega) (by omega)
            have hw64 : IntKind.i64.wrap z = z := by rw [IntKind.wrap_i64]; omega
            go_region_law ((refine step_append_lies _ (by rfl) _ _ _ (by rfl) W1.heap.size 3 i3' _ 1 8 underlying25 hi3' hz30 hz31 hz32 rfl (by omega) (.slice av kv cv) (i - 5) xs (by simp [Act.eval]) ((hrow.alloc _).drew) ⟨W2.heap.size, 0, none⟩ 1 1 [.int .i64 z] (by simp [Act.eval]) (by rfl) (World.news_of_block (cs := #[.int .i64 z]) (t := 3) (fr := (0, 0)) (heap_alloc_new W2 _)) (by simp [Value.oneCell']) (by omega) (by unfold maxLen; omega) (by omega) (by simp; omega) (W2.heap.size + 1) (by simp) ?_; intro gg cap w3 hown3 hgrow hat hlt3; obtain ⟨a', k', c', hv', hy3, hx4, hy4, hr4, hb4, hs4⟩ := Fin.out _ w3 hown3 hgrow; obtain ⟨⟨-, -, -, -, y5⟩, -, -, -, -, g5⟩ := box5 hy3))
            all_goals (
              clear hown3 hgrow hat hlt3 hrow Fin hy3 y0 y1 y2 y3 y4 y4a g4 ix
              go_wp2
              go_roundw
              case rel => exact ⟨i + 1, _, by omega, by omega, by go_num, HA.out.1, hx4, hy4, hr4, hb4, hs4⟩
              case measure => simp [numOf'] <;> omega)
      · as_aux_lemma =>
          have hinl : ¬ i < l.length := by omega
          obtain ⟨av, kv, cv, rfl⟩ := owns_slice hrow
          have hlen : i - 5 = (l.drop 5).length := by rw [List.length_drop]; omega
          have HO : Hid (M5Own wr W1.heap.size ⟨n0, n2, x1, bA [b3], av, kv, cv⟩ (pmM l)) := Lib.hid (by
            obtain ⟨f2, f3, f4, f5⟩ := HF.out
            refine ⟨f2.symm, f3.symm, f4.symm, f5, ?_, Int.natCast_nonneg _⟩
            rw [tchs_pmM, ← tchK_end hinl]
            have e : (pmM l).bn.toNat = i - 5 := by rw [hlen]; unfold pmM; exact Int.toNat_natCast _
            rw [e]
            exact hrow)
          have HP2 : Hid (pmOk l = true) := Lib.hid (by rw [HP.out, ← allK5_end hinl]; exact hall)
          obtain ⟨⟨y0, y1, y2, y3, y4⟩, -⟩ := box5 hyA
          obtain ⟨⟨x0, x1', x2, x3, x4⟩, g0, g1, g2, g3, g4⟩ := box5 hxA
          have hlt1 : w.heap.size < W1.heap.size := by omega
          clear hrow HP HF hlen hall hinl
          go_wp2
          refine bodyPost_ret (v := .tuple #[.agg #[.int .i64 n0, .int .i64 n2, .bool x1, .string (bA [b3]), .slice av kv cv], .bool true]) (by simp [results, results89, go_sem, World.cell?_setCell_same, x0, x1', x2, x3, x4]) rfl ⟨⟨⟨n0, n2, x1, bA [b3], av, kv, cv⟩, by rw [HP2.out], fun _ => ?_⟩, ?_⟩
          · have h0 := HO.out
            exact ⟨h0.1, h0.2.1, h0.2.2.1, h0.2.2.2.1, owns_base (ownsRow_setCell_below (ownsRow_setCell_below (ownsRow_setCell_below (ownsRow_setCell_below (ownsRow_setCell_below h0.2.2.2.2.1 (by exact hlt1) _) (by exact hlt1) _) (by exact hlt1) _) (by exact hlt1) _) (by exact hlt1) _) (by omega), h0.2.2.2.2.2⟩
          · exact ((((hbA.setCell (p := ⟨w.heap.size, 0, none⟩) (by simp) _).setCell (p := ⟨w.heap.size, 1, none⟩) (by simp) _).setCell (p := ⟨w.heap.size, 2, none⟩) (by simp) _).setCell (p := ⟨w.heap.size, 3, none⟩) (by simp) _).setCell (p := ⟨w.heap.size, 4, none⟩) (by simp) _
theorem parseMoveR_w (l : List UInt8) (hl : l.length ≤ 100000) (w : World) :
    Calls prog 89 #[.string (bA l)] w fun e w' => PmAns w' w.heap.size e l ∧ Below w.heap.size w w' := by
  cases h : pmHeadR l with
  | false => exact parseMoveR_bad l h hl w
  | true => exact parseMoveR_good l h hl w
end Go.Proofs.Tryz
