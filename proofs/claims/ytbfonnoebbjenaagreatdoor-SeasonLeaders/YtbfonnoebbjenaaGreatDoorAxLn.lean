/- The reference's leaders: by the kit's walk. -/
import Derived.Test.YtbfonnoebbjenaaGreatDoorAxLm
import Derived.Test.YtbfonnoebbjenaaGreatDoorAxLo
import Derived.Deep.CutBlock
namespace Go.Proofs.Tryz
open Go Go.Am Go.RowKit Go.Op
set_option maxRecDepth 100000

def ldC0 (i k : Nat) (x : Tot) : List Value := ldC i k (x, 0)
/-- The list with the places of the first j. -/
def plc (i k : Nat) (S : List Tot) (M j : Nat) : List (Tot × Nat) := (List.range M).map fun r => (atL S r, if r < j then plP i k S r else 0)
theorem plc_len {i k : Nat} {S : List Tot} {M j : Nat} : (plc i k S M j).length = M := by unfold plc; rw [List.length_map, List.length_range]
theorem plc_at {i k : Nat} {S : List Tot} {M j r : Nat} (h : r < M) : (plc i k S M j)[r]? = some (atL S r, if r < j then plP i k S r else 0) := by
  unfold plc
  rw [List.getElem?_map, List.getElem?_range h]
  rfl
theorem plc_zero {i k : Nat} {S : List Tot} : (plc i k S S.length 0).map (ldC i k) = S.map (ldC0 i k) := by
  apply List.ext_getElem?
  intro r
  rw [List.getElem?_map, List.getElem?_map]
  by_cases h : r < S.length
  · rw [plc_at h, atL_get h, if_neg (Nat.not_lt_zero _)]; rfl
  · rw [List.getElem?_eq_none (by rw [plc_len]; omega), List.getElem?_eq_none (by omega)]; rfl
theorem plc_next {i k : Nat} {S : List Tot} {M j : Nat} {x : Tot} (h : j < M) (hx : atL S j = x) : (plc i k S M j).set j (x, plP i k S j) = plc i k S M (j + 1) := by
  apply List.ext_getElem?
  intro r
  by_cases hr : r < M
  · by_cases hj : r = j
    · subst hj
      rw [List.getElem?_set_self (by rw [plc_len]; exact hr), plc_at hr, if_pos (Nat.lt_succ_self _), hx]
    · rw [List.getElem?_set_ne (fun e => hj e.symm), plc_at hr, plc_at hr]
      by_cases h1 : r < j
      · rw [if_pos h1, if_pos (by omega)]
      · rw [if_neg h1, if_neg (by omega)]
  · rw [List.getElem?_eq_none (by rw [List.length_set, plc_len]; omega), List.getElem?_eq_none (by rw [plc_len]; omega)]
theorem cntB_le (i k : Nat) (S : List Tot) (x : Tot) : ∀ m, cntB i k S x m ≤ m
  | 0 => Nat.le_refl _
  | m + 1 => by
    have := cntB_le i k S x m
    unfold cntB
    split <;> omega
/-- A row whose block stays. -/
theorem OwnRow.sameBlock {w w' : World} {base e m : Nat} {v : Value} {l : List (List Value)} (h : OwnRow w base e m v l) (hq : ∀ q, v.ownBlock = some q → w'.heap[q]? = w.heap[q]?) : OwnRow w' base e m v l := by
  refine ⟨⟨h.1.1, ?_⟩, h.2⟩
  rcases h.1.2 with q | ⟨g, cap, cur, rfl, h1, h2, h3⟩
  · exact .inl q
  · exact .inr ⟨g, cap, cur, rfl, h1, (hq g rfl).trans h2, h3⟩
theorem OwnRow.setOther {w : World} {base e m g : Nat} {v : Value} {l : List (List Value)} (h : OwnRow w base e m v l) (hg : g < base) (o : Nat) (u : Value) : OwnRow (w.setCell ⟨g, o, none⟩ u) base e m v l :=
  h.sameBlock fun q hq => Below.heap_setCell _ _ _ _ (by have := (OwnRow.lt h q hq).1; simp only; omega)
set_option maxHeartbeats 12800000 in
theorem leadersR_w {w : World} {v : Value} {t : List Tot} (h : IsTots w v t) (hn : t.length ≤ 10000) {i k : Nat} (hi : i < 12) (hk : k < 12) (least n : Int) (hn1 : 1 ≤ n ∧ n ≤ 256) (hs : SortT t) (hp0 : ∀ x ∈ ldF k least t, PosB i k x) :
    Calls prog 35 #[v, .int .i64 i, .int .i64 k, .int .i64 least, .int .i64 n] w fun e w' => (∃ u, e = .returned u ∧ LdOk w' w.heap.size 62 u t i k least n) ∧ Below w.heap.size w w' := by
  have HV := Lib.hid h
  have HP := Lib.hid hp0
  have HS := Lib.hid hs
  obtain ⟨va, vc, rfl, hkc⟩ := h.slice
  obtain ⟨N, hN⟩ : ∃ N, t.length = N := ⟨_, rfl⟩
  have HN := Lib.hid hN
  rw [hN] at HV hn hkc ⊢
  obtain ⟨iT, TT⟩ := elLdR
  have HTL := Lib.hid TT
  clear TT h hN
  go_enter func35, ntmps35
  go_upto_block 0 with fail
  go_cut [11] from 12 (fun s wx => OwnRow wx w.heap.size 62 4 s ((ldF k least t).map (ldC0 i k)) ∧ Below w.heap.size w wx)
  case first =>
    clear hs hp0
    go_wp2_with fail
    go_loopw [11, 12] (fun s11 s12 wr => ∃ j : Nat, j ≤ N ∧ s12 = .int .i64 j ∧ OwnRow wr w.heap.size 62 4 s11 ((ldF k least (t.take j)).map (ldC0 i k)) ∧ Below w.heap.size w wr) (fun _ s12 _ => N - (numOf' s12).toNat)
    case atStart => exact ⟨0, Nat.zero_le _, rfl, OwnRow.start _ _ _ _, Below.refl _ _⟩
    case round =>
      obtain ⟨j, hj, rfl, hrow, hb⟩ := hrel
      by_cases hjN : j < N
      · obtain ⟨x, hx⟩ : ∃ x, t[j]? = some x := ⟨_, List.getElem?_eq_getElem (by rw [HN.out]; exact hjN)⟩
        have hjj : (j : Int) < (N : Int) := by omega
        obtain ⟨sb, so, sc2, es, -, -, -, -⟩ := HV.out.at hx
        simp only [HN.out, Value.slice.injEq, true_and] at es
        obtain ⟨rfl, rfl⟩ := es
        have HV0 : IsTots w (.slice (some ⟨sb, so, none⟩) t.length vc) t := by rw [HN.out]; exact HV.out
        have hw1 := (IsTots.all HV0 hx).1
        have hw2 := IsTots.num HV0 hx hi
        have hw3 := IsTots.num HV0 hx hk
        obtain ⟨xn, hxn⟩ : ∃ m, x.c i = m := ⟨_, rfl⟩
        obtain ⟨xd, hxd⟩ : ∃ m, x.c k = m := ⟨_, rfl⟩
        rw [hxn] at hw2
        rw [hxd] at hw3
        have ik1 : (i : Int) < 12 := by omega
        have ik2 : (k : Int) < 12 := by omega
        have q3 := (hb.cell (cell_under hw3)).trans hw3
        have q4 := q3
        rw [← Nat.add_assoc] at q4
        have hsnoc := take_snoc hx
        by_cases h1 : least ≤ xd
        · by_cases h2 : 0 < xd
          · have hkeep : (!decide (x.c k < max least 1)) = true := by rw [hxd, Bool.not_eq_true', decide_eq_false_iff_not]; omega
            have HNX : Hid (ldF k least (t.take (j + 1)) = ldF k least (t.take j) ++ [x]) := Lib.hid (by unfold ldF; rw [hsnoc, List.filter_append]; simp [hkeep])
            have hpx := HP.out x (List.mem_filter.2 ⟨List.mem_of_getElem? hx, hkeep⟩)
            have c38 := rateR_w (x.c i) (x.c k) (by unfold rB; have := hpx.1; omega) (by unfold rB; have := hpx.2; omega) (by have := hpx.2; omega)
            rw [hxn, hxd] at c38
            have HXC : Hid (ldC0 i k x = [.string (bA x.p), .int .i64 (rtN xn xd), .int .i64 (rtD xn xd), .int .i64 0]) := Lib.hid (by rw [← hxn, ← hxd]; rfl)
            generalize rtN xn xd = P at c38 HXC
            generalize rtD xn xd = Q at c38 HXC
            have hll : ((ldF k least (t.take j)).map (ldC0 i k)).length ≤ 1000000 := by
              rw [List.length_map]
              have := List.length_filter_le (fun x => !decide (x.c k < max least 1)) (t.take j)
              rw [List.length_take] at this
              unfold ldF
              omega
            have hS : wr.drew.cell? ⟨sb, so + j * 14, none⟩ = some (.string (bA x.p)) ∧ wr.drew.cell? ⟨sb, so + j * 14 + (2 + i), none⟩ = some (.int .i64 xn) ∧ wr.drew.cell? ⟨sb, so + j * 14 + (2 + k), none⟩ = some (.int .i64 xd) := ⟨(hb.cell (cell_under hw1)).trans hw1, (hb.cell (cell_under hw2)).trans hw2, q3⟩
            have hbk : Below wr.heap.size wr wr.drew := (Below.refl _ _).drew
            clear hpx hkeep hsnoc
            go_wp2_with fail
            refine wp_region_held_drew (S := (fun W => W.cell? ⟨sb, so + j * 14, none⟩ = some (.string (bA x.p)) ∧ W.cell? ⟨sb, so + j * 14 + (2 + i), none⟩ = some (.int .i64 xn) ∧ W.cell? ⟨sb, so + j * 14 + (2 + k), none⟩ = some (.int .i64 xd))) (by kernel_rfl) ?_ (fun hHeld => ?_)
            · (try dsimp only)
              exact hS
            refine wpAnyH_take (i := 0) (oi := { dst := some 43, op := Op.move (Operand.tmp 11), type := 57, pos := "ref.go:354", after := #[], guard := none }) (v := ?_) rfl (by kernel_rfl) (by kernel_rfl) (by kernel_rfl) (fun _ _ _ h => h) (Or.inl ⟨by rfl, ?_⟩) (by assumption) ?_
            rotate_left
            · (intro w hSw; (try dsimp only at hSw); go_simp); all_goals (with_reducible rfl)
            try simp only [Act.put, List.setIfInBounds_toArray, List.set_cons_zero, List.set_cons_succ]
            refine wpAnyH_take (i := 1) (oi := { dst := some 44, op := Op.move (Operand.tmp 0), type := 38, pos := "ref.go:354", after := #[], guard := none }) (v := ?_) rfl (by kernel_rfl) (by kernel_rfl) (by kernel_rfl) (fun _ _ _ h => h) (Or.inl ⟨by rfl, ?_⟩) (by assumption) ?_
            rotate_left
            · (intro w hSw; (try dsimp only at hSw); go_simp); all_goals (with_reducible rfl)
            try simp only [Act.put, List.setIfInBounds_toArray, List.set_cons_zero, List.set_cons_succ]
            refine wpAnyH_take (i := 2) (oi := { dst := some 45, op := Op.move (Operand.tmp 12), type := 3, pos := "ref.go:354", after := #[], guard := none }) (v := ?_) rfl (by kernel_rfl) (by kernel_rfl) (by kernel_rfl) (fun _ _ _ h => h) (Or.inl ⟨by rfl, ?_⟩) (by assumption) ?_
            rotate_left
            · (intro w hSw; (try dsimp only at hSw); go_simp); all_goals (with_reducible rfl)
            try simp only [Act.put, List.setIfInBounds_toArray, List.set_cons_zero, List.set_cons_succ]
            refine wpAnyH_take (i := 3) (oi := { dst := some 46, op := Op.indexAddr 38 (Operand.tmp 44) (Operand.tmp 45), type := 0, pos := "ref.go:354", after := #[{ on := 1, ground := Ground.data }, { on := 2, ground := Ground.data }], guard := none }) (v := ?_) rfl (by kernel_rfl) (by kernel_rfl) (by kernel_rfl) (fun _ _ _ h => h) (Or.inl ⟨by rfl, ?_⟩) (by assumption) ?_
            rotate_left
            · (intro w hSw; (try dsimp only at hSw); go_simp); all_goals (with_reducible rfl)
            try simp only [Act.put, List.setIfInBounds_toArray, List.set_cons_zero, List.set_cons_succ]
            refine wpAnyH_take (i := 4) (oi := { dst := some 47, op := Op.fieldAddr 56 (Operand.tmp 46) 0, type := 0, pos := "ref.go:354", after := #[{ on := 3, ground := Ground.data }], guard := none }) (v := ?_) rfl (by kernel_rfl) (by kernel_rfl) (by kernel_rfl) (fun _ _ _ h => h) (Or.inl ⟨by rfl, ?_⟩) (by assumption) ?_
            rotate_left
            · (intro w hSw; (try dsimp only at hSw); go_simp); all_goals (with_reducible rfl)
            try simp only [Act.put, List.setIfInBounds_toArray, List.set_cons_zero, List.set_cons_succ]
            refine wpAnyH_take (i := 5) (oi := { dst := some 48, op := Op.load 9 (Operand.tmp 47), type := 9, pos := "ref.go:354", after := #[{ on := 4, ground := Ground.data }], guard := none }) (v := ?_) rfl (by kernel_rfl) (by kernel_rfl) (by kernel_rfl) (fun _ _ _ h => h) (Or.inl ⟨by rfl, ?_⟩) (by assumption) ?_
            rotate_left
            · (intro w hSw; have pn := hSw.1; (try dsimp only at hSw); go_simp); all_goals (with_reducible rfl)
            try simp only [Act.put, List.setIfInBounds_toArray, List.set_cons_zero, List.set_cons_succ]
            refine wpAnyH_take (i := 6) (oi := { dst := some 49, op := Op.move (Operand.tmp 0), type := 38, pos := "ref.go:354", after := #[], guard := none }) (v := ?_) rfl (by kernel_rfl) (by kernel_rfl) (by kernel_rfl) (fun _ _ _ h => h) (Or.inl ⟨by rfl, ?_⟩) (by assumption) ?_
            rotate_left
            · (intro w hSw; (try dsimp only at hSw); go_simp); all_goals (with_reducible rfl)
            try simp only [Act.put, List.setIfInBounds_toArray, List.set_cons_zero, List.set_cons_succ]
            refine wpAnyH_take (i := 7) (oi := { dst := some 50, op := Op.move (Operand.tmp 12), type := 3, pos := "ref.go:354", after := #[], guard := none }) (v := ?_) rfl (by kernel_rfl) (by kernel_rfl) (by kernel_rfl) (fun _ _ _ h => h) (Or.inl ⟨by rfl, ?_⟩) (by assumption) ?_
            rotate_left
            · (intro w hSw; (try dsimp only at hSw); go_simp); all_goals (with_reducible rfl)
            try simp only [Act.put, List.setIfInBounds_toArray, List.set_cons_zero, List.set_cons_succ]
            refine wpAnyH_take (i := 8) (oi := { dst := some 51, op := Op.move (Operand.tmp 1), type := 3, pos := "ref.go:354", after := #[], guard := none }) (v := ?_) rfl (by kernel_rfl) (by kernel_rfl) (by kernel_rfl) (fun _ _ _ h => h) (Or.inl ⟨by rfl, ?_⟩) (by assumption) ?_
            rotate_left
            · (intro w hSw; (try dsimp only at hSw); go_simp); all_goals (with_reducible rfl)
            try simp only [Act.put, List.setIfInBounds_toArray, List.set_cons_zero, List.set_cons_succ]
            refine wpAnyH_take (i := 9) (oi := { dst := some 52, op := Op.indexAddr 38 (Operand.tmp 49) (Operand.tmp 50), type := 0, pos := "ref.go:354", after := #[{ on := 6, ground := Ground.data }, { on := 7, ground := Ground.data }], guard := none }) (v := ?_) rfl (by kernel_rfl) (by kernel_rfl) (by kernel_rfl) (fun _ _ _ h => h) (Or.inl ⟨by rfl, ?_⟩) (by assumption) ?_
            rotate_left
            · (intro w hSw; (try dsimp only at hSw); go_simp); all_goals (with_reducible rfl)
            try simp only [Act.put, List.setIfInBounds_toArray, List.set_cons_zero, List.set_cons_succ]
            refine wpAnyH_take (i := 10) (oi := { dst := some 53, op := Op.fieldAddr 56 (Operand.tmp 52) 2, type := 0, pos := "ref.go:354", after := #[{ on := 9, ground := Ground.data }], guard := none }) (v := ?_) rfl (by kernel_rfl) (by kernel_rfl) (by kernel_rfl) (fun _ _ _ h => h) (Or.inl ⟨by rfl, ?_⟩) (by assumption) ?_
            rotate_left
            · (intro w hSw; (try dsimp only at hSw); go_simp); all_goals (with_reducible rfl)
            try simp only [Act.put, List.setIfInBounds_toArray, List.set_cons_zero, List.set_cons_succ]
            refine wpAnyH_take (i := 11) (oi := { dst := some 54, op := Op.indexAddr 54 (Operand.tmp 53) (Operand.tmp 51), type := 0, pos := "ref.go:354", after := #[{ on := 10, ground := Ground.data }, { on := 8, ground := Ground.data }], guard := none }) (v := ?_) rfl (by kernel_rfl) (by kernel_rfl) (by kernel_rfl) (fun _ _ _ h => h) (Or.inl ⟨by rfl, ?_⟩) (by assumption) ?_
            rotate_left
            · (intro w hSw; (try dsimp only at hSw); go_simp); all_goals (with_reducible rfl)
            try simp only [Act.put, List.setIfInBounds_toArray, List.set_cons_zero, List.set_cons_succ]
            refine wpAnyH_take (i := 12) (oi := { dst := some 55, op := Op.load 3 (Operand.tmp 54), type := 3, pos := "ref.go:354", after := #[{ on := 11, ground := Ground.data }], guard := none }) (v := ?_) rfl (by kernel_rfl) (by kernel_rfl) (by kernel_rfl) (fun _ _ _ h => h) (Or.inl ⟨by rfl, ?_⟩) (by assumption) ?_
            rotate_left
            · (intro w hSw; have pa := hSw.2.1; have pb := pa; rw [← Nat.add_assoc] at pb; (try dsimp only at hSw); go_simp); all_goals (with_reducible rfl)
            try simp only [Act.put, List.setIfInBounds_toArray, List.set_cons_zero, List.set_cons_succ]
            refine wpAnyH_take (i := 13) (oi := { dst := some 56, op := Op.move (Operand.tmp 0), type := 38, pos := "ref.go:354", after := #[], guard := none }) (v := ?_) rfl (by kernel_rfl) (by kernel_rfl) (by kernel_rfl) (fun _ _ _ h => h) (Or.inl ⟨by rfl, ?_⟩) (by assumption) ?_
            rotate_left
            · (intro w hSw; (try dsimp only at hSw); go_simp); all_goals (with_reducible rfl)
            try simp only [Act.put, List.setIfInBounds_toArray, List.set_cons_zero, List.set_cons_succ]
            refine wpAnyH_take (i := 14) (oi := { dst := some 57, op := Op.move (Operand.tmp 12), type := 3, pos := "ref.go:354", after := #[], guard := none }) (v := ?_) rfl (by kernel_rfl) (by kernel_rfl) (by kernel_rfl) (fun _ _ _ h => h) (Or.inl ⟨by rfl, ?_⟩) (by assumption) ?_
            rotate_left
            · (intro w hSw; (try dsimp only at hSw); go_simp); all_goals (with_reducible rfl)
            try simp only [Act.put, List.setIfInBounds_toArray, List.set_cons_zero, List.set_cons_succ]
            refine wpAnyH_take (i := 15) (oi := { dst := some 58, op := Op.move (Operand.tmp 2), type := 3, pos := "ref.go:354", after := #[], guard := none }) (v := ?_) rfl (by kernel_rfl) (by kernel_rfl) (by kernel_rfl) (fun _ _ _ h => h) (Or.inl ⟨by rfl, ?_⟩) (by assumption) ?_
            rotate_left
            · (intro w hSw; (try dsimp only at hSw); go_simp); all_goals (with_reducible rfl)
            try simp only [Act.put, List.setIfInBounds_toArray, List.set_cons_zero, List.set_cons_succ]
            refine wpAnyH_take (i := 16) (oi := { dst := some 59, op := Op.indexAddr 38 (Operand.tmp 56) (Operand.tmp 57), type := 0, pos := "ref.go:354", after := #[{ on := 13, ground := Ground.data }, { on := 14, ground := Ground.data }], guard := none }) (v := ?_) rfl (by kernel_rfl) (by kernel_rfl) (by kernel_rfl) (fun _ _ _ h => h) (Or.inl ⟨by rfl, ?_⟩) (by assumption) ?_
            rotate_left
            · (intro w hSw; (try dsimp only at hSw); go_simp); all_goals (with_reducible rfl)
            try simp only [Act.put, List.setIfInBounds_toArray, List.set_cons_zero, List.set_cons_succ]
            refine wpAnyH_take (i := 17) (oi := { dst := some 60, op := Op.fieldAddr 56 (Operand.tmp 59) 2, type := 0, pos := "ref.go:354", after := #[{ on := 16, ground := Ground.data }], guard := none }) (v := ?_) rfl (by kernel_rfl) (by kernel_rfl) (by kernel_rfl) (fun _ _ _ h => h) (Or.inl ⟨by rfl, ?_⟩) (by assumption) ?_
            rotate_left
            · (intro w hSw; (try dsimp only at hSw); go_simp); all_goals (with_reducible rfl)
            try simp only [Act.put, List.setIfInBounds_toArray, List.set_cons_zero, List.set_cons_succ]
            refine wpAnyH_take (i := 18) (oi := { dst := some 61, op := Op.indexAddr 54 (Operand.tmp 60) (Operand.tmp 58), type := 0, pos := "ref.go:354", after := #[{ on := 17, ground := Ground.data }, { on := 15, ground := Ground.data }], guard := none }) (v := ?_) rfl (by kernel_rfl) (by kernel_rfl) (by kernel_rfl) (fun _ _ _ h => h) (Or.inl ⟨by rfl, ?_⟩) (by assumption) ?_
            rotate_left
            · (intro w hSw; (try dsimp only at hSw); go_simp); all_goals (with_reducible rfl)
            try simp only [Act.put, List.setIfInBounds_toArray, List.set_cons_zero, List.set_cons_succ]
            refine wpAnyH_take (i := 19) (oi := { dst := some 62, op := Op.load 3 (Operand.tmp 61), type := 3, pos := "ref.go:354", after := #[{ on := 18, ground := Ground.data }], guard := none }) (v := ?_) rfl (by kernel_rfl) (by kernel_rfl) (by kernel_rfl) (fun _ _ _ h => h) (Or.inl ⟨by rfl, ?_⟩) (by assumption) ?_
            rotate_left
            · (intro w hSw; have pa := hSw.2.2; have pb := pa; rw [← Nat.add_assoc] at pb; (try dsimp only at hSw); go_simp); all_goals (with_reducible rfl)
            try simp only [Act.put, List.setIfInBounds_toArray, List.set_cons_zero, List.set_cons_succ]
            refine wpAnyH_ready (rs := [20]) (by kernel_rfl) (by simp) ?_
            refine AllReadyH.cons (o := _) rfl (fun K hK => ?_) ?_
            · -- 38
              (go_simp; refine Calls.mono (c38 _) ?_; rintro e W ⟨rfl, hk⟩; replace hbk := hbk.trans (hk.mono hbk.size); have hS0 := hS; replace hS : W.cell? ⟨sb, so + j * 14, none⟩ = some (.string (bA x.p)) ∧ W.cell? ⟨sb, so + j * 14 + (2 + i), none⟩ = some (.int .i64 xn) ∧ W.cell? ⟨sb, so + j * 14 + (2 + k), none⟩ = some (.int .i64 xd) := ⟨(hk.cell (cell_under hS0.1)).trans hS0.1, (hk.cell (cell_under hS0.2.1)).trans hS0.2.1, (hk.cell (cell_under hS0.2.2)).trans hS0.2.2⟩; have hal : Below W.heap.size W (W.alloc (.cells #[.string (bA x.p), .int .i64 P, .int .i64 Q, .int .i64 0] 62)) := (Below.refl _ _).alloc (Nat.le_refl _) _; have hwal : Below wr.heap.size wr (W.alloc (.cells #[.string (bA x.p), .int .i64 P, .int .i64 Q, .int .i64 0] 62)) := hbk.trans (hal.mono hbk.size); obtain ⟨a9, k9, c9, w9, hrun, hA⟩ := run_appendR (ty := 57) HTL.out (W.alloc (.cells #[.string (bA x.p), .int .i64 P, .int .i64 Q, .int .i64 0] 62)) w.heap.size W.heap.size ((ldF k least (t.take j)).map (ldC0 i k)) u11 (OwnRow.below hrow hwal) hll [.string (bA x.p), .int .i64 P, .int .i64 Q, .int .i64 0] rfl (by simp [Value.oneCell']) (at_new W _ 62) 1 (Nat.le_trans hb.size hwal.size); have hS2 : (W.alloc (.cells #[.string (bA x.p), .int .i64 P, .int .i64 Q, .int .i64 0] 62)).cell? ⟨sb, so + j * 14, none⟩ = some (.string (bA x.p)) ∧ (W.alloc (.cells #[.string (bA x.p), .int .i64 P, .int .i64 Q, .int .i64 0] 62)).cell? ⟨sb, so + j * 14 + (2 + i), none⟩ = some (.int .i64 xn) ∧ (W.alloc (.cells #[.string (bA x.p), .int .i64 P, .int .i64 Q, .int .i64 0] 62)).cell? ⟨sb, so + j * 14 + (2 + k), none⟩ = some (.int .i64 xd) := ⟨(hal.cell (cell_under hS.1)).trans hS.1, (hal.cell (cell_under hS.2.1)).trans hS.2.1, (hal.cell (cell_under hS.2.2)).trans hS.2.2⟩; have hbw : Below w.heap.size w w9 := hA.below w (hb.trans (hwal.mono hb.size)) (Nat.le_refl _); have hS3 : w9.cell? ⟨sb, so + j * 14, none⟩ = some (.string (bA x.p)) ∧ w9.cell? ⟨sb, so + j * 14 + (2 + i), none⟩ = some (.int .i64 xn) ∧ w9.cell? ⟨sb, so + j * 14 + (2 + k), none⟩ = some (.int .i64 xd) := ⟨(hbw.cell (cell_under hw1)).trans hw1, (hbw.cell (cell_under hw2)).trans hw2, (hbw.cell (cell_under hw3)).trans hw3⟩; have hbs := run_sliceLdR W (.string (bA x.p)) (.int .i64 P) (.int .i64 Q) (.int .i64 0); have hrow9 := hA.row; clear hk)
              refine hK.out _ _ ?_ (fun hHeld => ?_)
              · (try dsimp only)
                exact hS
              clear hK K
              try simp only [Act.put, List.setIfInBounds_toArray, List.set_cons_zero, List.set_cons_succ]
              refine wpAnyH_take (i := 21) (oi := { dst := some 64, op := Op.build 62 #[(0, Operand.tmp 48), (1, Operand.tmp 63)], type := 62, pos := "ref.go:354", after := #[{ on := 5, ground := Ground.data }, { on := 20, ground := Ground.data }], guard := none }) (v := ?_) rfl (by kernel_rfl) (by kernel_rfl) (by kernel_rfl) (fun _ _ _ h => h) (Or.inl ⟨by rfl, ?_⟩) (by assumption) ?_
              rotate_left
              · (intro w hSw; (try dsimp only at hSw); go_simp); all_goals (with_reducible rfl)
              try simp only [Act.put, List.setIfInBounds_toArray, List.set_cons_zero, List.set_cons_succ]
              refine wpAnyH_ready (rs := [22]) (by kernel_rfl) (by simp) ?_
              refine AllReadyH.cons (o := { dst := some 65, op := Op.buildSlice 57 1 #[(0, Operand.tmp 64)], type := 57, pos := "ref.go:354", after := #[{ on := 21, ground := Ground.data }], guard := none }) rfl (fun K hK => ?_) ?_
              · -- buildSlice
                (go_simp; replace hS := hS2)
                refine hK.out _ _ ?_ (fun hHeld => ?_)
                · (try dsimp only)
                  exact hS
                clear hK K
                try simp only [Act.put, List.setIfInBounds_toArray, List.set_cons_zero, List.set_cons_succ]
                refine wpAnyH_ready (rs := [23]) (by kernel_rfl) (by simp) ?_
                refine AllReadyH.cons (o := { dst := some 66, op := Op.call { callee := Callee.builtin Builtin.append, args := #[Operand.tmp 43, Operand.tmp 65], argTypes := #[57, 57] }, type := 57, pos := "ref.go:354", after := #[{ on := 0, ground := Ground.data }, { on := 22, ground := Ground.data }, { on := 20, ground := Ground.chain }], guard := none }) rfl (fun K hK => ?_) ?_
                · -- append
                  (refine app_step rfl (app_run (s := .tmp 43) (x := .tmp 65) rfl rfl rfl rfl hrun) ?_; replace hS := hS3)
                  refine hK.out _ _ ?_ (fun hHeld => ?_)
                  · (try dsimp only)
                    exact hS
                  clear hK K
                  try simp only [Act.put, List.setIfInBounds_toArray, List.set_cons_zero, List.set_cons_succ]
                  refine wpAnyH_take (i := 24) (oi := { dst := some 11, op := Op.assign (Operand.tmp 66), type := 57, pos := "ref.go:354", after := #[{ on := 23, ground := Ground.data }, { on := 23, ground := Ground.chain }, { on := 0, ground := Ground.phase }, { on := 1, ground := Ground.phase }, { on := 2, ground := Ground.phase }, { on := 3, ground := Ground.phase }, { on := 4, ground := Ground.phase }, { on := 5, ground := Ground.phase }, { on := 6, ground := Ground.phase }, { on := 7, ground := Ground.phase }, { on := 8, ground := Ground.phase }, { on := 9, ground := Ground.phase }, { on := 10, ground := Ground.phase }, { on := 11, ground := Ground.phase }, { on := 12, ground := Ground.phase }, { on := 13, ground := Ground.phase }, { on := 14, ground := Ground.phase }, { on := 15, ground := Ground.phase }, { on := 16, ground := Ground.phase }, { on := 17, ground := Ground.phase }, { on := 18, ground := Ground.phase }, { on := 19, ground := Ground.phase }, { on := 20, ground := Ground.phase }, { on := 21, ground := Ground.phase }, { on := 22, ground := Ground.phase }, { on := 23, ground := Ground.phase }], guard := none }) (v := ?_) rfl (by kernel_rfl) (by kernel_rfl) (by kernel_rfl) (fun _ _ _ h => h) (Or.inl ⟨by rfl, ?_⟩) (by assumption) ?_
                  rotate_left
                  · (intro w hSw; (try dsimp only at hSw); go_simp); all_goals (with_reducible rfl)
                  try simp only [Act.put, List.setIfInBounds_toArray, List.set_cons_zero, List.set_cons_succ]
                  refine wpAnyH_done (by kernel_rfl) ?_ _
                  have hrow10 : OwnRow w9 w.heap.size 62 4 (.slice a9 k9 c9) ((ldF k least (t.take (j + 1))).map (ldC0 i k)) := by
                    rw [HNX.out, List.map_append, List.map_cons, List.map_nil, HXC.out]
                    rw [List.length_map] at *
                    exact hrow9
                  clear hA hrow9 hrun hbs hS hS2 hS3 hal hwal hrow hb
                  go_wp2_with fail
                  go_roundw
                  case rel => exact ⟨j + 1, by omega, by go_num, hrow10, hbw⟩
                  case measure => simp [numOf'] <;> omega
                exact AllReadyH.nil
              exact AllReadyH.nil
            exact AllReadyH.nil
          · have hno : (!decide (x.c k < max least 1)) = false := by rw [hxd, Bool.not_eq_false', decide_eq_true_eq]; omega
            have HNX : ldF k least (t.take (j + 1)) = ldF k least (t.take j) := by unfold ldF; rw [hsnoc, List.filter_append]; simp [hno]
            rw [← HNX] at hrow
            clear hno hsnoc HNX
            go_wp2_with fail
            go_roundw
            case rel => exact ⟨j + 1, by omega, by go_num, hrow, hb⟩
            case measure => simp [numOf'] <;> omega
        · have hno : (!decide (x.c k < max least 1)) = false := by rw [hxd, Bool.not_eq_false', decide_eq_true_eq]; omega
          have HNX : ldF k least (t.take (j + 1)) = ldF k least (t.take j) := by unfold ldF; rw [hsnoc, List.filter_append]; simp [hno]
          rw [← HNX] at hrow
          clear hno hsnoc HNX
          go_wp2_with fail
          go_roundw
          case rel => exact ⟨j + 1, by omega, by go_num, hrow, hb⟩
          case measure => simp [numOf'] <;> omega
      · obtain rfl : j = N := by omega
        have hrow : OwnRow wr w.heap.size 62 4 u11 ((ldF k least t).map (ldC0 i k)) := by
          rw [List.take_of_length_le (by rw [HN.out]; exact Nat.le_refl _)] at hrow
          exact hrow
        go_wp2_with fail
        go_meet
        exact ⟨hrow, hb⟩
  case rest =>
    obtain ⟨hrowA, hbA⟩ := hcut
    have hFp := List.Pairwise.filter (fun x : Tot => !decide (x.c k < max least 1)) hs
    have hFl : (ldF k least t).length ≤ 10000 := Nat.le_trans (List.length_filter_le _ _) (by rw [HN.out]; exact hn)
    obtain ⟨F, hF⟩ : ∃ F, ldF k least t = F := ⟨_, rfl⟩
    have hFp : SortT F := by rw [← hF]; exact hFp
    rw [hF] at hrowA hp0 hFl
    have HFF := Lib.hid hF
    obtain ⟨M, hM⟩ : ∃ M, F.length = M := ⟨_, rfl⟩
    have HM := Lib.hid hM
    obtain ⟨ra, rc, hr⟩ := OwnRow.slice hrowA
    rw [List.length_map, hM] at hr
    subst hr
    have HFS := Lib.hid (And.intro hFp hp0)
    rw [hM] at hFl
    generalize wc = W1 at hrowA hbA ⊢
    clear hFp hp0 hF hM HP hs
    go_upto_block 2 with fail
    go_cut [] from 13 (fun wx => ∃ S, S.Perm F ∧ SortL i k S ∧ OwnRow wx w.heap.size 62 4 (.slice ra M rc) (S.map (ldC0 i k)) ∧ Below w.heap.size w wx)
    case first =>
      go_wp2_with fail
      go_loopw [13] (fun s13 wr => ∃ (p : Nat) (S : List Tot), 1 ≤ p ∧ (p ≤ M ∨ p = 1) ∧ s13 = .int .i64 p ∧ S.Perm (F.take p) ∧ SortL i k S ∧ OwnRow wr w.heap.size 62 4 (.slice ra M rc) ((S ++ F.drop p).map (ldC0 i k)) ∧ Below w.heap.size w wr) (fun s13 _ => M + 1 - (numOf' s13).toNat)
      case atStart => exact ⟨1, F.take 1, Nat.le_refl _, .inr rfl, rfl, List.Perm.refl _, by unfold SortL; cases F <;> simp, by rw [List.take_append_drop]; exact hrowA, hbA⟩
      case round =>
        clear hrowA hbA
        obtain ⟨p, S, hp1, hpM, rfl, hSp, hSs, hrow, hb⟩ := hrel
        by_cases hlt : p < M
        · obtain ⟨x, hx⟩ : ∃ x, F[p]? = some x := ⟨_, List.getElem?_eq_getElem (by rw [HM.out]; exact hlt)⟩
          have hSl : S.length = p := by rw [hSp.length_eq, List.length_take, HM.out]; omega
          have e1 : F.drop p = x :: F.drop (p + 1) := by rw [List.drop_eq_getElem_cons (by rw [HM.out]; exact hlt), (List.getElem?_eq_some_iff.1 hx).2]
          obtain ⟨L, hL⟩ : ∃ L, S ++ F.drop (p + 1) = L := ⟨_, rfl⟩
          have hLl : L.length + 1 = M := by rw [← hL, List.length_append, hSl, List.length_drop, HM.out]; omega
          have HLL := Lib.hid (And.intro hL (And.intro hSl hLl))
          have hrow : OwnRow wr w.heap.size 62 4 (.slice ra M rc) ((L.take p ++ x :: L.drop p).map (ldC0 i k)) := by
            rw [e1] at hrow
            rw [← hL, ← hSl, List.take_left, List.drop_left, hSl]
            exact hrow
          have hml : ((L.take p ++ x :: L.drop p).map (ldC0 i k)).length = M := by rw [List.length_map, List.length_append, List.length_cons, List.length_take, List.length_drop]; omega
          obtain ⟨g, cap, eo, hbg, -⟩ := OwnRow.own hrow (i := p) (by rw [hml]; exact hlt)
          rw [hml] at eo
          simp only [Value.slice.injEq, true_and] at eo
          obtain ⟨rfl, rfl⟩ := eo
          have hpp : (p : Int) < (M : Int) := by omega
          have HSS := Lib.hid (And.intro hSp hSs)
          have HX := Lib.hid hx
          have hpx := HFS.out.2 x (List.mem_of_getElem? hx)
          have hE0 : Hid (∀ r y, p ≤ r → r < p → L[r]? = some y → ¬ leR i k x y) := Lib.hid fun r y h1 h2 => absurd h2 (by omega)
          have HPX := Lib.hid hpx
          clear hml hSp hSs e1 hL hSl hx hpx
          go_wp2_with fail
          go_loopw [14] (fun s14 wx => ∃ q : Nat, q ≤ p ∧ s14 = .int .i64 q ∧ OwnRow wx w.heap.size 62 4 (.slice (some ⟨g, 0, none⟩) M rc) ((L.take q ++ x :: L.drop q).map (ldC0 i k)) ∧ Hid (∀ r y, q ≤ r → r < p → L[r]? = some y → ¬ leR i k x y) ∧ Below w.heap.size w wx) (fun s14 _ => (numOf' s14).toNat)
          case atStart => exact ⟨p, Nat.le_refl _, rfl, hrow, hE0, hb⟩
          case round =>
            clear hrow hE0 hb
            obtain ⟨q, hq, rfl, hM, hE, hb⟩ := hrel
            have hdr : Below wr.heap.size wr wr.drew := (Below.refl _ _).drew
            have hSL : ∀ r, r < p → S[r]? = L[r]? := fun r hr => by rw [← HLL.out.1, List.getElem?_append_left (by rw [HLL.out.2.1]; exact hr)]
            have hBq : ∀ r y, q ≤ r → S[r]? = some y → ¬ leR i k x y := fun r y h1 h2 => by
              have h3 := (List.getElem?_eq_some_iff.1 h2).1
              rw [HLL.out.2.1] at h3
              rw [hSL r h3] at h2
              exact hE.out r y h1 h3 h2
            rcases Nat.eq_zero_or_pos q with hq0 | hq0
            · have i1 : ¬ (0 : Int) < (q : Int) := by omega
              have HIN := Lib.hid (ins_ok (q := q) HFS.out.1 HFS.out.2 HSS.out.1 HSS.out.2 HX.out (by rw [HLL.out.2.1]; exact hq) (fun a h => by omega) hBq)
              clear hq0 hE hBq hSL
              go_wp2_with fail
              refine wp_region_quiet_to (C := (fun W => Below wr.heap.size wr W)) 16 1 #[true, true, true, true, true, true, true, true, true, true, true, true, true, true, true, true, false] (by kernel_rfl) (by kernel_rfl) ?_ ?_
              · (try dsimp only)
                exact hdr
              simp only [List.take_succ_cons, List.take_zero]
              with_reducible refine quiet_take (v := ?_) ?_ ?_ ?_
              rotate_left
              · rfl
              · (intro w hSw; (try dsimp only at hSw); go_simp); all_goals (with_reducible rfl)
              try simp only [Act.put, List.setIfInBounds_toArray, List.set_cons_zero, List.set_cons_succ]
              with_reducible refine quiet_take (v := .bool false) ?_ ?_ ?_
              · rfl
              · (intro w hSw; go_simp; first | done | omega | (simp; omega))
              try simp only [Act.put, List.setIfInBounds_toArray, List.set_cons_zero, List.set_cons_succ]
              with_reducible refine quiet_take (v := ?_) ?_ ?_ ?_
              rotate_left
              · rfl
              · (intro w hSw; (try dsimp only at hSw); go_simp); all_goals (with_reducible rfl)
              try simp only [Act.put, List.setIfInBounds_toArray, List.set_cons_zero, List.set_cons_succ]
              with_reducible refine quiet_skip ?_ ?_
              · rfl
              try simp only [Act.put, List.setIfInBounds_toArray, List.set_cons_zero, List.set_cons_succ]
              with_reducible refine quiet_skip ?_ ?_
              · rfl
              try simp only [Act.put, List.setIfInBounds_toArray, List.set_cons_zero, List.set_cons_succ]
              with_reducible refine quiet_skip ?_ ?_
              · rfl
              try simp only [Act.put, List.setIfInBounds_toArray, List.set_cons_zero, List.set_cons_succ]
              with_reducible refine quiet_skip ?_ ?_
              · rfl
              try simp only [Act.put, List.setIfInBounds_toArray, List.set_cons_zero, List.set_cons_succ]
              with_reducible refine quiet_skip ?_ ?_
              · rfl
              try simp only [Act.put, List.setIfInBounds_toArray, List.set_cons_zero, List.set_cons_succ]
              with_reducible refine quiet_skip ?_ ?_
              · rfl
              try simp only [Act.put, List.setIfInBounds_toArray, List.set_cons_zero, List.set_cons_succ]
              with_reducible refine quiet_skip ?_ ?_
              · rfl
              try simp only [Act.put, List.setIfInBounds_toArray, List.set_cons_zero, List.set_cons_succ]
              with_reducible refine quiet_skip ?_ ?_
              · rfl
              try simp only [Act.put, List.setIfInBounds_toArray, List.set_cons_zero, List.set_cons_succ]
              with_reducible refine quiet_skip ?_ ?_
              · rfl
              try simp only [Act.put, List.setIfInBounds_toArray, List.set_cons_zero, List.set_cons_succ]
              with_reducible refine quiet_skip ?_ ?_
              · rfl
              try simp only [Act.put, List.setIfInBounds_toArray, List.set_cons_zero, List.set_cons_succ]
              with_reducible refine quiet_skip ?_ ?_
              · rfl
              try simp only [Act.put, List.setIfInBounds_toArray, List.set_cons_zero, List.set_cons_succ]
              with_reducible refine quiet_skip ?_ ?_
              · rfl
              try simp only [Act.put, List.setIfInBounds_toArray, List.set_cons_zero, List.set_cons_succ]
              with_reducible refine quiet_skip ?_ ?_
              · rfl
              try simp only [Act.put, List.setIfInBounds_toArray, List.set_cons_zero, List.set_cons_succ]
              refine wpQuiet_nil ?_
              intro W hSw
              refine wpAny_of_held (S := fun _ => True) _ _ _ _ ?_
              refine wpAnyH_ready (rs := [16]) (by kernel_rfl) (by simp) ?_
              refine AllReadyH.cons (o := _) rfl (fun K hK => ?_) ?_
              · -- pick
                go_simp
                refine hK.out _ _ trivial (fun _ => ?_)
                clear hK K
                try simp only [List.setIfInBounds_toArray, List.set_cons_zero, List.set_cons_succ]
                refine wpAnyH_done (by kernel_rfl) ?_ _
                have hM9 := OwnRow.below hM hSw
                have hb9 := hb.trans (hSw.mono hb.size)
                have hM9 : OwnRow W w.heap.size 62 4 (.slice (some ⟨g, 0, none⟩) M rc) (((S.take q ++ x :: S.drop q) ++ F.drop (p + 1)).map (ldC0 i k)) := by
                  have e1 : L.take q = S.take q := by rw [← HLL.out.1, List.take_append_of_le_length (by rw [HLL.out.2.1]; omega)]
                  have e2 : L.drop q = S.drop q ++ F.drop (p + 1) := by rw [← HLL.out.1, List.drop_append_of_le_length (by rw [HLL.out.2.1]; omega)]
                  rw [e1, e2] at hM9
                  rw [List.append_assoc, List.cons_append]
                  exact hM9
                clear hSw hM hdr hb
                go_wp2_with fail
                go_roundw
                case rel => exact ⟨p + 1, S.take q ++ x :: S.drop q, by omega, by omega, by go_num, HIN.out.1, HIN.out.2, hM9, hb9⟩
                case measure => simp [numOf'] <;> omega
              exact AllReadyH.nil
            · obtain ⟨r, rfl⟩ : ∃ r, q = r + 1 := ⟨q - 1, by omega⟩
              obtain ⟨y, hy⟩ : ∃ y, L[r]? = some y := ⟨_, List.getElem?_eq_getElem (by have := HLL.out.2.2; omega)⟩
              have hM1 : ((L.take (r + 1) ++ x :: L.drop (r + 1)).map (ldC0 i k))[r + 1]? = some (ldC0 i k x) := by rw [List.getElem?_map, mid_get (by have := HLL.out.2.2; omega)]; rfl
              have hM0 : ((L.take (r + 1) ++ x :: L.drop (r + 1)).map (ldC0 i k))[r]? = some (ldC0 i k y) := by rw [List.getElem?_map, mid_low hy]; rfl
              have hSy : S[r]? = some y := by rw [hSL r (by omega)]; exact hy
              have hyF : y ∈ F := List.mem_of_mem_take (HSS.out.1.subset (List.mem_of_getElem? hSy))
              have hpy := HFS.out.2 y hyF
              have cC := cmpR_w (rtN (x.c i) (x.c k)) (rtD (x.c i) (x.c k)) (rtN (y.c i) (y.c k)) (rtD (y.c i) (y.c k)) (mul_rB HPX.out.low.1 hpy.low.2) (mul_rB hpy.low.1 HPX.out.low.2)
              have hlow := cmp_low (i := i) (k := k) HPX.out.pos hpy.pos
              obtain ⟨R, hRR⟩ : ∃ R, cmpI (rtN (x.c i) (x.c k) * rtD (y.c i) (y.c k)) (rtN (y.c i) (y.c k) * rtD (x.c i) (x.c k)) = R := ⟨_, rfl⟩
              rw [hRR] at cC hlow
              have HLOW := Lib.hid hlow
              have i1 : (0 : Int) < ((r + 1 : Nat) : Int) := by omega
              have i2 : ((r + 1 : Nat) : Int) - 1 = (r : Int) := by omega
              have i3 : (r : Int) < (M : Int) := by omega
              have i4 : IntKind.i64.wrap (r : Int) = (r : Int) := IntWalk.i64_in _ (by omega)
              have i6 : IntKind.i64.wrap ((r : Int) + 1 - 1) = (r : Int) := by rw [IntWalk.i64_in _ (by omega)]; omega
              have i7 : (0 : Int) ≤ (r : Int) + 1 := by omega
              have i8 : (r : Int) + 1 < (M : Int) := by omega
              have i9 : (0 : Int) < (r : Int) + 1 := by omega
              clear hq0 hRR hlow hyF hpy
              by_cases hR : 0 < R
              · have hE2 : Hid (∀ r' z, r ≤ r' → r' < p → L[r']? = some z → ¬ leR i k x z) := Lib.hid fun r' z h1 h2 hz => by
                  rcases Nat.lt_or_ge r r' with h | h
                  · exact hE.out r' z h h2 hz
                  · obtain rfl : r' = r := by omega
                    rw [hy] at hz; cases hz; exact HLOW.out.1 hR
                clear hE hBq hSL hSy HLOW
                go_wp2_with fail
                refine wp_region_quiet_to (C := (fun W => Below wr.heap.size wr W)) 16 1 #[true, true, true, true, true, true, true, true, true, true, true, true, true, true, true, true, false] (by kernel_rfl) (by kernel_rfl) ?_ ?_
                · (try dsimp only)
                  exact hdr
                simp only [List.take_succ_cons, List.take_zero]
                with_reducible refine quiet_take (v := ?_) ?_ ?_ ?_
                rotate_left
                · rfl
                · (intro w hSw; (try dsimp only at hSw); go_simp); all_goals (with_reducible rfl)
                try simp only [Act.put, List.setIfInBounds_toArray, List.set_cons_zero, List.set_cons_succ]
                with_reducible refine quiet_take (v := .bool true) ?_ ?_ ?_
                · rfl
                · (intro w hSw; go_simp; first | done | omega | (simp; omega))
                try simp only [Act.put, List.setIfInBounds_toArray, List.set_cons_zero, List.set_cons_succ]
                with_reducible refine quiet_take (v := ?_) ?_ ?_ ?_
                rotate_left
                · rfl
                · (intro w hSw; (try dsimp only at hSw); go_simp); all_goals (with_reducible rfl)
                try simp only [Act.put, List.setIfInBounds_toArray, List.set_cons_zero, List.set_cons_succ]
                with_reducible refine quiet_take (v := ?_) ?_ ?_ ?_
                rotate_left
                · rfl
                · (intro w hSw; (try dsimp only at hSw); go_simp); all_goals (with_reducible rfl)
                try simp only [Act.put, List.setIfInBounds_toArray, List.set_cons_zero, List.set_cons_succ]
                with_reducible refine quiet_take (v := ?_) ?_ ?_ ?_
                rotate_left
                · rfl
                · (intro w hSw; (try dsimp only at hSw); go_simp); all_goals (with_reducible rfl)
                try simp only [Act.put, List.setIfInBounds_toArray, List.set_cons_zero, List.set_cons_succ]
                with_reducible refine quiet_take (v := ?_) ?_ ?_ ?_
                rotate_left
                · rfl
                · (intro w hSw; (try dsimp only at hSw); go_simp); all_goals (with_reducible rfl)
                try simp only [Act.put, List.setIfInBounds_toArray, List.set_cons_zero, List.set_cons_succ]
                with_reducible refine quiet_take (v := ?_) ?_ ?_ ?_
                rotate_left
                · rfl
                · (intro w hSw; (try dsimp only at hSw); go_simp); all_goals (with_reducible rfl)
                try simp only [Act.put, List.setIfInBounds_toArray, List.set_cons_zero, List.set_cons_succ]
                with_reducible refine quiet_take (v := ?_) ?_ ?_ ?_
                rotate_left
                · rfl
                · (intro w hSw; have a0 := (OwnRow.cell (OwnRow.below hM hSw) hM1 (j := 0) (u := .string (bA x.p)) rfl).1; have a1 := (OwnRow.cell (OwnRow.below hM hSw) hM1 (j := 1) (u := .int .i64 (rtN (x.c i) (x.c k))) rfl).1; have a2 := (OwnRow.cell (OwnRow.below hM hSw) hM1 (j := 2) (u := .int .i64 (rtD (x.c i) (x.c k))) rfl).1; have a3 := (OwnRow.cell (OwnRow.below hM hSw) hM1 (j := 3) (u := .int .i64 0) rfl).1; rw [Nat.add_zero] at a0; (try dsimp only at hSw); go_simp); all_goals (with_reducible rfl)
                try simp only [Act.put, List.setIfInBounds_toArray, List.set_cons_zero, List.set_cons_succ]
                with_reducible refine quiet_take (v := ?_) ?_ ?_ ?_
                rotate_left
                · rfl
                · (intro w hSw; (try dsimp only at hSw); go_simp); all_goals (with_reducible rfl)
                try simp only [Act.put, List.setIfInBounds_toArray, List.set_cons_zero, List.set_cons_succ]
                with_reducible refine quiet_take (v := ?_) ?_ ?_ ?_
                rotate_left
                · rfl
                · (intro w hSw; (try dsimp only at hSw); go_simp); all_goals (with_reducible rfl)
                try simp only [Act.put, List.setIfInBounds_toArray, List.set_cons_zero, List.set_cons_succ]
                with_reducible refine quiet_take (v := ?_) ?_ ?_ ?_
                rotate_left
                · rfl
                · (intro w hSw; (try dsimp only at hSw); go_simp); all_goals (with_reducible rfl)
                try simp only [Act.put, List.setIfInBounds_toArray, List.set_cons_zero, List.set_cons_succ]
                with_reducible refine quiet_take (v := ?_) ?_ ?_ ?_
                rotate_left
                · rfl
                · (intro w hSw; (try dsimp only at hSw); go_simp); all_goals (with_reducible rfl)
                try simp only [Act.put, List.setIfInBounds_toArray, List.set_cons_zero, List.set_cons_succ]
                with_reducible refine quiet_take (v := ?_) ?_ ?_ ?_
                rotate_left
                · rfl
                · (intro w hSw; (try dsimp only at hSw); go_simp); all_goals (with_reducible rfl)
                try simp only [Act.put, List.setIfInBounds_toArray, List.set_cons_zero, List.set_cons_succ]
                with_reducible refine quiet_take (v := ?_) ?_ ?_ ?_
                rotate_left
                · rfl
                · (intro w hSw; have b0 := (OwnRow.cell (OwnRow.below hM hSw) hM0 (j := 0) (u := .string (bA y.p)) rfl).1; have b1 := (OwnRow.cell (OwnRow.below hM hSw) hM0 (j := 1) (u := .int .i64 (rtN (y.c i) (y.c k))) rfl).1; have b2 := (OwnRow.cell (OwnRow.below hM hSw) hM0 (j := 2) (u := .int .i64 (rtD (y.c i) (y.c k))) rfl).1; have b3 := (OwnRow.cell (OwnRow.below hM hSw) hM0 (j := 3) (u := .int .i64 0) rfl).1; rw [Nat.add_zero] at b0; (try dsimp only at hSw); go_simp); all_goals (with_reducible rfl)
                try simp only [Act.put, List.setIfInBounds_toArray, List.set_cons_zero, List.set_cons_succ]
                with_reducible refine quiet_call (f := 108) (args := ?_) (v := .int .i64 R) ?_ ?_ ?_ ?_
                rotate_left
                · rfl
                · (intro w hSw; (try dsimp only at hSw); go_simp); all_goals (with_reducible rfl)
                · (intro W hSw); exact (cC W).mono fun e w' ⟨h1, h2⟩ => ⟨h1, hSw.trans (h2.mono hSw.size)⟩
                try simp only [Act.put, List.setIfInBounds_toArray, List.set_cons_zero, List.set_cons_succ]
                with_reducible refine quiet_take (v := ?_) ?_ ?_ ?_
                rotate_left
                · rfl
                · (intro w hSw; (try dsimp only at hSw); go_simp); all_goals (with_reducible rfl)
                try simp only [Act.put, List.setIfInBounds_toArray, List.set_cons_zero, List.set_cons_succ]
                refine wpQuiet_nil ?_
                intro W hSw
                refine wpAny_of_held (S := fun _ => True) _ _ _ _ ?_
                refine wpAnyH_ready (rs := [16]) (by kernel_rfl) (by simp) ?_
                refine AllReadyH.cons (o := _) rfl (fun K hK => ?_) ?_
                · -- pick
                  go_simp
                  refine hK.out _ _ trivial (fun _ => ?_)
                  clear hK K
                  try simp only [List.setIfInBounds_toArray, List.set_cons_zero, List.set_cons_succ]
                  refine wpAnyH_done (by kernel_rfl) ?_ _
                  have hM2 := OwnRow.below hM hSw
                  have hb2 := hb.trans (hSw.mono hb.size)
                  clear hSw hdr hM hb
                  generalize W = wr2 at hM2 hb2 ⊢
                  have hdr : Below wr2.heap.size wr2 wr2.drew := (Below.refl _ _).drew
                  go_wp2_with fail
                  refine wp_region_held_drew (S := (fun _ => True)) (by kernel_rfl) ?_ (fun hHeld => ?_)
                  · (try dsimp only)
                    try trivial
                  have hMW := OwnRow.below hM2 hdr
                  have hkW := hb2.trans (hdr.mono hb2.size)
                  generalize wr2.drew = W at hMW hkW ⊢
                  obtain ⟨a0, e0⟩ := OwnRow.cell hMW hM0 (j := 0) (u := .string (bA y.p)) rfl
                  obtain ⟨a1, e1⟩ := OwnRow.cell hMW hM0 (j := 1) (u := .int .i64 (rtN (y.c i) (y.c k))) rfl
                  obtain ⟨a2, e2⟩ := OwnRow.cell hMW hM0 (j := 2) (u := .int .i64 (rtD (y.c i) (y.c k))) rfl
                  obtain ⟨a3, e3⟩ := OwnRow.cell hMW hM0 (j := 3) (u := .int .i64 0) rfl
                  rw [Nat.add_zero] at a0 e0
                  obtain ⟨b0, f0⟩ := OwnRow.cell hMW hM1 (j := 0) (u := .string (bA x.p)) rfl
                  obtain ⟨b1, f1⟩ := OwnRow.cell hMW hM1 (j := 1) (u := .int .i64 (rtN (x.c i) (x.c k))) rfl
                  obtain ⟨b2, f2⟩ := OwnRow.cell hMW hM1 (j := 2) (u := .int .i64 (rtD (x.c i) (x.c k))) rfl
                  obtain ⟨b3, f3⟩ := OwnRow.cell hMW hM1 (j := 3) (u := .int .i64 0) rfl
                  rw [Nat.add_zero] at b0 f0
                  refine wpAnyH_take (i := 0) (oi := { dst := some 93, op := Op.move (Operand.tmp 11), type := 57, pos := "ref.go:359", after := #[], guard := none }) (v := ?_) rfl (by kernel_rfl) (by kernel_rfl) (by kernel_rfl) (fun _ _ _ h => h) (Or.inl ⟨by rfl, ?_⟩) (by assumption) ?_
                  rotate_left
                  · (intro w hSw; (try dsimp only at hSw); go_simp); all_goals (with_reducible rfl)
                  try simp only [Act.put, List.setIfInBounds_toArray, List.set_cons_zero, List.set_cons_succ]
                  refine wpAnyH_take (i := 1) (oi := { dst := some 94, op := Op.move (Operand.tmp 14), type := 3, pos := "ref.go:359", after := #[], guard := none }) (v := ?_) rfl (by kernel_rfl) (by kernel_rfl) (by kernel_rfl) (fun _ _ _ h => h) (Or.inl ⟨by rfl, ?_⟩) (by assumption) ?_
                  rotate_left
                  · (intro w hSw; (try dsimp only at hSw); go_simp); all_goals (with_reducible rfl)
                  try simp only [Act.put, List.setIfInBounds_toArray, List.set_cons_zero, List.set_cons_succ]
                  refine wpAnyH_take (i := 2) (oi := { dst := some 95, op := Op.move (Operand.tmp 11), type := 57, pos := "ref.go:359", after := #[{ on := 15, ground := Ground.gcOnly Departure.lateStores }], guard := none }) (v := ?_) rfl (by kernel_rfl) (by kernel_rfl) (by kernel_rfl) (fun _ _ _ h => h) (Or.inl ⟨by rfl, ?_⟩) (by assumption) ?_
                  rotate_left
                  · (intro w hSw; (try dsimp only at hSw); go_simp); all_goals (with_reducible rfl)
                  try simp only [Act.put, List.setIfInBounds_toArray, List.set_cons_zero, List.set_cons_succ]
                  refine wpAnyH_take (i := 3) (oi := { dst := some 96, op := Op.move (Operand.tmp 14), type := 3, pos := "ref.go:359", after := #[{ on := 15, ground := Ground.gcOnly Departure.lateStores }], guard := none }) (v := ?_) rfl (by kernel_rfl) (by kernel_rfl) (by kernel_rfl) (fun _ _ _ h => h) (Or.inl ⟨by rfl, ?_⟩) (by assumption) ?_
                  rotate_left
                  · (intro w hSw; (try dsimp only at hSw); go_simp); all_goals (with_reducible rfl)
                  try simp only [Act.put, List.setIfInBounds_toArray, List.set_cons_zero, List.set_cons_succ]
                  refine wpAnyH_take (i := 4) (oi := { dst := some 97, op := Op.binOp BinOp.sub 3 (Operand.tmp 96) (Operand.const (Value.int IntKind.i64 1)) 3, type := 3, pos := "ref.go:359", after := #[{ on := 3, ground := Ground.data }, { on := 15, ground := Ground.gcOnly Departure.lateStores }], guard := none }) (v := ?_) rfl (by kernel_rfl) (by kernel_rfl) (by kernel_rfl) (fun _ _ _ h => h) (Or.inl ⟨by rfl, ?_⟩) (by assumption) ?_
                  rotate_left
                  · (intro w hSw; (try dsimp only at hSw); go_simp); all_goals (with_reducible rfl)
                  try simp only [Act.put, List.setIfInBounds_toArray, List.set_cons_zero, List.set_cons_succ]
                  refine wpAnyH_take (i := 5) (oi := { dst := some 98, op := Op.move (Operand.tmp 11), type := 57, pos := "ref.go:359", after := #[], guard := none }) (v := ?_) rfl (by kernel_rfl) (by kernel_rfl) (by kernel_rfl) (fun _ _ _ h => h) (Or.inl ⟨by rfl, ?_⟩) (by assumption) ?_
                  rotate_left
                  · (intro w hSw; (try dsimp only at hSw); go_simp); all_goals (with_reducible rfl)
                  try simp only [Act.put, List.setIfInBounds_toArray, List.set_cons_zero, List.set_cons_succ]
                  refine wpAnyH_take (i := 6) (oi := { dst := some 99, op := Op.move (Operand.tmp 14), type := 3, pos := "ref.go:359", after := #[], guard := none }) (v := ?_) rfl (by kernel_rfl) (by kernel_rfl) (by kernel_rfl) (fun _ _ _ h => h) (Or.inl ⟨by rfl, ?_⟩) (by assumption) ?_
                  rotate_left
                  · (intro w hSw; (try dsimp only at hSw); go_simp); all_goals (with_reducible rfl)
                  try simp only [Act.put, List.setIfInBounds_toArray, List.set_cons_zero, List.set_cons_succ]
                  refine wpAnyH_take (i := 7) (oi := { dst := some 100, op := Op.binOp BinOp.sub 3 (Operand.tmp 99) (Operand.const (Value.int IntKind.i64 1)) 3, type := 3, pos := "ref.go:359", after := #[{ on := 6, ground := Ground.data }], guard := none }) (v := ?_) rfl (by kernel_rfl) (by kernel_rfl) (by kernel_rfl) (fun _ _ _ h => h) (Or.inl ⟨by rfl, ?_⟩) (by assumption) ?_
                  rotate_left
                  · (intro w hSw; (try dsimp only at hSw); go_simp); all_goals (with_reducible rfl)
                  try simp only [Act.put, List.setIfInBounds_toArray, List.set_cons_zero, List.set_cons_succ]
                  refine wpAnyH_take (i := 8) (oi := { dst := some 101, op := Op.indexAddr 57 (Operand.tmp 98) (Operand.tmp 100), type := 0, pos := "ref.go:359", after := #[{ on := 5, ground := Ground.data }, { on := 7, ground := Ground.data }], guard := none }) (v := ?_) rfl (by kernel_rfl) (by kernel_rfl) (by kernel_rfl) (fun _ _ _ h => h) (Or.inl ⟨by rfl, ?_⟩) (by assumption) ?_
                  rotate_left
                  · (intro w hSw; (try dsimp only at hSw); go_simp); all_goals (with_reducible rfl)
                  try simp only [Act.put, List.setIfInBounds_toArray, List.set_cons_zero, List.set_cons_succ]
                  refine wpAnyH_take (i := 10) (oi := { dst := some 103, op := Op.move (Operand.tmp 11), type := 57, pos := "ref.go:359", after := #[], guard := none }) (v := ?_) rfl (by kernel_rfl) (by kernel_rfl) (by kernel_rfl) (fun _ _ _ h => h) (Or.inl ⟨by rfl, ?_⟩) (by assumption) ?_
                  rotate_left
                  · (intro w hSw; (try dsimp only at hSw); go_simp); all_goals (with_reducible rfl)
                  try simp only [Act.put, List.setIfInBounds_toArray, List.set_cons_zero, List.set_cons_succ]
                  refine wpAnyH_take (i := 11) (oi := { dst := some 104, op := Op.move (Operand.tmp 14), type := 3, pos := "ref.go:359", after := #[], guard := none }) (v := ?_) rfl (by kernel_rfl) (by kernel_rfl) (by kernel_rfl) (fun _ _ _ h => h) (Or.inl ⟨by rfl, ?_⟩) (by assumption) ?_
                  rotate_left
                  · (intro w hSw; (try dsimp only at hSw); go_simp); all_goals (with_reducible rfl)
                  try simp only [Act.put, List.setIfInBounds_toArray, List.set_cons_zero, List.set_cons_succ]
                  refine wpAnyH_take (i := 12) (oi := { dst := some 105, op := Op.indexAddr 57 (Operand.tmp 103) (Operand.tmp 104), type := 0, pos := "ref.go:359", after := #[{ on := 10, ground := Ground.data }, { on := 11, ground := Ground.data }], guard := none }) (v := ?_) rfl (by kernel_rfl) (by kernel_rfl) (by kernel_rfl) (fun _ _ _ h => h) (Or.inl ⟨by rfl, ?_⟩) (by assumption) ?_
                  rotate_left
                  · (intro w hSw; (try dsimp only at hSw); go_simp); all_goals (with_reducible rfl)
                  try simp only [Act.put, List.setIfInBounds_toArray, List.set_cons_zero, List.set_cons_succ]
                  refine wpAnyH_ready (rs := [9, 13]) (by kernel_rfl) (by simp) ?_
                  refine AllReadyH.cons (o := _) rfl (fun K hK => ?_) ?_
                  · -- load
                    go_simp
                    refine hK.out _ _ ?_ (fun hHeld => ?_)
                    · (try dsimp only)
                      try trivial
                    clear hK K
                    try simp only [Act.put, List.setIfInBounds_toArray, List.set_cons_zero, List.set_cons_succ]
                    refine wpAnyH_ready (rs := [13]) (by kernel_rfl) (by simp) ?_
                    refine AllReadyH.cons (o := _) rfl (fun K hK => ?_) ?_
                    · -- load
                      go_simp
                      refine hK.out _ _ ?_ (fun hHeld => ?_)
                      · (try dsimp only)
                        try trivial
                      clear hK K
                      try simp only [Act.put, List.setIfInBounds_toArray, List.set_cons_zero, List.set_cons_succ]
                      refine wpAnyH_take (i := 14) (oi := { dst := some 107, op := Op.indexAddr 57 (Operand.tmp 93) (Operand.tmp 94), type := 0, pos := "ref.go:359", after := #[{ on := 0, ground := Ground.data }, { on := 1, ground := Ground.data }, { on := 0, ground := Ground.phase }, { on := 1, ground := Ground.phase }, { on := 2, ground := Ground.textOnly Departure.lateStores }, { on := 3, ground := Ground.textOnly Departure.lateStores }, { on := 4, ground := Ground.textOnly Departure.lateStores }, { on := 5, ground := Ground.phase }, { on := 6, ground := Ground.phase }, { on := 7, ground := Ground.phase }, { on := 8, ground := Ground.phase }, { on := 9, ground := Ground.phase }, { on := 10, ground := Ground.textOnly Departure.lateStores }, { on := 11, ground := Ground.textOnly Departure.lateStores }, { on := 12, ground := Ground.textOnly Departure.lateStoresUnsure }, { on := 13, ground := Ground.phase }], guard := none }) (v := ?_) rfl (by kernel_rfl) (by kernel_rfl) (by kernel_rfl) (fun _ _ _ h => h) (Or.inl ⟨by rfl, ?_⟩) (by assumption) ?_
                      rotate_left
                      · (intro w hSw; (try dsimp only at hSw); go_simp); all_goals (with_reducible rfl)
                      try simp only [Act.put, List.setIfInBounds_toArray, List.set_cons_zero, List.set_cons_succ]
                      refine wpAnyH_ready (rs := [15]) (by kernel_rfl) (by simp) ?_
                      refine AllReadyH.cons (o := _) rfl (fun K hK => ?_) ?_
                      · -- store
                        go_simp
                        refine hK.out _ _ ?_ (fun hHeld => ?_)
                        · (try dsimp only)
                          try trivial
                        clear hK K
                        try simp only [Act.put, List.setIfInBounds_toArray, List.set_cons_zero, List.set_cons_succ]
                        have hr1 : OwnRow (setN W g ((r + 1) * 4) (ldC0 i k y)) w.heap.size 62 4 (.slice (some ⟨g, 0, none⟩) M rc) (((L.take (r + 1) ++ x :: L.drop (r + 1)).map (ldC0 i k)).set (r + 1) (ldC0 i k y)) := OwnRow.writes (vs := ldC0 i k y) (j := 0) hMW hM1 (Nat.le_refl _)
                        have hM0' : (((L.take (r + 1) ++ x :: L.drop (r + 1)).map (ldC0 i k)).set (r + 1) (ldC0 i k y))[r]? = some (ldC0 i k y) := by rw [List.getElem?_set_ne (by omega)]; exact hM0
                        have hk1 : Below w.heap.size w (setN W g ((r + 1) * 4) (ldC0 i k y)) := Below.setN hbg hkW
                        refine castW (P := fun w => wpAnyH _ _ _ _ _ _ _ _ w) (w' := setN W g ((r + 1) * 4) (ldC0 i k y)) rfl ?_
                        clear a0 e0 b0 f0 a1 e1 b1 f1 a2 e2 b2 f2 a3 e3 b3 f3
                        generalize setN W g ((r + 1) * 4) (ldC0 i k y) = W9 at hr1 hk1 ⊢
                        obtain ⟨a0, f0⟩ := OwnRow.cell hr1 hM0' (j := 0) (u := .string (bA y.p)) rfl
                        obtain ⟨a1, f1⟩ := OwnRow.cell hr1 hM0' (j := 1) (u := .int .i64 (rtN (y.c i) (y.c k))) rfl
                        obtain ⟨a2, f2⟩ := OwnRow.cell hr1 hM0' (j := 2) (u := .int .i64 (rtD (y.c i) (y.c k))) rfl
                        obtain ⟨a3, f3⟩ := OwnRow.cell hr1 hM0' (j := 3) (u := .int .i64 0) rfl
                        rw [Nat.add_zero] at a0 f0
                        refine wpAnyH_take (i := 16) (oi := { dst := some 108, op := Op.indexAddr 57 (Operand.tmp 95) (Operand.tmp 97), type := 0, pos := "ref.go:359", after := #[{ on := 2, ground := Ground.data }, { on := 4, ground := Ground.data }, { on := 0, ground := Ground.phase }, { on := 1, ground := Ground.phase }, { on := 2, ground := Ground.phase }, { on := 3, ground := Ground.phase }, { on := 4, ground := Ground.phase }, { on := 5, ground := Ground.phase }, { on := 6, ground := Ground.phase }, { on := 7, ground := Ground.phase }, { on := 8, ground := Ground.phase }, { on := 9, ground := Ground.phase }, { on := 10, ground := Ground.phase }, { on := 11, ground := Ground.phase }, { on := 12, ground := Ground.phase }, { on := 13, ground := Ground.phase }, { on := 14, ground := Ground.phase }, { on := 15, ground := Ground.phase }], guard := none }) (v := ?_) rfl (by kernel_rfl) (by kernel_rfl) (by kernel_rfl) (fun _ _ _ h => h) (Or.inl ⟨by rfl, ?_⟩) (by assumption) ?_
                        rotate_left
                        · (intro w hSw; (try dsimp only at hSw); go_simp); all_goals (with_reducible rfl)
                        try simp only [Act.put, List.setIfInBounds_toArray, List.set_cons_zero, List.set_cons_succ]
                        refine wpAnyH_ready (rs := [17]) (by kernel_rfl) (by simp) ?_
                        refine AllReadyH.cons (o := _) rfl (fun K hK => ?_) ?_
                        · -- store
                          go_simp
                          refine hK.out _ _ ?_ (fun hHeld => ?_)
                          · (try dsimp only)
                            try trivial
                          clear hK K
                          try simp only [Act.put, List.setIfInBounds_toArray, List.set_cons_zero, List.set_cons_succ]
                          refine wpAnyH_done (by kernel_rfl) ?_ _
                          have hr2 : OwnRow (setN W9 g (r * 4) (ldC0 i k x)) w.heap.size 62 4 (.slice (some ⟨g, 0, none⟩) M rc) ((((L.take (r + 1) ++ x :: L.drop (r + 1)).map (ldC0 i k)).set (r + 1) (ldC0 i k y)).set r (ldC0 i k x)) := OwnRow.writes (vs := ldC0 i k x) (j := 0) hr1 hM0' (Nat.le_refl _)
                          have hfin : OwnRow (setN W9 g (r * 4) (ldC0 i k x)) w.heap.size 62 4 (.slice (some ⟨g, 0, none⟩) M rc) ((L.take r ++ x :: L.drop r).map (ldC0 i k)) := by
                            rw [← swap_list hy, List.map_set, List.map_set]
                            exact hr2
                          have hk2 : Below w.heap.size w (setN W9 g (r * 4) (ldC0 i k x)) := Below.setN hbg hk1
                          clear a0 f0 a1 f1 a2 f2 a3 f3 hr1 hr2
                          go_wp2_with fail
                          go_roundw
                          case rel => exact ⟨r, by omega, by go_num, hfin, hE2, hk2⟩
                          case measure => simp [numOf'] <;> omega
                        exact AllReadyH.nil
                      exact AllReadyH.nil
                    exact AllReadyH.nil
                  refine AllReadyH.cons (o := _) rfl (fun K hK => ?_) ?_
                  · -- load
                    go_simp
                    refine hK.out _ _ ?_ (fun hHeld => ?_)
                    · (try dsimp only)
                      try trivial
                    clear hK K
                    try simp only [Act.put, List.setIfInBounds_toArray, List.set_cons_zero, List.set_cons_succ]
                    refine wpAnyH_ready (rs := [9]) (by kernel_rfl) (by simp) ?_
                    refine AllReadyH.cons (o := _) rfl (fun K hK => ?_) ?_
                    · -- load
                      go_simp
                      refine hK.out _ _ ?_ (fun hHeld => ?_)
                      · (try dsimp only)
                        try trivial
                      clear hK K
                      try simp only [Act.put, List.setIfInBounds_toArray, List.set_cons_zero, List.set_cons_succ]
                      refine wpAnyH_take (i := 14) (oi := { dst := some 107, op := Op.indexAddr 57 (Operand.tmp 93) (Operand.tmp 94), type := 0, pos := "ref.go:359", after := #[{ on := 0, ground := Ground.data }, { on := 1, ground := Ground.data }, { on := 0, ground := Ground.phase }, { on := 1, ground := Ground.phase }, { on := 2, ground := Ground.textOnly Departure.lateStores }, { on := 3, ground := Ground.textOnly Departure.lateStores }, { on := 4, ground := Ground.textOnly Departure.lateStores }, { on := 5, ground := Ground.phase }, { on := 6, ground := Ground.phase }, { on := 7, ground := Ground.phase }, { on := 8, ground := Ground.phase }, { on := 9, ground := Ground.phase }, { on := 10, ground := Ground.textOnly Departure.lateStores }, { on := 11, ground := Ground.textOnly Departure.lateStores }, { on := 12, ground := Ground.textOnly Departure.lateStoresUnsure }, { on := 13, ground := Ground.phase }], guard := none }) (v := ?_) rfl (by kernel_rfl) (by kernel_rfl) (by kernel_rfl) (fun _ _ _ h => h) (Or.inl ⟨by rfl, ?_⟩) (by assumption) ?_
                      rotate_left
                      · (intro w hSw; (try dsimp only at hSw); go_simp); all_goals (with_reducible rfl)
                      try simp only [Act.put, List.setIfInBounds_toArray, List.set_cons_zero, List.set_cons_succ]
                      refine wpAnyH_ready (rs := [15]) (by kernel_rfl) (by simp) ?_
                      refine AllReadyH.cons (o := _) rfl (fun K hK => ?_) ?_
                      · -- store
                        go_simp
                        refine hK.out _ _ ?_ (fun hHeld => ?_)
                        · (try dsimp only)
                          try trivial
                        clear hK K
                        try simp only [Act.put, List.setIfInBounds_toArray, List.set_cons_zero, List.set_cons_succ]
                        have hr1 : OwnRow (setN W g ((r + 1) * 4) (ldC0 i k y)) w.heap.size 62 4 (.slice (some ⟨g, 0, none⟩) M rc) (((L.take (r + 1) ++ x :: L.drop (r + 1)).map (ldC0 i k)).set (r + 1) (ldC0 i k y)) := OwnRow.writes (vs := ldC0 i k y) (j := 0) hMW hM1 (Nat.le_refl _)
                        have hM0' : (((L.take (r + 1) ++ x :: L.drop (r + 1)).map (ldC0 i k)).set (r + 1) (ldC0 i k y))[r]? = some (ldC0 i k y) := by rw [List.getElem?_set_ne (by omega)]; exact hM0
                        have hk1 : Below w.heap.size w (setN W g ((r + 1) * 4) (ldC0 i k y)) := Below.setN hbg hkW
                        refine castW (P := fun w => wpAnyH _ _ _ _ _ _ _ _ w) (w' := setN W g ((r + 1) * 4) (ldC0 i k y)) rfl ?_
                        clear a0 e0 b0 f0 a1 e1 b1 f1 a2 e2 b2 f2 a3 e3 b3 f3
                        generalize setN W g ((r + 1) * 4) (ldC0 i k y) = W9 at hr1 hk1 ⊢
                        obtain ⟨a0, f0⟩ := OwnRow.cell hr1 hM0' (j := 0) (u := .string (bA y.p)) rfl
                        obtain ⟨a1, f1⟩ := OwnRow.cell hr1 hM0' (j := 1) (u := .int .i64 (rtN (y.c i) (y.c k))) rfl
                        obtain ⟨a2, f2⟩ := OwnRow.cell hr1 hM0' (j := 2) (u := .int .i64 (rtD (y.c i) (y.c k))) rfl
                        obtain ⟨a3, f3⟩ := OwnRow.cell hr1 hM0' (j := 3) (u := .int .i64 0) rfl
                        rw [Nat.add_zero] at a0 f0
                        refine wpAnyH_take (i := 16) (oi := { dst := some 108, op := Op.indexAddr 57 (Operand.tmp 95) (Operand.tmp 97), type := 0, pos := "ref.go:359", after := #[{ on := 2, ground := Ground.data }, { on := 4, ground := Ground.data }, { on := 0, ground := Ground.phase }, { on := 1, ground := Ground.phase }, { on := 2, ground := Ground.phase }, { on := 3, ground := Ground.phase }, { on := 4, ground := Ground.phase }, { on := 5, ground := Ground.phase }, { on := 6, ground := Ground.phase }, { on := 7, ground := Ground.phase }, { on := 8, ground := Ground.phase }, { on := 9, ground := Ground.phase }, { on := 10, ground := Ground.phase }, { on := 11, ground := Ground.phase }, { on := 12, ground := Ground.phase }, { on := 13, ground := Ground.phase }, { on := 14, ground := Ground.phase }, { on := 15, ground := Ground.phase }], guard := none }) (v := ?_) rfl (by kernel_rfl) (by kernel_rfl) (by kernel_rfl) (fun _ _ _ h => h) (Or.inl ⟨by rfl, ?_⟩) (by assumption) ?_
                        rotate_left
                        · (intro w hSw; (try dsimp only at hSw); go_simp); all_goals (with_reducible rfl)
                        try simp only [Act.put, List.setIfInBounds_toArray, List.set_cons_zero, List.set_cons_succ]
                        refine wpAnyH_ready (rs := [17]) (by kernel_rfl) (by simp) ?_
                        refine AllReadyH.cons (o := _) rfl (fun K hK => ?_) ?_
                        · -- store
                          go_simp
                          refine hK.out _ _ ?_ (fun hHeld => ?_)
                          · (try dsimp only)
                            try trivial
                          clear hK K
                          try simp only [Act.put, List.setIfInBounds_toArray, List.set_cons_zero, List.set_cons_succ]
                          refine wpAnyH_done (by kernel_rfl) ?_ _
                          have hr2 : OwnRow (setN W9 g (r * 4) (ldC0 i k x)) w.heap.size 62 4 (.slice (some ⟨g, 0, none⟩) M rc) ((((L.take (r + 1) ++ x :: L.drop (r + 1)).map (ldC0 i k)).set (r + 1) (ldC0 i k y)).set r (ldC0 i k x)) := OwnRow.writes (vs := ldC0 i k x) (j := 0) hr1 hM0' (Nat.le_refl _)
                          have hfin : OwnRow (setN W9 g (r * 4) (ldC0 i k x)) w.heap.size 62 4 (.slice (some ⟨g, 0, none⟩) M rc) ((L.take r ++ x :: L.drop r).map (ldC0 i k)) := by
                            rw [← swap_list hy, List.map_set, List.map_set]
                            exact hr2
                          have hk2 : Below w.heap.size w (setN W9 g (r * 4) (ldC0 i k x)) := Below.setN hbg hk1
                          clear a0 f0 a1 f1 a2 f2 a3 f3 hr1 hr2
                          go_wp2_with fail
                          go_roundw
                          case rel => exact ⟨r, by omega, by go_num, hfin, hE2, hk2⟩
                          case measure => simp [numOf'] <;> omega
                        exact AllReadyH.nil
                      exact AllReadyH.nil
                    exact AllReadyH.nil
                  exact AllReadyH.nil
                exact AllReadyH.nil
              · have HIN := Lib.hid (ins_ok (q := r + 1) HFS.out.1 HFS.out.2 HSS.out.1 HSS.out.2 HX.out (by rw [HLL.out.2.1]; exact hq) (fun a _ ha => by
                  rw [Nat.add_sub_cancel, hSy] at ha
                  cases ha
                  exact Classical.byContradiction fun hn => hR (HLOW.out.2 hn)) hBq)
                clear hE hBq hSL hSy HLOW
                go_wp2_with fail
                refine wp_region_quiet_to (C := (fun W => Below wr.heap.size wr W)) 16 1 #[true, true, true, true, true, true, true, true, true, true, true, true, true, true, true, true, false] (by kernel_rfl) (by kernel_rfl) ?_ ?_
                · (try dsimp only)
                  exact hdr
                simp only [List.take_succ_cons, List.take_zero]
                with_reducible refine quiet_take (v := ?_) ?_ ?_ ?_
                rotate_left
                · rfl
                · (intro w hSw; (try dsimp only at hSw); go_simp); all_goals (with_reducible rfl)
                try simp only [Act.put, List.setIfInBounds_toArray, List.set_cons_zero, List.set_cons_succ]
                with_reducible refine quiet_take (v := .bool true) ?_ ?_ ?_
                · rfl
                · (intro w hSw; go_simp; first | done | omega | (simp; omega))
                try simp only [Act.put, List.setIfInBounds_toArray, List.set_cons_zero, List.set_cons_succ]
                with_reducible refine quiet_take (v := ?_) ?_ ?_ ?_
                rotate_left
                · rfl
                · (intro w hSw; (try dsimp only at hSw); go_simp); all_goals (with_reducible rfl)
                try simp only [Act.put, List.setIfInBounds_toArray, List.set_cons_zero, List.set_cons_succ]
                with_reducible refine quiet_take (v := ?_) ?_ ?_ ?_
                rotate_left
                · rfl
                · (intro w hSw; (try dsimp only at hSw); go_simp); all_goals (with_reducible rfl)
                try simp only [Act.put, List.setIfInBounds_toArray, List.set_cons_zero, List.set_cons_succ]
                with_reducible refine quiet_take (v := ?_) ?_ ?_ ?_
                rotate_left
                · rfl
                · (intro w hSw; (try dsimp only at hSw); go_simp); all_goals (with_reducible rfl)
                try simp only [Act.put, List.setIfInBounds_toArray, List.set_cons_zero, List.set_cons_succ]
                with_reducible refine quiet_take (v := ?_) ?_ ?_ ?_
                rotate_left
                · rfl
                · (intro w hSw; (try dsimp only at hSw); go_simp); all_goals (with_reducible rfl)
                try simp only [Act.put, List.setIfInBounds_toArray, List.set_cons_zero, List.set_cons_succ]
                with_reducible refine quiet_take (v := ?_) ?_ ?_ ?_
                rotate_left
                · rfl
                · (intro w hSw; (try dsimp only at hSw); go_simp); all_goals (with_reducible rfl)
                try simp only [Act.put, List.setIfInBounds_toArray, List.set_cons_zero, List.set_cons_succ]
                with_reducible refine quiet_take (v := ?_) ?_ ?_ ?_
                rotate_left
                · rfl
                · (intro w hSw; have a0 := (OwnRow.cell (OwnRow.below hM hSw) hM1 (j := 0) (u := .string (bA x.p)) rfl).1; have a1 := (OwnRow.cell (OwnRow.below hM hSw) hM1 (j := 1) (u := .int .i64 (rtN (x.c i) (x.c k))) rfl).1; have a2 := (OwnRow.cell (OwnRow.below hM hSw) hM1 (j := 2) (u := .int .i64 (rtD (x.c i) (x.c k))) rfl).1; have a3 := (OwnRow.cell (OwnRow.below hM hSw) hM1 (j := 3) (u := .int .i64 0) rfl).1; rw [Nat.add_zero] at a0; (try dsimp only at hSw); go_simp); all_goals (with_reducible rfl)
                try simp only [Act.put, List.setIfInBounds_toArray, List.set_cons_zero, List.set_cons_succ]
                with_reducible refine quiet_take (v := ?_) ?_ ?_ ?_
                rotate_left
                · rfl
                · (intro w hSw; (try dsimp only at hSw); go_simp); all_goals (with_reducible rfl)
                try simp only [Act.put, List.setIfInBounds_toArray, List.set_cons_zero, List.set_cons_succ]
                with_reducible refine quiet_take (v := ?_) ?_ ?_ ?_
                rotate_left
                · rfl
                · (intro w hSw; (try dsimp only at hSw); go_simp); all_goals (with_reducible rfl)
                try simp only [Act.put, List.setIfInBounds_toArray, List.set_cons_zero, List.set_cons_succ]
                with_reducible refine quiet_take (v := ?_) ?_ ?_ ?_
                rotate_left
                · rfl
                · (intro w hSw; (try dsimp only at hSw); go_simp); all_goals (with_reducible rfl)
                try simp only [Act.put, List.setIfInBounds_toArray, List.set_cons_zero, List.set_cons_succ]
                with_reducible refine quiet_take (v := ?_) ?_ ?_ ?_
                rotate_left
                · rfl
                · (intro w hSw; (try dsimp only at hSw); go_simp); all_goals (with_reducible rfl)
                try simp only [Act.put, List.setIfInBounds_toArray, List.set_cons_zero, List.set_cons_succ]
                with_reducible refine quiet_take (v := ?_) ?_ ?_ ?_
                rotate_left
                · rfl
                · (intro w hSw; (try dsimp only at hSw); go_simp); all_goals (with_reducible rfl)
                try simp only [Act.put, List.setIfInBounds_toArray, List.set_cons_zero, List.set_cons_succ]
                with_reducible refine quiet_take (v := ?_) ?_ ?_ ?_
                rotate_left
                · rfl
                · (intro w hSw; have b0 := (OwnRow.cell (OwnRow.below hM hSw) hM0 (j := 0) (u := .string (bA y.p)) rfl).1; have b1 := (OwnRow.cell (OwnRow.below hM hSw) hM0 (j := 1) (u := .int .i64 (rtN (y.c i) (y.c k))) rfl).1; have b2 := (OwnRow.cell (OwnRow.below hM hSw) hM0 (j := 2) (u := .int .i64 (rtD (y.c i) (y.c k))) rfl).1; have b3 := (OwnRow.cell (OwnRow.below hM hSw) hM0 (j := 3) (u := .int .i64 0) rfl).1; rw [Nat.add_zero] at b0; (try dsimp only at hSw); go_simp); all_goals (with_reducible rfl)
                try simp only [Act.put, List.setIfInBounds_toArray, List.set_cons_zero, List.set_cons_succ]
                with_reducible refine quiet_call (f := 108) (args := ?_) (v := .int .i64 R) ?_ ?_ ?_ ?_
                rotate_left
                · rfl
                · (intro w hSw; (try dsimp only at hSw); go_simp); all_goals (with_reducible rfl)
                · (intro W hSw); exact (cC W).mono fun e w' ⟨h1, h2⟩ => ⟨h1, hSw.trans (h2.mono hSw.size)⟩
                try simp only [Act.put, List.setIfInBounds_toArray, List.set_cons_zero, List.set_cons_succ]
                with_reducible refine quiet_take (v := ?_) ?_ ?_ ?_
                rotate_left
                · rfl
                · (intro w hSw; (try dsimp only at hSw); go_simp); all_goals (with_reducible rfl)
                try simp only [Act.put, List.setIfInBounds_toArray, List.set_cons_zero, List.set_cons_succ]
                refine wpQuiet_nil ?_
                intro W hSw
                refine wpAny_of_held (S := fun _ => True) _ _ _ _ ?_
                refine wpAnyH_ready (rs := [16]) (by kernel_rfl) (by simp) ?_
                refine AllReadyH.cons (o := _) rfl (fun K hK => ?_) ?_
                · -- pick
                  go_simp
                  refine hK.out _ _ trivial (fun _ => ?_)
                  clear hK K
                  try simp only [List.setIfInBounds_toArray, List.set_cons_zero, List.set_cons_succ]
                  refine wpAnyH_done (by kernel_rfl) ?_ _
                  have hM9 := OwnRow.below hM hSw
                  have hb9 := hb.trans (hSw.mono hb.size)
                  have hM9 : OwnRow W w.heap.size 62 4 (.slice (some ⟨g, 0, none⟩) M rc) (((S.take (r + 1) ++ x :: S.drop (r + 1)) ++ F.drop (p + 1)).map (ldC0 i k)) := by
                    have e1 : L.take (r + 1) = S.take (r + 1) := by rw [← HLL.out.1, List.take_append_of_le_length (by rw [HLL.out.2.1]; omega)]
                    have e2 : L.drop (r + 1) = S.drop (r + 1) ++ F.drop (p + 1) := by rw [← HLL.out.1, List.drop_append_of_le_length (by rw [HLL.out.2.1]; omega)]
                    rw [e1, e2] at hM9
                    rw [List.append_assoc, List.cons_append]
                    exact hM9
                  clear hSw hM hdr hb
                  go_wp2_with fail
                  go_roundw
                  case rel => exact ⟨p + 1, S.take (r + 1) ++ x :: S.drop (r + 1), by omega, by omega, by go_num, HIN.out.1, HIN.out.2, hM9, hb9⟩
                  case measure => simp [numOf'] <;> omega
                exact AllReadyH.nil
        · have hfin : ∃ S', S'.Perm F ∧ SortL i k S' ∧ OwnRow wr w.heap.size 62 4 (.slice ra M rc) (S'.map (ldC0 i k)) ∧ Below w.heap.size w wr := by
            refine ⟨S, ?_, hSs, ?_, hb⟩
            · rw [List.take_of_length_le (by rw [HM.out]; omega)] at hSp; exact hSp
            · rw [List.drop_eq_nil_of_le (by rw [HM.out]; omega), List.append_nil] at hrow; exact hrow
          have HFIN := Lib.hid hfin
          have hpp : ¬ (p : Int) < (M : Int) := by omega
          clear hSp hSs hrow hfin
          go_wp2_with fail
          go_meet
          exact HFIN.out
    case rest =>
      obtain ⟨S, hSp, hSs, hrow, hb⟩ := hcut
      generalize wc = W2 at hrow hb ⊢
      clear hrowA hbA
      have hSM : S.length = M := by rw [hSp.length_eq, HM.out]
      have HSS := Lib.hid (And.intro hSp (And.intro hSs hSM))
      have hposS := Lib.hid (show ∀ x ∈ S, PosB i k x from fun x hx => HFS.out.2 x (hSp.subset hx))
      have hfin : Hid (∀ (W : World) (u : Value), OwnRow W W2.heap.size 62 4 u ((outL i k n.toNat S M).map (ldC i k)) → LdOk W w.heap.size 62 u t i k least n) := Lib.hid fun W u hr => ⟨S, by rw [HFF.out]; exact hSp, hSs, by rw [hSM]; exact OwnRow.mono hr hb.size⟩
      have hrow0 : OwnRow W2 w.heap.size 62 4 (.slice ra M rc) ((plc i k S M 0).map (ldC i k)) := by
        have hr := hrow
        rw [← plc_zero, hSM] at hr
        exact hr
      have hout0 : OwnRow W2 W2.heap.size 62 4 (.slice none 0 0) ((outL i k n.toNat S 0).map (ldC i k)) := OwnRow.start _ _ _ _
      have hgl : ∀ q, (Value.slice ra M rc).ownBlock = some q → w.heap.size ≤ q ∧ q < W2.heap.size := fun q hq => OwnRow.lt hrow q hq
      have hsz2 := hb.size
      clear hSp hSs hSM hrow
      go_wp2_with fail
      go_loopw [15, 16] (fun s15 s16 wr => ∃ j : Nat, j ≤ M ∧ s16 = .int .i64 j ∧ OwnRow wr w.heap.size 62 4 (.slice ra M rc) ((plc i k S M j).map (ldC i k)) ∧ OwnRow wr W2.heap.size 62 4 s15 ((outL i k n.toNat S j).map (ldC i k)) ∧ Below w.heap.size w wr ∧ W2.heap.size ≤ wr.heap.size) (fun _ s16 _ => M - (numOf' s16).toNat)
      case atStart => exact ⟨0, Nat.zero_le _, rfl, hrow0, hout0, hb, Nat.le_refl _⟩
      case round =>
        clear hrow0 hout0 hb
        obtain ⟨j, hj, rfl, hA, hO, hb, hsz⟩ := hrel
        by_cases hjM : j < M
        · obtain ⟨x, hx⟩ : ∃ x, atL S j = x := ⟨_, rfl⟩
          have hxS : x ∈ S := by rw [← hx]; exact atL_mem (by rw [HSS.out.2.2]; exact hjM)
          have hpx := Lib.hid (hposS.out x hxS)
          have hpl : ((plc i k S M j).map (ldC i k)).length = M := by rw [List.length_map, plc_len]
          obtain ⟨g, cap, eo, hbg, -⟩ := OwnRow.own hA (i := j) (by rw [hpl]; exact hjM)
          rw [hpl] at eo
          simp only [Value.slice.injEq, true_and] at eo
          obtain ⟨rfl, rfl⟩ := eo
          have hg2 : g < W2.heap.size := (hgl g rfl).2
          have hA0 : ((plc i k S M j).map (ldC i k))[j]? = some (ldC i k (x, 0)) := by rw [List.getElem?_map, plc_at hjM, if_neg (Nat.lt_irrefl _), hx]; rfl
          obtain ⟨c3, f3⟩ := OwnRow.cell hA hA0 (j := 3) (u := .int .i64 0) rfl
          have hA1 : OwnRow (wr.setCell ⟨g, j * 4 + 3, none⟩ (.int .i64 1)) w.heap.size 62 4 (.slice (some ⟨g, 0, none⟩) M rc) (((plc i k S M j).set j (x, 1 + cntB i k S x 0)).map (ldC i k)) := by
            have := OwnRow.write hA hA0 (j := 3) (by decide) (.int .i64 1)
            rw [List.map_set]
            exact this
          have hO1 := OwnRow.setOther hO hg2 (j * 4 + 3) (.int .i64 1)
          have hb1 := hb.setCell (p := ⟨g, j * 4 + 3, none⟩) hbg (.int .i64 1)
          have hz1 : W2.heap.size ≤ (wr.setCell ⟨g, j * 4 + 3, none⟩ (.int .i64 1)).heap.size := by simpa using hsz
          have hjj : (j : Int) < (M : Int) := by omega
          clear hA hO hb hsz hA0 hpl
          go_wp2_with fail
          clear c3 f3
          generalize wr.setCell ⟨g, j * 4 + 3, none⟩ (.int .i64 1) = W3 at hA1 hO1 hb1 hz1 ⊢
          go_loopw [17] (fun s17 wx => ∃ c : Nat, c ≤ M ∧ s17 = .int .i64 c ∧ OwnRow wx w.heap.size 62 4 (.slice (some ⟨g, 0, none⟩) M rc) (((plc i k S M j).set j (x, 1 + cntB i k S x c)).map (ldC i k)) ∧ OwnRow wx W2.heap.size 62 4 u15 ((outL i k n.toNat S j).map (ldC i k)) ∧ Below w.heap.size w wx ∧ W2.heap.size ≤ wx.heap.size) (fun s17 _ => M - (numOf' s17).toNat)
          case atStart => exact ⟨0, Nat.zero_le _, rfl, hA1, hO1, hb1, hz1⟩
          case round =>
            clear hA1 hO1 hb1 hz1
            obtain ⟨c, hc, rfl, hA, hO, hb, hsz⟩ := hrel
            have hAj : (((plc i k S M j).set j (x, 1 + cntB i k S x c)).map (ldC i k))[j]? = some (ldC i k (x, 1 + cntB i k S x c)) := by rw [List.getElem?_map, List.getElem?_set_self (by rw [plc_len]; exact hjM)]; rfl
            by_cases hcM : c < M
            · obtain ⟨y, hy⟩ : ∃ y, atL S c = y := ⟨_, rfl⟩
              have hyS : y ∈ S := by rw [← hy]; exact atL_mem (by rw [HSS.out.2.2]; exact hcM)
              have hpy := hposS.out y hyS
              obtain ⟨pc, hAc⟩ : ∃ pc, (((plc i k S M j).set j (x, 1 + cntB i k S x c)).map (ldC i k))[c]? = some (ldC i k (y, pc)) := by
                by_cases hcj : c = j
                · subst hcj
                  rw [hx] at hy
                  subst hy
                  exact ⟨_, hAj⟩
                · exact ⟨_, by rw [List.getElem?_map, List.getElem?_set_ne (fun e => hcj e.symm), plc_at hcM, hy]; rfl⟩
              have cC := cmpR_w (rtN (y.c i) (y.c k)) (rtD (y.c i) (y.c k)) (rtN (x.c i) (x.c k)) (rtD (x.c i) (x.c k)) (mul_rB hpy.low.1 hpx.out.low.2) (mul_rB hpx.out.low.1 hpy.low.2)
              have hlow := cmp_low (i := i) (k := k) hpy.pos hpx.out.pos
              obtain ⟨R, hRR⟩ : ∃ R, cmpI (rtN (y.c i) (y.c k) * rtD (x.c i) (x.c k)) (rtN (x.c i) (x.c k) * rtD (y.c i) (y.c k)) = R := ⟨_, rfl⟩
              rw [hRR] at cC hlow
              have hstep : cntB i k S x (c + 1) = cntB i k S x c + if 0 < R then 1 else 0 := by
                rw [cntB, hy]
                by_cases hR : 0 < R
                · rw [if_pos hR, if_pos (betR_iff.2 (hlow.1 hR))]
                · rw [if_neg hR, if_neg (fun h => hR (hlow.2 (betR_iff.1 h)))]
              have HST := Lib.hid hstep
              have hcc : (c : Int) < (M : Int) := by omega
              have hdr : Below wr.heap.size wr wr.drew := (Below.refl _ _).drew
              clear hRR hlow hstep hpy hyS hy
              go_wp2_with fail
              refine wp_region_quiet_to (C := (fun W => Below wr.heap.size wr W)) 11 1 #[true, true, true, true, true, true, true, true, true, true, true, false] (by kernel_rfl) (by kernel_rfl) ?_ ?_
              · (try dsimp only)
                exact hdr
              simp only [List.take_succ_cons, List.take_zero]
              with_reducible refine quiet_take (v := ?_) ?_ ?_ ?_
              rotate_left
              · rfl
              · (intro w hSw; (try dsimp only at hSw); go_simp); all_goals (with_reducible rfl)
              try simp only [Act.put, List.setIfInBounds_toArray, List.set_cons_zero, List.set_cons_succ]
              with_reducible refine quiet_take (v := ?_) ?_ ?_ ?_
              rotate_left
              · rfl
              · (intro w hSw; (try dsimp only at hSw); go_simp); all_goals (with_reducible rfl)
              try simp only [Act.put, List.setIfInBounds_toArray, List.set_cons_zero, List.set_cons_succ]
              with_reducible refine quiet_take (v := ?_) ?_ ?_ ?_
              rotate_left
              · rfl
              · (intro w hSw; (try dsimp only at hSw); go_simp); all_goals (with_reducible rfl)
              try simp only [Act.put, List.setIfInBounds_toArray, List.set_cons_zero, List.set_cons_succ]
              with_reducible refine quiet_take (v := ?_) ?_ ?_ ?_
              rotate_left
              · rfl
              · (intro w hSw; (try dsimp only at hSw); go_simp); all_goals (with_reducible rfl)
              try simp only [Act.put, List.setIfInBounds_toArray, List.set_cons_zero, List.set_cons_succ]
              with_reducible refine quiet_take (v := ?_) ?_ ?_ ?_
              rotate_left
              · rfl
              · (intro w hSw; have p1 := (OwnRow.cell (OwnRow.below hA hSw) hAc (j := 1) (u := .int .i64 (rtN (y.c i) (y.c k))) rfl).1; have p2 := (OwnRow.cell (OwnRow.below hA hSw) hAc (j := 2) (u := .int .i64 (rtD (y.c i) (y.c k))) rfl).1; (try dsimp only at hSw); go_simp); all_goals (with_reducible rfl)
              try simp only [Act.put, List.setIfInBounds_toArray, List.set_cons_zero, List.set_cons_succ]
              with_reducible refine quiet_take (v := ?_) ?_ ?_ ?_
              rotate_left
              · rfl
              · (intro w hSw; (try dsimp only at hSw); go_simp); all_goals (with_reducible rfl)
              try simp only [Act.put, List.setIfInBounds_toArray, List.set_cons_zero, List.set_cons_succ]
              with_reducible refine quiet_take (v := ?_) ?_ ?_ ?_
              rotate_left
              · rfl
              · (intro w hSw; (try dsimp only at hSw); go_simp); all_goals (with_reducible rfl)
              try simp only [Act.put, List.setIfInBounds_toArray, List.set_cons_zero, List.set_cons_succ]
              with_reducible refine quiet_take (v := ?_) ?_ ?_ ?_
              rotate_left
              · rfl
              · (intro w hSw; (try dsimp only at hSw); go_simp); all_goals (with_reducible rfl)
              try simp only [Act.put, List.setIfInBounds_toArray, List.set_cons_zero, List.set_cons_succ]
              with_reducible refine quiet_take (v := ?_) ?_ ?_ ?_
              rotate_left
              · rfl
              · (intro w hSw; (try dsimp only at hSw); go_simp); all_goals (with_reducible rfl)
              try simp only [Act.put, List.setIfInBounds_toArray, List.set_cons_zero, List.set_cons_succ]
              with_reducible refine quiet_take (v := ?_) ?_ ?_ ?_
              rotate_left
              · rfl
              · (intro w hSw; have r1 := (OwnRow.cell (OwnRow.below hA hSw) hAj (j := 1) (u := .int .i64 (rtN (x.c i) (x.c k))) rfl).1; have r2 := (OwnRow.cell (OwnRow.below hA hSw) hAj (j := 2) (u := .int .i64 (rtD (x.c i) (x.c k))) rfl).1; (try dsimp only at hSw); go_simp); all_goals (with_reducible rfl)
              try simp only [Act.put, List.setIfInBounds_toArray, List.set_cons_zero, List.set_cons_succ]
              with_reducible refine quiet_call (f := 108) (args := ?_) (v := .int .i64 R) ?_ ?_ ?_ ?_
              rotate_left
              · rfl
              · (intro w hSw; (try dsimp only at hSw); go_simp); all_goals (with_reducible rfl)
              · (intro W hSw); exact (cC W).mono fun e w' ⟨h1, h2⟩ => ⟨h1, hSw.trans (h2.mono hSw.size)⟩
              try simp only [Act.put, List.setIfInBounds_toArray, List.set_cons_zero, List.set_cons_succ]
              refine wpQuiet_nil ?_
              intro W hSw
              refine wpAny_of_held (S := fun _ => True) _ _ _ _ ?_
              refine wpAnyH_ready (rs := [11]) (by kernel_rfl) (by simp) ?_
              refine AllReadyH.cons (o := _) rfl (fun K hK => ?_) ?_
              · -- binOp
                go_simp
                refine hK.out _ _ trivial (fun _ => ?_)
                clear hK K
                try simp only [List.setIfInBounds_toArray, List.set_cons_zero, List.set_cons_succ]
                refine wpAnyH_done (by kernel_rfl) ?_ _
                have hA2 := OwnRow.below hA hSw
                have hO2 := OwnRow.below hO hSw
                have hb2 := hb.trans (hSw.mono hb.size)
                have hz2 := Nat.le_trans hsz hSw.size
                obtain ⟨c3, f3⟩ := OwnRow.cell hA2 hAj (j := 3) (u := .int .i64 ((1 + cntB i k S x c : Nat) : Int)) rfl
                clear hA hO hb hsz hSw hdr hAc
                by_cases hR : 0 < R
                · have hA3 : OwnRow (W.setCell ⟨g, j * 4 + 3, none⟩ (.int .i64 ((1 + cntB i k S x (c + 1) : Nat) : Int))) w.heap.size 62 4 (.slice (some ⟨g, 0, none⟩) M rc) (((plc i k S M j).set j (x, 1 + cntB i k S x (c + 1))).map (ldC i k)) := by
                    have := OwnRow.write hA2 hAj (j := 3) (by decide) (.int .i64 ((1 + cntB i k S x (c + 1) : Nat) : Int))
                    rw [List.map_set] at this ⊢
                    rw [List.set_set] at this
                    exact this
                  have hcl : cntB i k S x (c + 1) ≤ 20000 := Nat.le_trans (cntB_le _ _ _ _ _) (by omega)
                  have HV9 : Hid (((1 + cntB i k S x (c + 1) : Nat) : Int) = wrap64 (((1 + cntB i k S x c : Nat) : Int) + 1)) := Lib.hid (by have := HST.out; rw [if_pos hR] at this; unfold wrap64; omega)
                  rw [HV9.out] at hA3
                  obtain ⟨v0, hv0⟩ : ∃ v, ((1 + cntB i k S x c : Nat) : Int) = v := ⟨_, rfl⟩
                  rw [hv0] at c3 hA3
                  have hO3 := OwnRow.setOther hO2 hg2 (j * 4 + 3) (.int .i64 (wrap64 (v0 + 1)))
                  have hb3 := hb2.setCell (p := ⟨g, j * 4 + 3, none⟩) hbg (.int .i64 (wrap64 (v0 + 1)))
                  have hz3 : W2.heap.size ≤ (W.setCell ⟨g, j * 4 + 3, none⟩ (.int .i64 (wrap64 (v0 + 1)))).heap.size := by simpa using hz2
                  clear hA2 hO2 hb2 hz2 hAj HST hcl HV9 hv0
                  go_wp2_with fail
                  go_roundw
                  case rel => exact ⟨c + 1, by omega, by go_num, hA3, hO3, hb3, hz3⟩
                  case measure => simp [numOf'] <;> omega
                · have hst : cntB i k S x (c + 1) = cntB i k S x c := by
                    have h1 := HST.out
                    have h2 : ¬ 0 < R := by omega
                    rw [if_neg h2] at h1
                    omega
                  rw [← hst] at hA2
                  clear c3 f3 hAj HST hst
                  go_wp2_with fail
                  go_roundw
                  case rel => exact ⟨c + 1, by omega, by go_num, hA2, hO2, hb2, hz2⟩
                  case measure => simp [numOf'] <;> omega
              exact AllReadyH.nil
            · obtain rfl : c = M := by omega
              have hpl : 1 + cntB i k S x c = plP i k S j := by
                have := plP_cnt HSS.out.2.1 (fun t ht => (hposS.out t ht).pos) (j := j) (by rw [HSS.out.2.2]; exact hjM)
                rw [this, hx, HSS.out.2.2, Nat.add_comm]
              rw [hpl] at hA hAj
              rw [plc_next hjM hx] at hA
              obtain ⟨pl, hpl2⟩ : ∃ p, plP i k S j = p := ⟨_, rfl⟩
              rw [hpl2] at hAj
              rw [← plc_next (i := i) (k := k) hjM hx, hpl2] at hA
              obtain ⟨c0, -⟩ := OwnRow.cell hA hAj (j := 0) (u := .string (bA x.p)) rfl
              obtain ⟨c1, -⟩ := OwnRow.cell hA hAj (j := 1) (u := .int .i64 (rtN (x.c i) (x.c k))) rfl
              obtain ⟨c2, -⟩ := OwnRow.cell hA hAj (j := 2) (u := .int .i64 (rtD (x.c i) (x.c k))) rfl
              obtain ⟨c3, -⟩ := OwnRow.cell hA hAj (j := 3) (u := .int .i64 (pl : Int)) rfl
              rw [Nat.add_zero] at c0
              have HA := Lib.hid (show OwnRow wr w.heap.size 62 4 (.slice (some ⟨g, 0, none⟩) c rc) ((plc i k S c (j + 1)).map (ldC i k)) by rw [← plc_next (i := i) (k := k) hjM hx, hpl2]; exact hA)
              have hcc : ¬ (c : Int) < (c : Int) := by omega
              clear hA hAj hpl
              by_cases hle : pl ≤ n.toNat
              · have hle' : (pl : Int) ≤ n := by omega
                have HNX : Hid (outL i k n.toNat S (j + 1) = outL i k n.toNat S j ++ [(x, pl)]) := Lib.hid (by rw [outL, hpl2, if_pos hle, hx])
                have hal := fun o => (Below.refl wr.heap.size wr).alloc (Nat.le_refl _) o
                have hol : (outL i k n.toNat S j).length ≤ 10000 := Nat.le_trans outL_len (by omega)
                clear hle hpl2
                go_wp2_with (first
                  | (with_reducible refine haltR ?_)
                  | fail)
                unfold Halt
                clear c0 c1 c2 c3
                refine wpList_sliceR (fun w => run_sliceLdR w (.string (bA x.p)) (.int .i64 (rtN (x.c i) (x.c k))) (.int .i64 (rtD (x.c i) (x.c k))) (.int .i64 (pl : Int))) _ rfl _ rfl rfl ?_
                refine wpList_appendR HTL.out _ rfl _ _ rfl W2.heap.size _ ((outL i k n.toNat S j).map (ldC i k)) _ rfl 1 rfl (OwnRow.below hO (hal _)) (by rw [List.length_map]; omega) (ldC i k (x, pl)) (ldC_len _ _ _) (by simp [ldC, Value.oneCell']) ?hat ?c2 ?_
                case hat => exact at_new _ _ _
                case c2 => exact Nat.le_trans hsz (hal _).size
                intro a9 k9 c9 w9 hAp
                have hO9 : OwnRow w9 W2.heap.size 62 4 (.slice a9 k9 c9) ((outL i k n.toNat S (j + 1)).map (ldC i k)) := by
                  rw [HNX.out, List.map_append]
                  exact hAp.row
                have hb9 := hAp.below w (hb.trans ((hal _).mono hb.size)) hsz2
                have hA9 : OwnRow w9 w.heap.size 62 4 (.slice (some ⟨g, 0, none⟩) c rc) ((plc i k S c (j + 1)).map (ldC i k)) := OwnRow.sameBlock (OwnRow.below HA.out (hal _)) (fun q hq => by
                  cases hq
                  exact hAp.old g hg2 (Nat.lt_of_lt_of_le hg2 (Nat.le_trans hsz (hal _).size)))
                have hz9 : W2.heap.size ≤ w9.heap.size := Nat.le_trans (Nat.le_trans hsz (hal _).size) hAp.size
                clear hAp hO hb hal HA
                go_wp2_with fail
                go_roundw
                case rel => exact ⟨j + 1, by omega, by go_num, hA9, hO9, hb9, hz9⟩
                case measure => simp [numOf'] <;> omega
              · have hle' : ¬ (pl : Int) ≤ n := by omega
                have hO9 : OwnRow wr W2.heap.size 62 4 u15 ((outL i k n.toNat S (j + 1)).map (ldC i k)) := by
                  rw [outL, hpl2, if_neg hle]
                  exact hO
                clear hO hpl2
                go_wp2_with fail
                go_roundw
                case rel => exact ⟨j + 1, by omega, by go_num, HA.out, hO9, hb, hsz⟩
                case measure => simp [numOf'] <;> omega
        · obtain rfl : j = M := by omega
          have HF := Lib.hid (hfin.out wr u15 hO)
          have hjj : ¬ (j : Int) < (j : Int) := by omega
          clear hA hO
          go_wp2_with fail
          go_ret
          exact ⟨⟨_, rfl, HF.out⟩, hb⟩
end Go.Proofs.Tryz
