/- Rows of totals: searched by a predicate, cloned: by the kit's walk. Rows of totals without those that a predicate strikes (slices.DeleteFunc): by the kit's walk. -/
import Derived.Test.YtbfonnoebbjenaaGreatDoorAxLe
import Derived.Test.YtbfonnoebbjenaaGreatDoorAxShelf
import Derived.Test.YtbfonnoebbjenaaGreatDoorAxTg
import Derived.Laws.IdiomCopy
namespace Go.Proofs.Tryz
open Go Go.Am Go.RowKit Go.Op
set_option maxRecDepth 100000

/-- The first place at which a predicate holds, or -1. -/
def idxP (P : Tot → Bool) : List Tot → Nat → Int
  | [], _ => -1
  | x :: l, i => if P x = true then (i : Int) else idxP P l (i + 1)
theorem idxP_drop {P : Tot → Bool} {l : List Tot} {i : Nat} {x : Tot} (h : l[i]? = some x) : idxP P (l.drop i) i = if P x = true then (i : Int) else idxP P (l.drop (i + 1)) (i + 1) := by
  have hi := (List.getElem?_eq_some_iff.1 h).1
  rw [List.drop_eq_getElem_cons hi, (List.getElem?_eq_some_iff.1 h).2, idxP]
theorem idxP_end {P : Tot → Bool} {l : List Tot} : idxP P (l.drop l.length) l.length = -1 := by simp [idxP]
theorem idxP_spec (P : Tot → Bool) : ∀ (l : List Tot) (i : Nat), (idxP P l i = -1 ∧ ∀ x ∈ l, P x = false) ∨ ∃ k x, l[k]? = some x ∧ P x = true ∧ idxP P l i = ((i + k : Nat) : Int) ∧ ∀ y ∈ l.take k, P y = false
  | [], i => .inl ⟨rfl, fun x h => absurd h List.not_mem_nil⟩
  | x :: l, i => by
    unfold idxP
    cases h : P x with
    | true => exact .inr ⟨0, x, rfl, h, by simp, fun y hy => by simp at hy⟩
    | false =>
      rcases idxP_spec P l (i + 1) with ⟨e, ha⟩ | ⟨k, z, hz, hp, e, ha⟩
      · refine .inl ⟨by rw [if_neg (by decide), e], fun y hy => ?_⟩
        rcases List.mem_cons.1 hy with rfl | hy
        · exact h
        · exact ha y hy
      · refine .inr ⟨k + 1, z, by simpa using hz, hp, by rw [if_neg (by decide), e]; congr 1; omega, fun y hy => ?_⟩
        rw [List.take_succ_cons] at hy
        rcases List.mem_cons.1 hy with rfl | hy
        · exact h
        · exact ha y hy
theorem idxP_any (P : Tot → Bool) (l : List Tot) : decide (0 ≤ idxP P l 0) = l.any P := by
  rcases idxP_spec P l 0 with ⟨e, ha⟩ | ⟨k, z, hz, hp, e, ha⟩
  · rw [e]
    have : l.any P = false := by rw [List.any_eq_false]; intro x hx; rw [ha x hx]; decide
    rw [this]; rfl
  · rw [e]
    have : l.any P = true := List.any_eq_true.2 ⟨z, List.mem_of_getElem? hz, hp⟩
    rw [this, decide_eq_true]; omega
set_option maxHeartbeats 3200000 in
theorem indexF_w {w : World} {v : Value} {l : List Tot} (h : IsTots w v l) (hn : l.length ≤ 10000) (g : Nat) (cb : Array Value) (P : Tot → Bool) (eg : ∀ args w, (callFunc g args).run prog w = .ok (.enter g args) w)
    (hP : ∀ (x : Tot) (W : World), Below w.heap.size w W → Calls prog g (#[.agg #[.string (bA x.p), .int .i64 x.gm, .int .i64 (x.c 0), .int .i64 (x.c 1), .int .i64 (x.c 2), .int .i64 (x.c 3), .int .i64 (x.c 4), .int .i64 (x.c 5), .int .i64 (x.c 6), .int .i64 (x.c 7), .int .i64 (x.c 8), .int .i64 (x.c 9), .int .i64 (x.c 10), .int .i64 (x.c 11)]] ++ cb) W fun e w' => e = .returned (.bool (P x)) ∧ Below W.heap.size W w') :
    Calls prog 146 #[v, .func (.func g) #[] cb] w fun e w' => e = .returned (.int .i64 (idxP P l 0)) ∧ Below w.heap.size w w' := by
  obtain ⟨va, vc, rfl, hk⟩ := h.slice
  obtain ⟨n, hln⟩ : ∃ n, l.length = n := ⟨_, rfl⟩
  have HL := Lib.hid hln
  have HV := Lib.hid h
  have HP := Lib.hid hP
  have HS : Hid (idxP P (l.drop 0) 0 = idxP P l 0) := Lib.hid rfl
  generalize idxP P l 0 = K at HS ⊢
  rw [hln] at hk hn ⊢
  clear h hln hP
  go_enter func146, ntmps146
  go_wp2_with fail
  go_loopw [8] (fun t wr => ∃ i : Nat, i ≤ n ∧ t = .int .i64 i ∧ Hid (idxP P (l.drop i) i = K) ∧ Below w.heap.size w wr) (fun t _ => n - (numOf' t).toNat)
  case atStart => exact ⟨0, Nat.zero_le _, rfl, HS, Below.refl _ _⟩
  case round =>
    clear HS
    obtain ⟨i, hi, rfl, hS, hb⟩ := hrel
    by_cases hin : i < n
    · obtain ⟨t, ht⟩ : ∃ t, l[i]? = some t := ⟨_, List.getElem?_eq_getElem (by rw [HL.out]; exact hin)⟩
      obtain ⟨b, off, c1, e, -, p0, p1, pc⟩ := (HV.out.below hb).at ht
      simp only [HL.out, Value.slice.injEq, true_and] at e
      obtain ⟨rfl, rfl⟩ := e
      have hc0 := pc 0 (by omega)
      have hc1 := pc 1 (by omega)
      have hc2 := pc 2 (by omega)
      have hc3 := pc 3 (by omega)
      have hc4 := pc 4 (by omega)
      have hc5 := pc 5 (by omega)
      have hc6 := pc 6 (by omega)
      have hc7 := pc 7 (by omega)
      have hc8 := pc 8 (by omega)
      have hc9 := pc 9 (by omega)
      have hc10 := pc 10 (by omega)
      have hc11 := pc 11 (by omega)
      simp only [Nat.reduceAdd] at hc0 hc1 hc2 hc3 hc4 hc5 hc6 hc7 hc8 hc9 hc10 hc11
      have hii : (i : Int) < (n : Int) := by omega
      have hS2 := hS.out
      rw [idxP_drop ht] at hS2
      have hcP := HP.out t wr hb
      obtain ⟨q, hq⟩ : ∃ q, P t = q := ⟨_, rfl⟩
      rw [hq] at hS2 hcP
      clear hS ht pc hq
      go_wp2_with fail
      go_at_fn g
      refine hcP.mono ?_
      rintro e W2 ⟨rfl, hb2⟩
      have hb3 := hb.trans (hb2.mono hb.size)
      clear hcP p0 p1 hc0 hc1 hc2 hc3 hc4 hc5 hc6 hc7 hc8 hc9 hc10 hc11 hb hb2
      cases q with
      | true =>
        have HS2 : Hid ((i : Int) = K) := Lib.hid (by rw [← hS2, if_pos rfl])
        clear hS2
        go_wp2_with fail
        go_ret
        exact ⟨by rw [← HS2.out]; rfl, hb3⟩
      | false =>
        have HS2 : Hid (idxP P (l.drop (i + 1)) (i + 1) = K) := Lib.hid (by rw [← hS2, if_neg (by decide)])
        clear hS2
        go_wp2_with fail
        go_roundw
        case rel => exact ⟨i + 1, by omega, by go_num, HS2, hb3⟩
        case measure => simp [numOf'] <;> omega
    · obtain rfl : i = n := by omega
      have hS2 := hS.out
      rw [← HL.out, idxP_end] at hS2
      have HS2 := Lib.hid hS2
      clear hS2 hS
      go_wp2_with fail
      go_ret
      exact ⟨by rw [← HS2.out]; rfl, hb⟩
set_option maxHeartbeats 1600000 in
theorem containsF_w {w : World} {v : Value} {l : List Tot} (h : IsTots w v l) (hn : l.length ≤ 10000) (g : Nat) (cb : Array Value) (P : Tot → Bool) (eg : ∀ args w, (callFunc g args).run prog w = .ok (.enter g args) w)
    (hP : ∀ (x : Tot) (W : World), Below w.heap.size w W → Calls prog g (#[.agg #[.string (bA x.p), .int .i64 x.gm, .int .i64 (x.c 0), .int .i64 (x.c 1), .int .i64 (x.c 2), .int .i64 (x.c 3), .int .i64 (x.c 4), .int .i64 (x.c 5), .int .i64 (x.c 6), .int .i64 (x.c 7), .int .i64 (x.c 8), .int .i64 (x.c 9), .int .i64 (x.c 10), .int .i64 (x.c 11)]] ++ cb) W fun e w' => e = .returned (.bool (P x)) ∧ Below W.heap.size W w') :
    Calls prog 95 #[v, .func (.func g) #[] cb] w fun e w' => e = .returned (.bool (l.any P)) ∧ Below w.heap.size w w' := by
  have cI := indexF_w h hn g cb P eg hP
  have hA := idxP_any P l
  generalize idxP P l 0 = K at cI hA
  rw [← hA]
  clear hA hP eg h
  go_enter func95, ntmps95
  go_wp2_with fail
  go_at_call 146
  refine cI.mono ?_
  rintro e W1 ⟨rfl, hb⟩
  clear cI
  go_wp2_with fail
  go_ret
  exact ⟨rfl, hb⟩
set_option maxHeartbeats 1600000 in
theorem cloneT_w {w : World} {v : Value} {l : List Tot} (h : IsTots w v l) (hn : l.length ≤ 10000) : Calls prog 98 #[v] w fun e w' => (∃ u, e = .returned u ∧ OwnTots w' w.heap.size 66 u l) ∧ Below w.heap.size w w' := by
  have q25 : ∀ (w : World) (a : Option Addr) (n c n' c' : Nat), (binOp .eql 25 (.slice a n c) (.slice none n' c')).run prog w = .ok (.bool a.isNone) w := fun w a n c n' c' => Lib.run_eql_slice_nil w _ _ a n c n' c' (by kernel_rfl : prog.underlying 25 = some (.slice 66))
  obtain ⟨iT, TT⟩ := elT
  have HT := Lib.hid TT
  have HV := Lib.hid h
  obtain ⟨va, vc, rfl, hk⟩ := h.slice
  cases va with
  | none =>
    have hl0 : l = [] := by
      obtain ⟨a, c, e, -, h2⟩ := h
      by_cases h0 : l.length = 0
      · exact List.eq_nil_of_length_eq_zero h0
      · obtain ⟨b, off, e2, -⟩ := h2 h0
        rw [e2] at e
        simp at e
    subst hl0
    clear h HV HT TT
    go_enter func98, ntmps98
    go_wp2_with fail
    go_ret
    exact ⟨⟨_, rfl, OwnTots.start _ _ _⟩, Below.refl _ _⟩
  | some a =>
    have hal : Below w.heap.size w (w.alloc (.cells #[] 66)) := (Below.refl _ _).alloc (Nat.le_refl _) _
    have hown0 : OwnTots (w.alloc (.cells #[] 66)) w.heap.size 66 (.slice (some ⟨w.heap.size, 0, none⟩) 0 0) [] := ⟨World.ownsRow_made w #[] 0 (Nat.le_refl _) (Nat.zero_le _) (by simp), fun _ h => absurd h List.not_mem_nil⟩
    have HV1 := Lib.hid (HV.out.below hal)
    obtain ⟨n, hln⟩ : ∃ n, l.length = n := ⟨_, rfl⟩
    have HL := Lib.hid hln
    rw [hln] at HV1 hk hn ⊢
    have hsz : w.heap.size ≤ (w.alloc (.cells #[] 66)).heap.size := hal.size
    clear h HV TT hln
    go_enter func98, ntmps98
    go_wp2_with (first | (with_reducible refine haltAp ?_) | fail)
    unfold Halt
    refine wpList_appendTs HT.out rfl (.tmp 5) (.tmp 6) rfl rfl rfl hown0 HV1.out (Nat.zero_le _) (by rw [HL.out]; omega) hsz ?_
    intro v' w1 hown hg
    have hb1 : Below w.heap.size w w1 := hal.grown hg hal.size (fun q hq => by cases hq; exact Nat.le_refl _)
    rw [List.nil_append] at hown
    clear hg hown0 hal HV1
    go_wp2_with fail
    go_ret
    exact ⟨⟨_, rfl, hown⟩, hb1⟩
end Go.Proofs.Tryz

namespace Go.Proofs.Tryz
open Go Go.Am Go.RowKit Go.Op
set_option maxRecDepth 100000

theorem setCells_setN (b : Nat) : ∀ (vs : List Value) (o : Nat) (w : World), w.setCells b o vs = setN w b o vs
  | [], _, _ => rfl
  | v :: r, o, w => by rw [World.setCells, setN, setCells_setN b r]
/-- The first elements of a row of the call's own. -/
theorem OwnRow.short {w : World} {base e m g n cap : Nat} {l : List (List Value)} (h : OwnRow w base e m (.slice (some ⟨g, 0, none⟩) n cap) l) {i : Nat} (hi : i ≤ l.length) : OwnRow w base e m (.slice (some ⟨g, 0, none⟩) i cap) (l.take i) := by
  have hm := h.2
  rcases h.1.2 with ⟨e0, h0⟩ | ⟨g', cap', cur, e0, h1, h2, h3, h4, h5, h6⟩
  · cases e0
  · simp only [Value.slice.injEq, Option.some.injEq, Addr.mk.injEq, and_true] at e0
    obtain ⟨rfl, rfl, rfl⟩ := e0
    have hl : (l.take i).length = i := by rw [List.length_take]; omega
    have hmt : ∀ y ∈ l.take i, y.length = m := fun y hy => hm y (List.mem_of_mem_take hy)
    have hf := flatR_length hmt
    rw [hl] at hf
    refine ⟨⟨by rw [hl]; exact hf, .inr ⟨g, cap, cur, by rw [hl], h1, h2, by rw [hl]; omega, h4, h5, ?_⟩⟩, hmt⟩
    rw [hl]
    have e1 : flatR l = flatR (l.take i) ++ flatR (l.drop i) := by unfold flatR; rw [← List.flatten_append, List.take_append_drop]
    have e2 : cur.toList.take (i * m) = (cur.toList.take (l.length * m)).take (i * m) := by
      rw [List.take_take, Nat.min_eq_left (Nat.mul_le_mul_right _ hi)]
    rw [e2, h6, e1, List.take_append_of_le_length (by rw [hf]; exact Nat.le_refl _), List.take_of_length_le (by rw [hf]; exact Nat.le_refl _)]
/-- A store behind a row. -/
theorem OwnRow.beyond {w : World} {base e m g n cap : Nat} {l : List (List Value)} (h : OwnRow w base e m (.slice (some ⟨g, 0, none⟩) n cap) l) {j : Nat} (hj : l.length * m ≤ j) (u : Value) : OwnRow (w.setCell ⟨g, j, none⟩ u) base e m (.slice (some ⟨g, 0, none⟩) n cap) l := by
  have hm := h.2
  rcases h.1.2 with ⟨e0, h0⟩ | ⟨g', cap', cur, e0, h1, h2, h3, h4, h5, h6⟩
  · cases e0
  · simp only [Value.slice.injEq, Option.some.injEq, Addr.mk.injEq, and_true] at e0
    obtain ⟨rfl, rfl, rfl⟩ := e0
    refine ⟨⟨h.1.1, .inr ⟨g, cap, cur.setIfInBounds j u, rfl, h1, ?_, h3, h4, by simpa using h5, ?_⟩⟩, hm⟩
    · simp only [World.setCell, Array.getElem?_modify, h2]
      simp
    · rw [Array.toList_setIfInBounds, List.take_set_of_le hj]
      exact h6
theorem OwnRow.beyondN {base e m g n cap : Nat} {l : List (List Value)} : ∀ {vs : List Value} {w : World} {j : Nat}, OwnRow w base e m (.slice (some ⟨g, 0, none⟩) n cap) l → l.length * m ≤ j → OwnRow (setN w g j vs) base e m (.slice (some ⟨g, 0, none⟩) n cap) l
  | [], _, _, h, _ => h
  | v :: r, _, _, h, hj => OwnRow.beyondN (vs := r) (h.beyond hj v) (by omega)
theorem OwnRow.some_at {w : World} {base e m g n cap : Nat} {l : List (List Value)} (h : OwnRow w base e m (.slice (some ⟨g, 0, none⟩) n cap) l) {j : Nat} (hj : j < l.length * m) : (w.cell? ⟨g, j, none⟩).isSome = true ∧ w.frozen? ⟨g, j, none⟩ = false := by
  rcases h.1.2 with ⟨e0, h0⟩ | ⟨g', cap', cur, e0, h1, h2, h3, h4, h5, h6⟩
  · cases e0
  · simp only [Value.slice.injEq, Option.some.injEq, Addr.mk.injEq, and_true] at e0
    obtain ⟨rfl, rfl, rfl⟩ := e0
    have hs : j < cur.size := by rw [h5]; exact Nat.lt_of_lt_of_le hj (Nat.mul_le_mul_right _ h3)
    constructor
    · unfold World.cell?
      rw [h2]
      simp [hs]
    · unfold World.frozen?
      rw [h2]
      simp
/-- 'clear' of the last elements of a row. -/
theorem run_clearT {w : World} {base g cap n i : Nat} {D : List Tot} (h : OwnTots w base 66 (.slice (some ⟨g, 0, none⟩) n cap) D) (hn : D.length = n) (hi : i < n) (ty : TypeId) (k c : Nat) (hk : k = n - i) :
    ∃ w', (Builtin.clear_ #[25] ty #[.slice (some ⟨g, i * 14, none⟩) k c]).run prog w = .ok (.tuple #[]) w' ∧ OwnTots w' base 66 (.slice (some ⟨g, 0, none⟩) i cap) (D.take i) ∧ ∀ w0 : World, Below w0.heap.size w0 w → w0.heap.size ≤ base → Below w0.heap.size w0 w' := by
  obtain ⟨m, rfl⟩ : ∃ m, k = m + 1 := ⟨k - 1, by omega⟩
  obtain ⟨g1, cap1, e, hb, -⟩ := OwnRow.own h (i := i) (by rw [List.length_map, hn]; exact hi)
  simp only [Value.slice.injEq, Option.some.injEq, Addr.mk.injEq, and_true] at e
  obtain ⟨rfl, -, -⟩ := e
  obtain ⟨zs, hzs⟩ : ∃ zs, (Builtin.zeroCells (Value.agg #[.string ⟨#[]⟩, .int .i64 0, .int .i64 0, .int .i64 0, .int .i64 0, .int .i64 0, .int .i64 0, .int .i64 0, .int .i64 0, .int .i64 0, .int .i64 0, .int .i64 0, .int .i64 0, .int .i64 0]).cells (m + 1)).toList = zs := ⟨_, rfl⟩
  have hzl : zs.length = (m + 1) * 14 := by rw [← hzs]; simp [Builtin.zeroCells, Value.cells]
  have hz1 : ∀ u ∈ zs, u.oneCell' = true := by
    intro u hu
    rw [← hzs, Array.mem_toList_iff] at hu
    unfold Builtin.zeroCells at hu
    obtain ⟨q, -, rfl⟩ := Array.mem_map.1 hu
    have h14 : ∀ r, r < 14 → ((Value.agg #[.string ⟨#[]⟩, .int .i64 0, .int .i64 0, .int .i64 0, .int .i64 0, .int .i64 0, .int .i64 0, .int .i64 0, .int .i64 0, .int .i64 0, .int .i64 0, .int .i64 0, .int .i64 0, .int .i64 0]).cells[r]!).oneCell' = true := by decide
    exact h14 _ (Nat.mod_lt _ (by decide))
  have hat : ∀ j, j < zs.length → (w.cell? ⟨g, i * 14 + 0 + j, none⟩).isSome = true ∧ w.frozen? ⟨g, i * 14 + 0 + j, none⟩ = false := fun j hj => OwnRow.some_at h (by rw [List.length_map, hn]; omega)
  have hst := run_storeCells_cells (P := prog) g (i * 14) zs 0 w (fun j hj => (hat j hj).1) (fun j hj => (hat j hj).2) hz1
  rw [Nat.add_zero, setCells_setN] at hst
  refine ⟨setN w g (i * 14) zs, ?_, ?_, fun w0 h0 hb0 => Below.setN (Nat.le_trans hb0 hb) h0⟩
  · simp only [Builtin.clear_]
    simp [run_underlying (show prog.underlying 25 = some (.slice 66) by kernel_rfl), hzs, hst]
  · have h2 := OwnRow.short h (i := i) (by rw [List.length_map, hn]; omega)
    have h3 := OwnRow.beyondN (vs := zs) (j := i * 14) h2 (by rw [List.length_take, List.length_map, hn]; exact Nat.mul_le_mul_right _ (Nat.min_le_left _ _))
    rw [← List.map_take] at h3
    exact h3
end Go.Proofs.Tryz
