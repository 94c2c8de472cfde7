/- Rows of totals without those that a predicate strikes (slices.DeleteFunc): the walk. -/
import Derived.Test.YtbfonnoebbjenaaGreatDoorAxLf
namespace Go.Proofs.Tryz
open Go Go.Am Go.RowKit Go.Op
set_option maxRecDepth 100000

/-- How far a row has been rewritten. -/
structure DelI (P : Tot → Bool) (l : List Tot) (i j : Nat) (D : List Tot) : Prop where
  len : D.length = l.length
  head : D.take i = (l.take j).filter fun x => !P x
  tail : D.drop j = l.drop j
  lt : i < j
theorem DelI.start {P : Tot → Bool} {l : List Tot} {k : Nat} {x : Tot} (hx : l[k]? = some x) (hp : P x = true) (h : ∀ y ∈ l.take k, P y = false) : DelI P l k (k + 1) l := by
  refine ⟨rfl, ?_, rfl, Nat.lt_succ_self k⟩
  rw [take_snoc hx, List.filter_append]
  have e1 : (l.take k).filter (fun x => !P x) = l.take k := List.filter_eq_self.2 fun y hy => by rw [h y hy]; rfl
  have e2 : [x].filter (fun x => !P x) = [] := by simp [hp]
  rw [e1, e2, List.append_nil]
theorem DelI.get {P : Tot → Bool} {l : List Tot} {i j : Nat} {D : List Tot} (h : DelI P l i j D) : D[j]? = l[j]? := by
  have := congrArg (fun L : List Tot => L[0]?) h.tail
  simp only [List.getElem?_drop, Nat.add_zero] at this
  exact this
theorem DelI.skip {P : Tot → Bool} {l : List Tot} {i j : Nat} {D : List Tot} (h : DelI P l i j D) {t : Tot} (ht : l[j]? = some t) (hp : P t = true) : DelI P l i (j + 1) D := by
  refine ⟨h.len, ?_, ?_, by have := h.lt; omega⟩
  · rw [h.head, take_snoc ht, List.filter_append]
    simp [hp]
  · rw [← List.drop_drop, h.tail, List.drop_drop]
theorem DelI.keep {P : Tot → Bool} {l : List Tot} {i j : Nat} {D : List Tot} (h : DelI P l i j D) {t : Tot} (ht : l[j]? = some t) (hp : P t = false) : DelI P l (i + 1) (j + 1) (D.set i t) := by
  have hlt := h.lt
  have hj := (List.getElem?_eq_some_iff.1 ht).1
  have hD := h.len
  refine ⟨by rw [List.length_set, h.len], ?_, ?_, by omega⟩
  · rw [take_snoc (t := t) (by rw [List.getElem?_set_self (by omega)]), List.take_set_of_le (Nat.le_refl _), h.head, take_snoc ht, List.filter_append]
    simp [hp]
  · rw [List.drop_set_of_lt (by omega), ← List.drop_drop, h.tail, List.drop_drop]
theorem DelI.fin {P : Tot → Bool} {l : List Tot} {i : Nat} {D : List Tot} (h : DelI P l i l.length D) : D.take i = l.filter fun x => !P x := by
  rw [h.head, List.take_length]
theorem splice_cells (x t : Tot) : splice x.cells 0 t.cells = t.cells := rfl
set_option maxHeartbeats 6400000 in
theorem deleteF_w {w w0 : World} {base : Nat} {v : Value} {l : List Tot} (h : OwnTots w base 66 v l) (h0 : Below w0.heap.size w0 w) (hb0 : w0.heap.size ≤ base) (hbase : base ≤ w.heap.size) (hn : l.length ≤ 10000) (g : Nat) (cb : Array Value) (P : Tot → Bool) (eg : ∀ args w, (callFunc g args).run prog w = .ok (.enter g args) w)
    (hP : ∀ (x : Tot) (W : World), Below w0.heap.size w0 W → Calls prog g (#[.agg #[.string (bA x.p), .int .i64 x.gm, .int .i64 (x.c 0), .int .i64 (x.c 1), .int .i64 (x.c 2), .int .i64 (x.c 3), .int .i64 (x.c 4), .int .i64 (x.c 5), .int .i64 (x.c 6), .int .i64 (x.c 7), .int .i64 (x.c 8), .int .i64 (x.c 9), .int .i64 (x.c 10), .int .i64 (x.c 11)]] ++ cb) W fun e w' => e = .returned (.bool (P x)) ∧ Below W.heap.size W w') :
    Calls prog 97 #[v, .func (.func g) #[] cb] w fun e w' => (∃ u, e = .returned u ∧ OwnTots w' base 66 u (l.filter fun x => !P x)) ∧ Below w0.heap.size w0 w' := by
  have cI := indexF_w h.is hn g cb P eg (fun x W hb => hP x W (h0.trans (hb.mono h0.size)))
  have hS := idxP_spec P l 0
  generalize idxP P l 0 = K at cI hS
  have hv := h.slice
  obtain ⟨va, vc, rfl⟩ := hv
  obtain ⟨n, hln⟩ : ∃ n, l.length = n := ⟨_, rfl⟩
  have HL := Lib.hid hln
  have HP := Lib.hid hP
  have H0 := Lib.hid (And.intro h0 (And.intro hb0 hbase))
  have HR := Lib.hid h
  rw [hln] at HR hn cI ⊢
  clear hP h0 hb0 hbase
  rcases hS with ⟨rfl, hall⟩ | ⟨k, x, hx, hpx, rfl, hpre⟩
  · have hF : l.filter (fun x => !P x) = l := List.filter_eq_self.2 fun y hy => by rw [hall y hy]; rfl
    have HF := Lib.hid hF
    clear hall hln h hF
    go_enter func97, ntmps97
    go_wp2_with fail
    go_at_call 146
    refine cI.mono ?_
    rintro e W1 ⟨rfl, hb⟩
    clear cI
    have hR1 := HR.out.below hb
    have hb1 := H0.out.1.trans (hb.mono H0.out.1.size)
    rw [← HF.out] at hR1
    clear HR hb
    go_wp2_with fail
    go_ret
    exact ⟨⟨_, rfl, hR1⟩, hb1⟩
  · have hkn := (List.getElem?_eq_some_iff.1 hx).1
    rw [hln] at hkn
    have hD0 : Hid (DelI P l k (k + 1) l) := Lib.hid (DelI.start hx hpx hpre)
    obtain ⟨g1, cap, e, hbg, hcap⟩ := OwnRow.own h (i := k) (by rw [List.length_map, hln]; exact hkn)
    rw [List.length_map, hln] at e hcap
    simp only [Value.slice.injEq, true_and] at e
    obtain ⟨rfl, rfl⟩ := e
    have hk0 : ((k : Int) == -1) = false := by
      have : ¬ (k : Int) = -1 := by omega
      exact beq_eq_false_iff_ne.2 this
    rw [Nat.zero_add] at cI
    clear hx hpx hpre h hln
    go_enter func97, ntmps97
    go_wp2_with fail
    go_at_call 146
    refine cI.mono ?_
    rintro e W1 ⟨rfl, hb⟩
    clear cI
    have hR1 := HR.out.below hb
    have hb1 := H0.out.1.trans (hb.mono H0.out.1.size)
    have hbs : base ≤ W1.heap.size := Nat.le_trans H0.out.2.2 hb.size
    have i1 : IntKind.wrap .i64 ((k : Int) + 1) = ((k + 1 : Nat) : Int) := by rw [IntWalk.i64_in _ (by omega)]; omega
    clear HR hb
    go_wp2_with fail
    go_loopw [5, 6] (fun s5 s6 wr => ∃ (i j : Nat) (D : List Tot), j ≤ n ∧ s5 = .int .i64 i ∧ s6 = .int .i64 j ∧ Hid (DelI P l i j D) ∧ OwnTots wr base 66 (.slice (some ⟨g1, 0, none⟩) n vc) D ∧ Below w0.heap.size w0 wr ∧ base ≤ wr.heap.size) (fun _ s6 _ => n - (numOf' s6).toNat)
    case atStart => exact ⟨k, k + 1, l, by omega, rfl, by go_num, hD0, hR1, hb1, hbs⟩
    case round =>
      clear hD0 hR1 hb1 hbs i1
      obtain ⟨i, j, D, hj, rfl, rfl, hD, hR, hb, hsz⟩ := hrel
      by_cases hjn : j < n
      · obtain ⟨t, ht⟩ : ∃ t, l[j]? = some t := ⟨_, List.getElem?_eq_getElem (by rw [HL.out]; exact hjn)⟩
        have hDt : D[j]? = some t := by rw [hD.out.get]; exact ht
        have hxj : (D.map Tot.cells)[j]? = some t.cells := by rw [List.getElem?_map, hDt]; rfl
        obtain ⟨p0, pf0⟩ := OwnRow.cell (hR) hxj (j := 0) (u := .string (bA t.p)) rfl
        obtain ⟨p1, pf1⟩ := OwnRow.cell (hR) hxj (j := 1) (u := .int .i64 t.gm) rfl
        obtain ⟨p2, pf2⟩ := OwnRow.cell (hR) hxj (j := 2) (u := .int .i64 (t.c 0)) rfl
        obtain ⟨p3, pf3⟩ := OwnRow.cell (hR) hxj (j := 3) (u := .int .i64 (t.c 1)) rfl
        obtain ⟨p4, pf4⟩ := OwnRow.cell (hR) hxj (j := 4) (u := .int .i64 (t.c 2)) rfl
        obtain ⟨p5, pf5⟩ := OwnRow.cell (hR) hxj (j := 5) (u := .int .i64 (t.c 3)) rfl
        obtain ⟨p6, pf6⟩ := OwnRow.cell (hR) hxj (j := 6) (u := .int .i64 (t.c 4)) rfl
        obtain ⟨p7, pf7⟩ := OwnRow.cell (hR) hxj (j := 7) (u := .int .i64 (t.c 5)) rfl
        obtain ⟨p8, pf8⟩ := OwnRow.cell (hR) hxj (j := 8) (u := .int .i64 (t.c 6)) rfl
        obtain ⟨p9, pf9⟩ := OwnRow.cell (hR) hxj (j := 9) (u := .int .i64 (t.c 7)) rfl
        obtain ⟨p10, pf10⟩ := OwnRow.cell (hR) hxj (j := 10) (u := .int .i64 (t.c 8)) rfl
        obtain ⟨p11, pf11⟩ := OwnRow.cell (hR) hxj (j := 11) (u := .int .i64 (t.c 9)) rfl
        obtain ⟨p12, pf12⟩ := OwnRow.cell (hR) hxj (j := 12) (u := .int .i64 (t.c 10)) rfl
        obtain ⟨p13, pf13⟩ := OwnRow.cell (hR) hxj (j := 13) (u := .int .i64 (t.c 11)) rfl
        rw [Nat.add_zero] at p0 pf0
        have hjj : (j : Int) < (n : Int) := by omega
        have hal : Below wr.heap.size wr (wr.alloc (.cells t.arr 66)) := (Below.refl _ _).alloc (Nat.le_refl _) _
        have hbx := at_new wr t.arr 66
        have hR2 := OwnTots.below hR hal
        have hb2 := hb.trans (hal.mono hb.size)
        have hs2 : base ≤ (wr.alloc (.cells t.arr 66)).heap.size := Nat.le_trans hsz hal.size
        obtain ⟨W9, hW9⟩ : ∃ W9, wr.alloc (.cells t.arr 66) = W9 := ⟨_, rfl⟩
        rw [hW9] at hbx hR2 hb2 hs2
        unfold Tot.arr at hW9
        have hwl : wr.heap.size < W9.heap.size := hbx.lt
        obtain ⟨z0, z1, z2, z3, z4, z5, z6, z7, z8, z9, z10, z11, z12, z13⟩ := box14t hbx
        have hcP := HP.out t W9 hb2
        obtain ⟨q, hq⟩ : ∃ q, P t = q := ⟨_, rfl⟩
        rw [hq] at hcP
        clear hR hal hb hsz pf0 pf1 pf2 pf3 pf4 pf5 pf6 pf7 pf8 pf9 pf10 pf11 pf12 pf13
        go_wp2_with fail
        try rw [hW9]
        clear hW9
        clear p0 p1 p2 p3 p4 p5 p6 p7 p8 p9 p10 p11 p12 p13
        go_wp2_with fail
        go_at_fn g
        refine hcP.mono ?_
        rintro e W10 ⟨rfl, hk⟩
        have hR3 := OwnTots.below hR2 hk
        have hb3 := hb2.trans (hk.mono hb2.size)
        have hs3 := Nat.le_trans hs2 hk.size
        have hbx3 := hbx.below hk hbx.lt
        clear hcP hR2 hb2 hs2 hbx hk z0 z1 z2 z3 z4 z5 z6 z7 z8 z9 z10 z11 z12 z13
        cases q with
        | true =>
          have hD2 := Lib.hid (hD.out.skip ht hq)
          clear hD ht hDt hxj hq hbx3 hwl
          go_wp2_with fail
          go_roundw
          case rel => exact ⟨i, j + 1, D, by omega, rfl, by go_num, hD2, hR3, hb3, hs3⟩
          case measure => simp [numOf'] <;> omega
        | false =>
          have hD2 := Lib.hid (hD.out.keep ht hq)
          have hij := hD.out.lt
          have hDl : D.length = n := by rw [hD.out.len, HL.out]
          obtain ⟨y, hy⟩ : ∃ y, D[i]? = some y := ⟨_, List.getElem?_eq_getElem (by omega)⟩
          have hyi : (D.map Tot.cells)[i]? = some y.cells := by rw [List.getElem?_map, hy]; rfl
          obtain ⟨q0, qf0⟩ := OwnRow.cell (hR3) hyi (j := 0) (u := .string (bA y.p)) rfl
          obtain ⟨q1, qf1⟩ := OwnRow.cell (hR3) hyi (j := 1) (u := .int .i64 y.gm) rfl
          obtain ⟨q2, qf2⟩ := OwnRow.cell (hR3) hyi (j := 2) (u := .int .i64 (y.c 0)) rfl
          obtain ⟨q3, qf3⟩ := OwnRow.cell (hR3) hyi (j := 3) (u := .int .i64 (y.c 1)) rfl
          obtain ⟨q4, qf4⟩ := OwnRow.cell (hR3) hyi (j := 4) (u := .int .i64 (y.c 2)) rfl
          obtain ⟨q5, qf5⟩ := OwnRow.cell (hR3) hyi (j := 5) (u := .int .i64 (y.c 3)) rfl
          obtain ⟨q6, qf6⟩ := OwnRow.cell (hR3) hyi (j := 6) (u := .int .i64 (y.c 4)) rfl
          obtain ⟨q7, qf7⟩ := OwnRow.cell (hR3) hyi (j := 7) (u := .int .i64 (y.c 5)) rfl
          obtain ⟨q8, qf8⟩ := OwnRow.cell (hR3) hyi (j := 8) (u := .int .i64 (y.c 6)) rfl
          obtain ⟨q9, qf9⟩ := OwnRow.cell (hR3) hyi (j := 9) (u := .int .i64 (y.c 7)) rfl
          obtain ⟨q10, qf10⟩ := OwnRow.cell (hR3) hyi (j := 10) (u := .int .i64 (y.c 8)) rfl
          obtain ⟨q11, qf11⟩ := OwnRow.cell (hR3) hyi (j := 11) (u := .int .i64 (y.c 9)) rfl
          obtain ⟨q12, qf12⟩ := OwnRow.cell (hR3) hyi (j := 12) (u := .int .i64 (y.c 10)) rfl
          obtain ⟨q13, qf13⟩ := OwnRow.cell (hR3) hyi (j := 13) (u := .int .i64 (y.c 11)) rfl
          rw [Nat.add_zero] at q0 qf0
          have hii : (i : Int) < (n : Int) := by omega
          have hii2 : (i : Int) < (j : Int) := by omega
          obtain ⟨z0, z1, z2, z3, z4, z5, z6, z7, z8, z9, z10, z11, z12, z13⟩ := box14t hbx3
          have hR4 : OwnTots (setN W10 g1 (i * 14) t.cells) base 66 (.slice (some ⟨g1, 0, none⟩) n vc) (D.set i t) := by
            have := OwnRow.writes (vs := t.cells) (j := 0) hR3 hyi (by rw [Tot.len]; exact Nat.le_refl _)
            rw [splice_cells, Nat.add_zero] at this
            unfold OwnTots
            rw [List.map_set]
            exact this
          have hb4 := Below.setN (vs := t.cells) (o := i * 14) (Nat.le_trans H0.out.2.1 hbg) hb3
          have hs4 : base ≤ (setN W10 g1 (i * 14) t.cells).heap.size := by rw [setN_size]; exact hs3
          clear hD ht hDt hxj hq hyi hy hR3 hb3 hs3 hDl hbx3
          go_wp2_with fail
          go_roundw
          case rel => exact ⟨i + 1, j + 1, D.set i t, by omega, by go_num, by go_num, hD2, hR4, hb4, hs4⟩
          case measure => simp [numOf'] <;> omega
      · obtain rfl : j = n := by omega
        have hlt := hD.out.lt
        have hin : i < j := hlt
        have hcl := run_clearT hR (by rw [hD.out.len, HL.out]) hin
        have hF : D.take i = l.filter fun x => !P x := by
          have := hD.out
          rw [← HL.out] at this
          exact this.fin
        have HF := Lib.hid hF
        have hii : (i : Int) ≤ (j : Int) := by omega
        have hic : (i : Int) ≤ (vc : Int) := by omega
        obtain ⟨wz, hr, hRz, hbz⟩ := hcl 0 (j - i) (vc - i) rfl
        have hb9 := hbz w0 hb H0.out.2.1
        rw [HF.out] at hRz
        clear hD hF hR hcl hbz
        go_wp2_with fail
        go_ret
        exact ⟨⟨_, rfl, hRz⟩, hb9⟩
end Go.Proofs.Tryz
