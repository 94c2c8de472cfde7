/- A list of totals checked by the season: by the kit's walk. Totals compared: by the kit's walk. -/
import Derived.Test.YtbfonnoebbjenaaGreatDoorAxUa
import Derived.Test.YtbfonnoebbjenaaGreatDoorAxTb
import Derived.Deep.QuietTactic
namespace Go.Proofs.Tryz
open Go Go.Am Go.RowKit Go.Op
set_option maxRecDepth 100000

theorem first3T_w (x y z : Int) (b : Nat) (W : World) (h0 : W.cell? ⟨b, 0, none⟩ = some (.int .i64 x)) (h1 : W.cell? ⟨b, 1, none⟩ = some (.int .i64 y)) (h2 : W.cell? ⟨b, 2, none⟩ = some (.int .i64 z)) :
    Calls prog 88 #[.slice (some ⟨b, 0, none⟩) 3 3] W fun e w' => e = .returned (.int .i64 (fstE [x, y, z])) ∧ w' = W :=
  first_w [x, y, z] b 3 W (by simp) fun j u h => by
    match j, h with
    | 0, h => simp at h; subst h; exact h0
    | 1, h => simp at h; subst h; exact h1
    | 2, h => simp at h; subst h; exact h2
    | j + 3, h => simp at h
theorem totA_fst (t : Tot) (lt : Int) : fstE [nmE t.p, numE t, lt] = if totE t = 0 then lt else totE t := by
  unfold totE nmE
  cases isNm t.p with
  | false => simp [fstE]
  | true =>
    unfold numE
    by_cases h : NumK t 12
    · by_cases h2 : lt = 0 <;> simp [h, h2, fstE]
    · simp [h, fstE]

set_option maxHeartbeats 6400000 in
theorem checkTots_w {l : List Tot} {v : Value} {w : World} (h : IsTots w v l) (hn : l.length ≤ 10000) :
    Calls prog 72 #[v] w fun e w' => e = .returned (.int .i64 (totsE l)) ∧ Below w.heap.size w w' := by
  have h0 := h
  obtain ⟨ad, c, rfl, hnc⟩ := h0.slice
  obtain ⟨n, hln⟩ : ∃ n, l.length = n := ⟨_, rfl⟩
  have HL := Lib.hid hln
  obtain ⟨R, hR⟩ : ∃ R, totsE l = R := ⟨_, rfl⟩
  rw [hR]
  have HR : Hid (totsE l = R) := Lib.hid hR
  clear hR h0
  rw [hln] at hn hnc ⊢
  clear hln
  by_cases hbig : 4096 < n
  · have hR5 : Hid (R = 5) := Lib.hid (by rw [← HR.out]; unfold totsE; rw [HL.out, if_pos hbig])
    have hbi : (4096 : Int) < (n : Int) := by omega
    go_enter func72, ntmps72
    go_wp2_with fail
    go_ret
    exact ⟨by rw [hR5.out]; rfl, Below.refl _ _⟩
  have hbi : ¬ (4096 : Int) < (n : Int) := by omega
  have HS : Hid (R = totsK l 0 (n - 0)) := Lib.hid (by rw [← HR.out]; unfold totsE; rw [HL.out, if_neg hbig]; rfl)
  clear HR
  go_enter func72, ntmps72
  go_wp2_with fail
  go_loopw [12] (fun s wr => ∃ i : Nat, i ≤ n ∧ s = .int .i64 i ∧ Hid (R = totsK l i (n - i)) ∧ Below w.heap.size w wr) (fun s _ => n - (numOf' s).toNat)
  case atStart => exact ⟨0, Nat.zero_le _, rfl, HS, Below.refl _ _⟩
  case round =>
    clear HS
    obtain ⟨i, hi, rfl, hE, hb⟩ := hrel
    by_cases hin : i < n
    · obtain ⟨t, ht⟩ : ∃ t, l[i]? = some t := ⟨_, List.getElem?_eq_getElem (by rw [HL.out]; exact hin)⟩
      obtain ⟨b, off, c1, e, -, p0, p1, pc⟩ := (h.below hb).at ht
      simp only [HL.out, Value.slice.injEq, true_and] at e
      obtain ⟨rfl, rfl⟩ := e
      have hc0 := pc 0 (by omega)
      have hc1 := pc 1 (by omega)
      have hc2 := pc 2 (by omega)
      have hc3 := pc 3 (by omega)
      have hc4 := pc 4 (by omega)
      have hc5 := pc 5 (by omega)
      have hc6 := pc 6 (by omega)
      have hc7 := pc 7 (by omega)
      have hc8 := pc 8 (by omega)
      have hc9 := pc 9 (by omega)
      have hc10 := pc 10 (by omega)
      have hc11 := pc 11 (by omega)
      simp only [Nat.reduceAdd] at hc0 hc1 hc2 hc3 hc4 hc5 hc6 hc7 hc8 hc9 hc10 hc11
      have hii : (i : Int) < (n : Int) := by omega
      have hbn : Below wr.heap.size wr (wr.alloc (.cells t.arr 66)) := (Below.refl _ _).alloc (Nat.le_refl _) _
      have hy := at_new wr t.arr 66
      obtain ⟨W5, hW5⟩ : ∃ W5, wr.alloc (.cells t.arr 66) = W5 := ⟨_, rfl⟩
      rw [hW5] at hbn hy
      unfold Tot.arr at hW5
      have hb5 := hb.trans (hbn.mono hb.size)
      obtain ⟨late, hlate⟩ : ∃ b, lateT l i = b := ⟨_, rfl⟩
      have hs := tots_step l hin
      have hA : totA l i = if totE t = 0 then (if late = true then 11 else 0) else totE t := by unfold totA; rw [atT_get ht, hlate]
      have HE2 := Lib.hid (hE.out.trans hs)
      have HA := Lib.hid hA
      clear hE hs pc hA
      go_wp2_with fail
      try rw [hW5]
      clear hW5 p0 p1 hc0 hc1 hc2 hc3 hc4 hc5 hc6 hc7 hc8 hc9 hc10 hc11
      obtain ⟨z0, z1, z2, z3, z4, z5, z6, z7, z8, z9, z10, z11, z12, z13⟩ := box14t hy
      have HH := Lib.hid h
      go_cut [5] (fun s5 wx => s5 = .bool late ∧ ∃ n, wx = W5.drewN n)
      case first =>
        clear z1 z2 z3 z4 z5 z6 z7 z8 z9 z10 z11 z12 z13 HA HE2
        rcases Nat.eq_zero_or_pos i with rfl | hpos
        · obtain rfl : false = late := hlate
          go_quiet (fail)
          go_wp2_with fail
          go_meet
          exact ⟨rfl, _, rfl⟩
        · obtain ⟨k, rfl⟩ : ∃ k, i = k + 1 := ⟨i - 1, by omega⟩
          obtain ⟨q, hq⟩ : ∃ q, l[k]? = some q := ⟨_, List.getElem?_eq_getElem (by rw [HL.out]; omega)⟩
          obtain ⟨b', off', c', e', -, x0, -, -⟩ := (HH.out.below hb5).at hq
          simp only [HL.out, Value.slice.injEq, Option.some.injEq, Addr.mk.injEq, true_and, and_true] at e'
          obtain ⟨⟨rfl, rfl⟩, rfl⟩ := e'
          have i1 : (0:Int) < ((k + 1 : Nat) : Int) := by omega
          have i2 : ((k + 1 : Nat) : Int) - 1 = (k : Int) := by omega
          have i3 : (k : Int) < (n : Int) := by omega
          have i4 : IntKind.i64.wrap (k : Int) = (k : Int) := IntWalk.i64_in _ (by omega)
          have i5 : IntKind.i64.wrap ((k : Int) + 1 - 1) = (k : Int) := by rw [IntWalk.i64_in _ (by omega)]; omega
          have i7 : max (0 : Int) (k : Int) = (k : Int) := by omega
          have i8 : (0 : Int) ≤ (k : Int) := by omega
          have l1 : (bA t.p).toList = t.p := bA_list _
          have l2 : (bA q.p).toList = q.p := bA_list _
          have hlt : (bytesLess t.p q.p || t.p == q.p) = late := by
            rw [← hlate]; unfold lateT; rw [decide_eq_true (by omega : 0 < k + 1), Bool.true_and, atT_get ht, Nat.add_sub_cancel, atT_get hq]
          clear hlate ht hq
          cases late with
          | true =>
            go_quiet (fail)
            go_wp2_with fail
            go_meet
            exact ⟨rfl, _, rfl⟩
          | false =>
            go_quiet (fail)
            go_wp2_with fail
            go_meet
            exact ⟨rfl, _, rfl⟩
      case rest =>
        obtain ⟨rfl, nq, rfl⟩ := hcut
        have hb6 : Below w.heap.size w (W5.drewN nq) := belowN hb5 nq
        have hy6 : At (W5.drewN nq) wr.heap.size t.arr 66 := hy
        clear z0 z1 z2 z3 z4 z5 z6 z7 z8 z9 z10 z11 z12 z13 hlate hb5 hbn hy hb h
        generalize W5.drewN nq = W6 at hb6 hy6 ⊢
        obtain ⟨z0, z1, z2, z3, z4, z5, z6, z7, z8, z9, z10, z11, z12, z13⟩ := box14t hy6
        have HY := Lib.hid hy6
        have HB6 := Lib.hid hb6
        have cN := named_w t.p
        have cU := numbers_w t
        have cW := when_w late 11
        obtain ⟨en, hen⟩ : ∃ x, nmE t.p = x := ⟨_, rfl⟩
        obtain ⟨eu, heu⟩ : ∃ x, numE t = x := ⟨_, rfl⟩
        obtain ⟨lt, hlt⟩ : ∃ lt : Int, (if late = true then 11 else 0) = lt := ⟨_, rfl⟩
        have hF := totA_fst t lt
        rw [hen] at cN hF
        rw [heu] at cU hF
        rw [hlt] at cW HA
        rw [← HA.out] at hF
        obtain ⟨v, hv⟩ : ∃ v, fstE [en, eu, lt] = v := ⟨_, rfl⟩
        have cF := first3T_w en eu lt
        rw [hv] at cF hF
        have HZ : Hid ((v = 0 → R = totsK l (i + 1) (n - (i + 1))) ∧ (v ≠ 0 → R = v)) := Lib.hid (by
          rw [HE2.out, ← hF]
          exact ⟨fun h => by rw [if_pos h], fun h => by rw [if_neg h]⟩)
        clear hen heu hlt hv HE2 hF HA hy6
        have hdr : Below W6.heap.size W6 W6.drew := (Below.refl _ _).drew
        have hrf : Below W6.heap.size W6 W6 := Below.refl _ _
        go_wp2_with fail
        go_cut [6] (fun s6 wx => s6 = .int .i64 v ∧ Below W6.heap.size W6 wx)
        case first =>
          clear HZ hb6
          go_region_held3 (fun W => W.cell? ⟨wr.heap.size, 0, none⟩ = some (.string (bA t.p)) ∧ W.cell? ⟨wr.heap.size, 1, none⟩ = some (.int .i64 t.gm) ∧ W.cell? ⟨wr.heap.size, 2, none⟩ = some (.int .i64 (t.c 0)) ∧ W.cell? ⟨wr.heap.size, 3, none⟩ = some (.int .i64 (t.c 1)) ∧ W.cell? ⟨wr.heap.size, 4, none⟩ = some (.int .i64 (t.c 2)) ∧ W.cell? ⟨wr.heap.size, 5, none⟩ = some (.int .i64 (t.c 3)) ∧ W.cell? ⟨wr.heap.size, 6, none⟩ = some (.int .i64 (t.c 4)) ∧ W.cell? ⟨wr.heap.size, 7, none⟩ = some (.int .i64 (t.c 5)) ∧ W.cell? ⟨wr.heap.size, 8, none⟩ = some (.int .i64 (t.c 6)) ∧ W.cell? ⟨wr.heap.size, 9, none⟩ = some (.int .i64 (t.c 7)) ∧ W.cell? ⟨wr.heap.size, 10, none⟩ = some (.int .i64 (t.c 8)) ∧ W.cell? ⟨wr.heap.size, 11, none⟩ = some (.int .i64 (t.c 9)) ∧ W.cell? ⟨wr.heap.size, 12, none⟩ = some (.int .i64 (t.c 10)) ∧ W.cell? ⟨wr.heap.size, 13, none⟩ = some (.int .i64 (t.c 11)) ∧ Below W6.heap.size W6 W)
            (go_keep)
            (first
              | (go_at_call 117; refine Calls.mono (cN _) ?_; rintro e W ⟨rfl, hkk⟩; have hbk := Below.trans (B := W6.heap.size) (a := W6) (by assumption) (Below.mono hkk (Below.size (B := W6.heap.size) (w := W6) (by assumption))); have hbs : ∀ o, Below W6.heap.size W6 (W.alloc o) := (fun o => hbk.alloc hbk.size o); have hbd : ∀ o, Below W6.heap.size W6 (W.alloc o).drew := (fun o => (hbk.alloc hbk.size o).drew); have hbd0 : Below W6.heap.size W6 W.drew := hbk.drew; obtain ⟨z0, z1, z2, z3, z4, z5, z6, z7, z8, z9, z10, z11, z12, z13⟩ := box14t (HY.out.below hbk HY.out.lt))
              | (go_at_call 132; refine Calls.mono (cU _) ?_; rintro e W ⟨rfl, hkk⟩; have hbk := Below.trans (B := W6.heap.size) (a := W6) (by assumption) (Below.mono hkk (Below.size (B := W6.heap.size) (w := W6) (by assumption))); have hbs : ∀ o, Below W6.heap.size W6 (W.alloc o) := (fun o => hbk.alloc hbk.size o); have hbd : ∀ o, Below W6.heap.size W6 (W.alloc o).drew := (fun o => (hbk.alloc hbk.size o).drew); have hbd0 : Below W6.heap.size W6 W.drew := hbk.drew; obtain ⟨z0, z1, z2, z3, z4, z5, z6, z7, z8, z9, z10, z11, z12, z13⟩ := box14t (HY.out.below hbk HY.out.lt))
              | (go_at_call 113; refine Calls.mono (cW _) ?_; rintro e W ⟨rfl, rfl⟩)
              | (go_at_call 88; refine Calls.mono (cF _ _ (by simp) (by simp) (by simp)) ?_; rintro e W ⟨rfl, rfl⟩))
          all_goals (go_wp2_with fail; go_meet; exact ⟨rfl, by first | exact hbs _ | exact hbd _⟩)
        case rest =>
          obtain ⟨rfl, hk⟩ := hcut
          have hbw := HB6.out.trans (hk.mono HB6.out.size)
          clear z0 z1 z2 z3 z4 z5 z6 z7 z8 z9 z10 z11 z12 z13 cN cU cW cF hdr hrf hk hb6
          by_cases hv0 : v = 0
          · have HR2 := Lib.hid (HZ.out.1 hv0)
            subst hv0
            clear HZ
            go_wp2_with fail
            go_roundw
            case rel => exact ⟨i + 1, by omega, by go_num, HR2, hbw⟩
            case measure => simp [numOf'] <;> omega
          · have HR2 := Lib.hid (HZ.out.2 hv0)
            have hv' : (v != 0) = true := by simpa using hv0
            clear HZ
            go_wp2_with fail
            go_ret
            exact ⟨by rw [HR2.out]; rfl, hbw⟩
    · obtain rfl : i = n := by omega
      have hE2 : Hid (R = 0) := Lib.hid (by rw [hE.out, Nat.sub_self]; rfl)
      clear hE
      go_wp2_with fail
      go_ret
      exact ⟨by rw [hE2.out]; rfl, hb⟩
end Go.Proofs.Tryz

namespace Go.Proofs.Tryz
open Go Go.Am Go.RowKit Go.Op
set_option maxRecDepth 100000

theorem eqElems_ints (D : Nat) (c d : Nat → Int) : ∀ (n i : Nat) (W : World), i + n = 12 → (eqElems (D + 1) 3 (ints 12 c).toArray (ints 12 d).toArray 1 n i).run prog W = .ok (allEq c d i n) W
  | 0, _, _, _ => rfl
  | n + 1, i, W, h => by
    have hp : ∀ (x : Int) (xs : Array Value) (o : Nat) (w : World), xs[o]? = some (.int .i64 x) → (part 3 xs o).run prog w = .ok (.int .i64 x) w := by
      intro x xs o w h
      simp [part, h]
    have x3 : prog.underlying 3 = some (.int .i64) := by kernel_rfl
    have e1 := hp (c i) (ints 12 c).toArray (i * 1) W (by simpa using ints_get (n := 12) (by omega))
    have e2 := hp (d i) (ints 12 d).toArray (i * 1) W (by simpa using ints_get (n := 12) (by omega))
    simp only [eqElems, Sem.run_bind, e1, e2, Result.andThen_ok, run_equalIn_int _ _ _ _ _ _ _ x3]
    cases hq : (c i == d i) with
    | true => simp only [Bool.not_true, Bool.false_eq_true, if_false, allEq, hq, Bool.true_and]; exact eqElems_ints D c d n (i + 1) W (by omega)
    | false => simp [allEq, hq]
theorem eq_cntsD (D : Nat) (c d : Nat → Int) (W : World) : (Op.equalIn (D + 1 + 1) 54 (.agg (ints 12 c).toArray) (.agg (ints 12 d).toArray)).run prog W = .ok (allEq c d 0 12) W := by
  obtain ⟨i0, hi, hz0, hz1, hz2⟩ := info_more (show (prog.info? 3).map (fun i => (i.zero, i.size, i.bytes)) = some (some (.int .i64 0), 1, 8) by kernel_rfl)
  rw [run_equalIn_arr (D + 1) 54 3 12 i0 _ _ underlying54 hi W, hz1]
  exact eqElems_ints D c d 12 0 W rfl
theorem eq_cnts (c d : Nat → Int) (W : World) : (Op.equalIn 9999 54 (.agg (ints 12 c).toArray) (.agg (ints 12 d).toArray)).run prog W = .ok (allEq c d 0 12) W := eq_cntsD 9997 c d W
def eqTB (x y : Tot) : Bool := (x.p == y.p) && ((x.gm == y.gm) && allEq x.c y.c 0 12)
theorem allEq_refl (c : Nat → Int) : ∀ (n i : Nat), allEq c c i n = true
  | 0, _ => rfl
  | n + 1, i => by rw [allEq, allEq_refl c n (i + 1)]; simp
theorem eqTB_refl (x : Tot) : eqTB x x = true := by simp [eqTB, allEq_refl]
theorem eq_tot56 (x y : Tot) (W : World) : (Op.equalIn 10000 56 (.agg x.arr) (.agg y.arr)).run prog W = .ok (eqTB x y) W := by
  have hS : prog.underlying 56 = some (.struct (prog.fieldsOf 56)) := by kernel_rfl
  have hp : prog.stoodInHeld 56 = false := by kernel_rfl
  have hc := eq_cnts x.c y.c
  have e1 : (ints 12 x.c).toArray = #[.int .i64 (x.c 0), .int .i64 (x.c 1), .int .i64 (x.c 2), .int .i64 (x.c 3), .int .i64 (x.c 4), .int .i64 (x.c 5), .int .i64 (x.c 6), .int .i64 (x.c 7), .int .i64 (x.c 8), .int .i64 (x.c 9), .int .i64 (x.c 10), .int .i64 (x.c 11)] := rfl
  have e2 : (ints 12 y.c).toArray = #[.int .i64 (y.c 0), .int .i64 (y.c 1), .int .i64 (y.c 2), .int .i64 (y.c 3), .int .i64 (y.c 4), .int .i64 (y.c 5), .int .i64 (y.c 6), .int .i64 (y.c 7), .int .i64 (y.c 8), .int .i64 (y.c 9), .int .i64 (y.c 10), .int .i64 (y.c 11)] := rfl
  rw [e1, e2] at hc
  rw [show (10000 : Nat) = 9999 + 1 from rfl, run_equalIn_agg W 9999 56 _ _ hS hp]
  simp only [Program.fieldsOf, underlying56]
  unfold Tot.arr eqTB
  clear e1 e2
  go_simp
  rw [bA_list, bA_list]
  by_cases h1 : x.p = y.p
  · by_cases h2 : x.gm = y.gm
    · cases hq : allEq x.c y.c 0 12 <;> simp [h1, h2]
    · simp [h1, h2]
  · simp [h1]
theorem neq_tot56 (x y : Tot) (W : World) : (binOp .neq 56 (.agg x.arr) (.agg y.arr)).run prog W = .ok (.bool (!eqTB x y)) W := by
  rw [run_neq_struct, eq_tot56]; rfl
theorem eq_tot66 (x y : Tot) (W : World) : (Op.equalIn 10000 66 (.agg x.arr) (.agg y.arr)).run prog W = .ok (eqTB x y) W := by
  have hS : prog.underlying 66 = some (.struct (prog.fieldsOf 66)) := by kernel_rfl
  have hp : prog.stoodInHeld 66 = false := by kernel_rfl
  have hc := eq_cnts x.c y.c
  have e1 : (ints 12 x.c).toArray = #[.int .i64 (x.c 0), .int .i64 (x.c 1), .int .i64 (x.c 2), .int .i64 (x.c 3), .int .i64 (x.c 4), .int .i64 (x.c 5), .int .i64 (x.c 6), .int .i64 (x.c 7), .int .i64 (x.c 8), .int .i64 (x.c 9), .int .i64 (x.c 10), .int .i64 (x.c 11)] := rfl
  have e2 : (ints 12 y.c).toArray = #[.int .i64 (y.c 0), .int .i64 (y.c 1), .int .i64 (y.c 2), .int .i64 (y.c 3), .int .i64 (y.c 4), .int .i64 (y.c 5), .int .i64 (y.c 6), .int .i64 (y.c 7), .int .i64 (y.c 8), .int .i64 (y.c 9), .int .i64 (y.c 10), .int .i64 (y.c 11)] := rfl
  rw [e1, e2] at hc
  rw [show (10000 : Nat) = 9999 + 1 from rfl, run_equalIn_agg W 9999 66 _ _ hS hp]
  simp only [Program.fieldsOf, underlying66]
  unfold Tot.arr eqTB
  clear e1 e2
  go_simp
  rw [bA_list, bA_list]
  by_cases h1 : x.p = y.p
  · by_cases h2 : x.gm = y.gm
    · cases hq : allEq x.c y.c 0 12 <;> simp [h1, h2]
    · simp [h1, h2]
  · simp [h1]
theorem neq_tot66 (x y : Tot) (W : World) : (binOp .neq 66 (.agg x.arr) (.agg y.arr)).run prog W = .ok (.bool (!eqTB x y)) W := by
  rw [run_neq_struct, eq_tot66]; rfl
theorem neq_cnts (c d : Nat → Int) (W : World) : (binOp .neq 54 (.agg #[.int .i64 (c 0), .int .i64 (c 1), .int .i64 (c 2), .int .i64 (c 3), .int .i64 (c 4), .int .i64 (c 5), .int .i64 (c 6), .int .i64 (c 7), .int .i64 (c 8), .int .i64 (c 9), .int .i64 (c 10), .int .i64 (c 11)]) (.agg #[.int .i64 (d 0), .int .i64 (d 1), .int .i64 (d 2), .int .i64 (d 3), .int .i64 (d 4), .int .i64 (d 5), .int .i64 (d 6), .int .i64 (d 7), .int .i64 (d 8), .int .i64 (d 9), .int .i64 (d 10), .int .i64 (d 11)])).run prog W = .ok (.bool (!allEq c d 0 12)) W := by
  have h := eq_cntsD 9998 c d W
  have e1 : (ints 12 c).toArray = #[.int .i64 (c 0), .int .i64 (c 1), .int .i64 (c 2), .int .i64 (c 3), .int .i64 (c 4), .int .i64 (c 5), .int .i64 (c 6), .int .i64 (c 7), .int .i64 (c 8), .int .i64 (c 9), .int .i64 (c 10), .int .i64 (c 11)] := rfl
  have e2 : (ints 12 d).toArray = #[.int .i64 (d 0), .int .i64 (d 1), .int .i64 (d 2), .int .i64 (d 3), .int .i64 (d 4), .int .i64 (d 5), .int .i64 (d 6), .int .i64 (d 7), .int .i64 (d 8), .int .i64 (d 9), .int .i64 (d 10), .int .i64 (d 11)] := rfl
  rw [e1, e2] at h
  rw [run_neq_struct, show (10000 : Nat) = 9998 + 1 + 1 from rfl, h]
  rfl

set_option maxHeartbeats 3200000 in
theorem sameTots_w {w : World} {u v : Value} {l : List Tot} (hu : IsTots w u l) (hv : IsTots w v l) (hl : l.length ≤ 10000) : Calls prog 26 #[u, v] w fun e w' => e = .returned (.bool true) ∧ Below w.heap.size w w' := by
  have hu0 := hu
  have hv0 := hv
  obtain ⟨a1, c1, rfl, -⟩ := hu0.slice
  obtain ⟨a2, c2, rfl, -⟩ := hv0.slice
  obtain ⟨n, hln⟩ : ∃ n, l.length = n := ⟨_, rfl⟩
  have HL := Lib.hid hln
  rw [hln] at hl ⊢
  clear hu0 hv0 hln
  go_enter func26, ntmps26
  go_wp2_with fail
  go_loopw [5] (fun s wr => ∃ i : Nat, i ≤ n ∧ s = .int .i64 i ∧ Below w.heap.size w wr) (fun s _ => n - (numOf' s).toNat)
  case atStart => exact ⟨0, Nat.zero_le _, rfl, Below.refl _ _⟩
  case round =>
    obtain ⟨i, hi, rfl, hb⟩ := hrel
    by_cases hin : i < n
    · obtain ⟨t, ht⟩ : ∃ t, l[i]? = some t := ⟨_, List.getElem?_eq_getElem (by rw [HL.out]; exact hin)⟩
      obtain ⟨b1, o1, k1, e1, -, p0, p1, pc⟩ := (hu.below hb).at ht
      obtain ⟨b2, o2, k2, e2, -, q0, q1, qc⟩ := (hv.below hb).at ht
      simp only [HL.out, Value.slice.injEq, true_and] at e1 e2
      obtain ⟨rfl, rfl⟩ := e1
      obtain ⟨rfl, rfl⟩ := e2
      have hc0 := pc 0 (by omega)
      have hc1 := pc 1 (by omega)
      have hc2 := pc 2 (by omega)
      have hc3 := pc 3 (by omega)
      have hc4 := pc 4 (by omega)
      have hc5 := pc 5 (by omega)
      have hc6 := pc 6 (by omega)
      have hc7 := pc 7 (by omega)
      have hc8 := pc 8 (by omega)
      have hc9 := pc 9 (by omega)
      have hc10 := pc 10 (by omega)
      have hc11 := pc 11 (by omega)
      have hd0 := qc 0 (by omega)
      have hd1 := qc 1 (by omega)
      have hd2 := qc 2 (by omega)
      have hd3 := qc 3 (by omega)
      have hd4 := qc 4 (by omega)
      have hd5 := qc 5 (by omega)
      have hd6 := qc 6 (by omega)
      have hd7 := qc 7 (by omega)
      have hd8 := qc 8 (by omega)
      have hd9 := qc 9 (by omega)
      have hd10 := qc 10 (by omega)
      have hd11 := qc 11 (by omega)
      simp only [Nat.reduceAdd] at hc0 hc1 hc2 hc3 hc4 hc5 hc6 hc7 hc8 hc9 hc10 hc11 hd0 hd1 hd2 hd3 hd4 hd5 hd6 hd7 hd8 hd9 hd10 hd11
      have hii : (i : Int) < (n : Int) := by omega
      have hne := neq_tot56 t t
      rw [eqTB_refl, Bool.not_true] at hne
      unfold Tot.arr at hne
      clear pc qc ht
      go_wp2_with fail
      go_quiet (fail)
      have hbn := belowN hb nq
      clear p0 p1 q0 q1 hc0 hc1 hc2 hc3 hc4 hc5 hc6 hc7 hc8 hc9 hc10 hc11 hd0 hd1 hd2 hd3 hd4 hd5 hd6 hd7 hd8 hd9 hd10 hd11 hne
      all_goals go_wp2_with fail
      go_roundw
      case rel => exact ⟨i + 1, by omega, by go_num, hbn⟩
      case measure => simp [numOf'] <;> omega
    · obtain rfl : i = n := by omega
      clear hu hv
      go_wp2_with fail
      go_ret
      exact ⟨rfl, hb⟩
end Go.Proofs.Tryz
