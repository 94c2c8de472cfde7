/- Streaks of lists of whatever length, on both sides: by the kit's walk. -/
import Derived.Test.YtbfonnoebbjenaaGreatDoorAxPb
import Derived.Test.YtbfonnoebbjenaaGreatDoorAxH
import Derived.Test.YtbfonnoebbjenaaGreatDoorAxTc
namespace Go.Proofs.Tryz
open Go Go.Am Go.RowKit Go.Op
set_option maxRecDepth 100000

def Skk.arr (s : Skk) : Array Value := #[.int .i64 s.g, .int .i64 s.f, .int .i64 s.l, .int .i64 s.m]
theorem res112 {tmps : Array Value} {W : World} {b : Nat} {c0 c1 c2 c3 : Value} (hp : tmps.getD 4 undef = .pointer (some ⟨b, 0, none⟩)) (hz : At W b #[c0, c1, c2, c3] 73) : (results f112 tmps).run prog W = .ok (.agg #[c0, c1, c2, c3]) W := by
  obtain ⟨⟨y0, y1, y2, y3⟩, -⟩ := box4 hz
  rw [results_cell1 (show f112.results = #[.cell 4 73] from rfl), hp]
  simp [go_sem, y0, y1, y2, y3]
theorem res111 {tmps : Array Value} {W : World} {b : Nat} {c0 c1 c2 c3 : Value} (hp : tmps.getD 2 undef = .pointer (some ⟨b, 0, none⟩)) (hz : At W b #[c0, c1, c2, c3] 73) : (results f111 tmps).run prog W = .ok (.agg #[c0, c1, c2, c3]) W := by
  obtain ⟨⟨y0, y1, y2, y3⟩, -⟩ := box4 hz
  rw [results_cell1 (show f111.results = #[.cell 2 73] from rfl), hp]
  simp [go_sem, y0, y1, y2, y3]
theorem res41 {tmps : Array Value} {W : World} {b : Nat} {c0 c1 c2 c3 : Value} (hp : tmps.getD 2 undef = .pointer (some ⟨b, 0, none⟩)) (hz : At W b #[c0, c1, c2, c3] 72) : (results f41 tmps).run prog W = .ok (.agg #[c0, c1, c2, c3]) W := by
  obtain ⟨⟨y0, y1, y2, y3⟩, -⟩ := box4 hz
  rw [results_cell1 (show f41.results = #[.cell 2 72] from rfl), hp]
  simp [go_sem, y0, y1, y2, y3]
def put4 (w : World) (b : Nat) (v0 v1 v2 v3 : Value) : World := (((w.setCell ⟨b, 0, none⟩ v0).setCell ⟨b, 1, none⟩ v1).setCell ⟨b, 2, none⟩ v2).setCell ⟨b, 3, none⟩ v3
theorem At.put4 {w : World} {b : Nat} {e : TypeId} {c0 c1 c2 c3 : Value} (h : At w b #[c0, c1, c2, c3] e) (v0 v1 v2 v3 : Value) : At ((((w.setCell ⟨b, 0, none⟩ v0).setCell ⟨b, 1, none⟩ v1).setCell ⟨b, 2, none⟩ v2).setCell ⟨b, 3, none⟩ v3) b #[v0, v1, v2, v3] e := (((h.set 0 v0).set 1 v1).set 2 v2).set 3 v3
theorem below_put4 {w W : World} {B b : Nat} (h : Below B w W) (hb : B ≤ b) (v0 v1 v2 v3 : Value) : Below B w ((((W.setCell ⟨b, 0, none⟩ v0).setCell ⟨b, 1, none⟩ v1).setCell ⟨b, 2, none⟩ v2).setCell ⟨b, 3, none⟩ v3) :=
  (((h.setCell (p := ⟨b, 0, none⟩) hb _).setCell (p := ⟨b, 1, none⟩) hb _).setCell (p := ⟨b, 2, none⟩) hb _).setCell (p := ⟨b, 3, none⟩) hb _
theorem At.put4o {w : World} {b c : Nat} {e : TypeId} {cs : Array Value} (h : At w b cs e) (hne : b ≠ c) (v0 v1 v2 v3 : Value) : At ((((w.setCell ⟨c, 0, none⟩ v0).setCell ⟨c, 1, none⟩ v1).setCell ⟨c, 2, none⟩ v2).setCell ⟨c, 3, none⟩ v3) b cs e :=
  (((h.setCell (a := ⟨c, 0, none⟩) hne v0).setCell (a := ⟨c, 1, none⟩) hne v1).setCell (a := ⟨c, 2, none⟩) hne v2).setCell (a := ⟨c, 3, none⟩) hne v3
def SmK (s : Skk) : Prop := (0 ≤ s.g ∧ s.g ≤ 1000000) ∧ (0 ≤ s.f ∧ s.f ≤ 1000000) ∧ (0 ≤ s.l ∧ s.l ≤ 1000000) ∧ 0 ≤ s.m ∧ s.m ≤ 1000000
theorem at4 (w : World) (c0 c1 c2 c3 : Array Value) (t0 t1 t2 t3 : TypeId) :
    At ((((w.alloc (.cells c0 t0)).alloc (.cells c1 t1)).alloc (.cells c2 t2)).alloc (.cells c3 t3)) (w.heap.size + 1 + 1) c2 t2 ∧
    At ((((w.alloc (.cells c0 t0)).alloc (.cells c1 t1)).alloc (.cells c2 t2)).alloc (.cells c3 t3)) (w.heap.size + 1 + 1 + 1) c3 t3 ∧
    Below w.heap.size w ((((w.alloc (.cells c0 t0)).alloc (.cells c1 t1)).alloc (.cells c2 t2)).alloc (.cells c3 t3)) := by
  refine ⟨?_, ?_, ?_⟩
  · have := (at_new ((w.alloc (.cells c0 t0)).alloc (.cells c1 t1)) c2 t2).alloc (.cells c3 t3)
    simpa using this
  · have := at_new (((w.alloc (.cells c0 t0)).alloc (.cells c1 t1)).alloc (.cells c2 t2)) c3 t3
    simpa using this
  · exact ((((Below.refl _ w).alloc (Nat.le_refl _) _).alloc (by simp) _).alloc (by simp; omega) _).alloc (by simp; omega) _
set_option maxHeartbeats 3200000 in
theorem join_w {a o : Skk} (ha : SmK a) (ho : SmK o) (w : World) : Calls prog 112 #[.agg #[.int .i64 a.g, .int .i64 a.f, .int .i64 a.l, .int .i64 a.m], .agg #[.int .i64 o.g, .int .i64 o.f, .int .i64 o.l, .int .i64 o.m]] w fun e w' => e = .returned (.agg (joinK a o).arr) ∧ Below w.heap.size w w' := by
  obtain ⟨g1, f1, l1, m1⟩ := a
  obtain ⟨g2, f2, l2, m2⟩ := o
  obtain ⟨p1, p2, p3, p4⟩ := ha
  obtain ⟨q1, q2, q3, q4⟩ := ho
  simp only at p1 p2 p3 p4 q1 q2 q3 q4
  obtain ⟨r1, r2⟩ := inI_wrap (show inI (g1 + g2) by unfold inI; omega)
  obtain ⟨r3, r4⟩ := inI_wrap (show inI (l1 + f2) by unfold inI; omega)
  obtain ⟨r5, r6⟩ := inI_wrap (show inI (g1 + f2) by unfold inI; omega)
  obtain ⟨r7, r8⟩ := inI_wrap (show inI (g2 + l1) by unfold inI; omega)
  obtain ⟨M, hM⟩ : ∃ M, max (max m1 m2) (l1 + f2) = M := ⟨_, rfl⟩
  have hM1 : (if l1 + f2 > (if m2 > m1 then m2 else m1) then l1 + f2 else if m2 > m1 then m2 else m1) = M := by rw [← hM]; (repeat' split) <;> omega
  have hmx : ∀ W, (Builtin.max_ #[3, 3, 3] 3 #[.int .i64 m1, .int .i64 m2, .int .i64 (l1 + f2)]).run prog W = .ok (.int .i64 M) W := fun W => by
    simp only [gt_iff_lt] at hM1
    simp [Builtin.max_, Builtin.max2, hM1]
  unfold joinK Skk.arr
  simp only [hM]
  clear p1 p2 p3 p4 q1 q2 q3 q4 hM hM1
  have u := fun R => at4 w #[.int .i64 g1, .int .i64 f1, .int .i64 l1, .int .i64 m1] #[.int .i64 g2, .int .i64 f2, .int .i64 l2, .int .i64 m2] R R 73 73 73 73
  by_cases c1 : f1 = g1
  · by_cases c2 : l2 = g2
    · rw [if_pos c1, if_pos c2]
      subst c1 c2
      obtain ⟨hz, -, hbz⟩ := u #[.int .i64 (f1 + l2), .int .i64 (f1 + f2), .int .i64 (l2 + l1), .int .i64 M]
      clear u
      go_enter func112, ntmps112
      go_wp2_with fail
      exact bodyPost_ret (res112 rfl hz) rfl ⟨rfl, hbz⟩
    · rw [if_pos c1, if_neg c2]
      have c2' : (l2 == g2) = false := beq_eq_false_iff_ne.2 c2
      subst c1
      obtain ⟨hz, -, hbz⟩ := u #[.int .i64 (f1 + g2), .int .i64 (f1 + f2), .int .i64 l2, .int .i64 M]
      clear u
      go_enter func112, ntmps112
      go_wp2_with fail
      exact bodyPost_ret (res112 rfl hz) rfl ⟨rfl, hbz⟩
  · have c1' : (f1 == g1) = false := beq_eq_false_iff_ne.2 c1
    by_cases c2 : l2 = g2
    · rw [if_neg c1, if_pos c2]
      subst c2
      obtain ⟨hz, -, hbz⟩ := u #[.int .i64 (g1 + l2), .int .i64 f1, .int .i64 (l2 + l1), .int .i64 M]
      clear u
      go_enter func112, ntmps112
      go_wp2_with fail
      exact bodyPost_ret (res112 rfl hz) rfl ⟨rfl, hbz⟩
    · rw [if_neg c1, if_neg c2]
      have c2' : (l2 == g2) = false := beq_eq_false_iff_ne.2 c2
      obtain ⟨hz, -, hbz⟩ := u #[.int .i64 (g1 + g2), .int .i64 f1, .int .i64 l2, .int .i64 M]
      clear u
      go_enter func112, ntmps112
      go_wp2_with fail
      exact bodyPost_ret (res112 rfl hz) rfl ⟨rfl, hbz⟩

/-! ### rows of truth values -/
def IsBools (w : World) (v : Value) (l : List Bool) : Prop := Row w v 1 l.length fun i => [.bool (l[i]?.getD false)]
theorem IsBools.below {w W : World} {v : Value} {l : List Bool} (h : IsBools w v l) (hb : Below w.heap.size w W) : IsBools W v l := Row.below h hb
theorem IsBools.at {w : World} {v : Value} {l : List Bool} {i : Nat} {b : Bool} (h : IsBools w v l) (hb : l[i]? = some b) : ∃ k off c, v = .slice (some ⟨k, off, none⟩) l.length c ∧ l.length ≤ c ∧ w.cell? ⟨k, off + i, none⟩ = some (.bool b) := by
  have hi := (List.getElem?_eq_some_iff.1 hb).1
  obtain ⟨k, off, c, e, h1, h2⟩ := Row.at h hi
  refine ⟨k, off, c, e, h1, ?_⟩
  have := h2 0 _ rfl
  rw [hb, Nat.mul_one, Nat.add_zero] at this
  exact this
def OwnBools (w : World) (base : Nat) (v : Value) (l : List Bool) : Prop := OwnRow w base 4 1 v (l.map fun b => [.bool b])
theorem OwnBools.start (w : World) (base : Nat) : OwnBools w base (.slice none 0 0) [] := OwnRow.start _ _ _ _
theorem OwnBools.is {w : World} {base : Nat} {v : Value} {l : List Bool} (h : OwnBools w base v l) : IsBools w v l := by
  have h1 := OwnRow.row h
  unfold IsBools
  rw [List.length_map] at h1
  refine h1.congr fun i hi => ?_
  rw [List.getElem?_map, List.getElem?_eq_getElem hi]; rfl
theorem info4 : (prog.info? 4).map (fun i => (i.zero, i.size, i.bytes)) = some (some (.bool false), 1, 1) := by kernel_rfl
theorem elB : ∃ i, ElT 70 4 1 i (.bool false) 1 := by
  obtain ⟨i0, hi, hz0, hz1, hz2⟩ := info_more info4
  exact ⟨i0, by kernel_rfl, hi, hz0, hz1, hz2, rfl, by decide, by decide⟩
theorem run_sliceB (w : World) (x : Bool) : (Instr.buildSlice 70 1 #[(0, .bool x)]).run prog w = .ok (.slice (some ⟨w.heap.size, 0, none⟩) 1 1) (w.alloc (.cells #[.bool x] 4)) := by simp [go_sem]
theorem strk_small {l : List Bool} (h : l.length ≤ 100000) : SmK (strk l) := by
  obtain ⟨h1, h2, h3, h4, -⟩ := strk_inv _ l rfl
  refine ⟨by omega, by omega, by omega, by omega⟩
theorem oneK_small (b : Bool) : SmK (oneK b) := by cases b <;> (unfold oneK SmK; simp)
/-- What the store of a joined streak leaves. -/
theorem strk_fin {w W5 W9 : World} {S : Skk} (hx2 : At W5 w.heap.size #[.int .i64 0, .int .i64 0, .int .i64 0, .int .i64 0] 73) (hx3 : At W5 (w.heap.size + 1) #[.int .i64 S.g, .int .i64 S.f, .int .i64 S.l, .int .i64 S.m] 73) (hb2 : Below w.heap.size w W5) (R : Skk) (h : Below W5.heap.size W5 W9) :
    At (put4 W9 (w.heap.size + 1) (.int .i64 R.g) (.int .i64 R.f) (.int .i64 R.l) (.int .i64 R.m)) w.heap.size #[.int .i64 0, .int .i64 0, .int .i64 0, .int .i64 0] 73 ∧ At (put4 W9 (w.heap.size + 1) (.int .i64 R.g) (.int .i64 R.f) (.int .i64 R.l) (.int .i64 R.m)) (w.heap.size + 1) R.arr 73 ∧ Below w.heap.size w (put4 W9 (w.heap.size + 1) (.int .i64 R.g) (.int .i64 R.f) (.int .i64 R.l) (.int .i64 R.m)) ∧ At W9 (w.heap.size + 1) #[.int .i64 S.g, .int .i64 S.f, .int .i64 S.l, .int .i64 S.m] 73 := by
  have hn0 : w.heap.size ≠ w.heap.size + 1 := by omega
  have hlt1 : w.heap.size ≤ w.heap.size + 1 := Nat.le_succ _
  have h3 := hx3.below h hx3.lt
  exact ⟨(hx2.below h hx2.lt).put4o hn0 _ _ _ _, h3.put4 _ _ _ _, below_put4 (hb2.trans (h.mono hb2.size)) hlt1 _ _ _ _, h3⟩
set_option maxHeartbeats 3200000 in
theorem streak_w {l : List Bool} {v : Value} {w : World} (h : IsBools w v l) (hn : l.length ≤ 100000) : Calls prog 111 #[v] w fun e w' => e = .returned (.agg (strk l).arr) ∧ Below w.heap.size w w' := by
  have HV := Lib.hid h
  have hr : Row w v 1 l.length _ := h
  obtain ⟨va, vc, rfl, hk⟩ := hr.slice
  obtain ⟨N, hN⟩ : ∃ N, l.length = N := ⟨_, rfl⟩
  have HN := Lib.hid hN
  have hx2 := (at_new w #[.int .i64 0, .int .i64 0, .int .i64 0, .int .i64 0] 73).alloc (.cells #[.int .i64 0, .int .i64 0, .int .i64 0, .int .i64 0] 73)
  have hx3 : At ((w.alloc (.cells #[.int .i64 0, .int .i64 0, .int .i64 0, .int .i64 0] 73)).alloc (.cells #[.int .i64 0, .int .i64 0, .int .i64 0, .int .i64 0] 73)) (w.heap.size + 1) #[.int .i64 0, .int .i64 0, .int .i64 0, .int .i64 0] 73 := by
    have := at_new (w.alloc (.cells #[.int .i64 0, .int .i64 0, .int .i64 0, .int .i64 0] 73)) #[.int .i64 0, .int .i64 0, .int .i64 0, .int .i64 0] 73
    simpa using this
  have hB : Below w.heap.size w ((w.alloc (.cells #[.int .i64 0, .int .i64 0, .int .i64 0, .int .i64 0] 73)).alloc (.cells #[.int .i64 0, .int .i64 0, .int .i64 0, .int .i64 0] 73)) := ((Below.refl _ _).alloc (Nat.le_refl _) _).alloc (by simp) _
  obtain ⟨W1, hW⟩ : ∃ W1, (w.alloc (.cells #[.int .i64 0, .int .i64 0, .int .i64 0, .int .i64 0] 73)).alloc (.cells #[.int .i64 0, .int .i64 0, .int .i64 0, .int .i64 0] 73) = W1 := ⟨_, rfl⟩
  rw [hW] at hx2 hx3 hB
  obtain ⟨F, hF⟩ : ∃ F, strk l = F := ⟨_, rfl⟩
  have HF := Lib.hid hF
  rw [hF]
  unfold Skk.arr
  rw [hN] at hn hk ⊢
  clear h hr hN hF
  go_enter func111, ntmps111
  go_wp2_with fail
  try rw [hW]
  clear hW
  go_loopw [9] (fun s wr => ∃ j : Nat, j ≤ N ∧ s = .int .i64 j ∧ At wr w.heap.size #[.int .i64 0, .int .i64 0, .int .i64 0, .int .i64 0] 73 ∧ At wr (w.heap.size + 1) (strk (l.take j)).arr 73 ∧ Below w.heap.size w wr) (fun s _ => N - (numOf' s).toNat)
  case atStart => exact ⟨0, Nat.zero_le _, rfl, hx2, hx3, hB⟩
  case round =>
    clear hx2 hx3 hB
    obtain ⟨j, hj, rfl, hx2, hx3, hb⟩ := hrel
    by_cases hjN : j < N
    · obtain ⟨b, hbj⟩ : ∃ b, l[j]? = some b := ⟨_, List.getElem?_eq_getElem (by rw [HN.out]; exact hjN)⟩
      obtain ⟨kb, off, c1, e, -, p0⟩ := (HV.out.below hb).at hbj
      simp only [HN.out, Value.slice.injEq, true_and] at e
      obtain ⟨rfl, rfl⟩ := e
      have hjj : (j : Int) < (N : Int) := by omega
      have hnx : strk (l.take (j + 1)) = joinK (strk (l.take j)) (oneK b) := by rw [take_snoc hbj, strk_snoc]
      have hsm := strk_small (l := l.take j) (by rw [List.length_take]; omega)
      have HNX := Lib.hid hnx
      have cJ := join_w hsm (oneK_small b)
      obtain ⟨S, hS⟩ : ∃ S, strk (l.take j) = S := ⟨_, rfl⟩
      rw [hS] at cJ hx3
      have HS := Lib.hid hS
      obtain ⟨R, hR⟩ : ∃ R, joinK S (oneK b) = R := ⟨_, rfl⟩
      rw [hR] at cJ
      have HR : Hid (strk (l.take (j + 1)) = R) := Lib.hid (by rw [HNX.out, HS.out, hR])
      unfold Skk.arr at hx3 cJ
      have hwl : w.heap.size + 1 < wr.heap.size := hx3.lt
      clear hnx hsm hS hR
      cases b with
      | true =>
        have hal : Below wr.heap.size wr (wr.alloc (.cells #[.int .i64 1, .int .i64 1, .int .i64 1, .int .i64 1] 73)) := (Below.refl _ _).alloc (Nat.le_refl _) _
        have hx2 := hx2.below hal hx2.lt
        have hx3 := hx3.below hal hx3.lt
        have hb2 := hb.trans (hal.mono hb.size)
        have hx6 := at_new wr #[.int .i64 1, .int .i64 1, .int .i64 1, .int .i64 1] 73
        obtain ⟨⟨x0, x1, x2, x3⟩, f0, f1, f2, f3⟩ := box4 hx3
        obtain ⟨⟨z0, z1, z2, z3⟩, -⟩ := box4 hx6
        have fin := fun W9 => strk_fin (W9 := W9) hx2 hx3 hb2 R
        have FIN := Lib.hid fin
        simp only [oneK, if_true] at cJ
        clear hx2 hx3 hx6 hal hb fin
        go_wp2_with fail
        go_at_call 112
        refine (cJ _).mono ?_
        rintro e W9 ⟨rfl, hb9⟩
        obtain ⟨q1, q2, q3, q4⟩ := FIN.out W9 hb9
        unfold put4 at q1 q2 q3
        obtain ⟨⟨y0, y1, y2, y3⟩, g0, g1, g2, g3⟩ := box4 q4
        have Q := Lib.hid (And.intro q1 (And.intro q2 q3))
        clear cJ FIN x0 x1 x2 x3 f0 f1 f2 f3 z0 z1 z2 z3 q1 q2 q3 q4
        go_wp2_with fail
        go_roundw
        case rel => exact ⟨j + 1, by omega, by go_num, Q.out.1, by rw [HR.out]; exact Q.out.2.1, Q.out.2.2⟩
        case measure => simp [numOf'] <;> omega
      | false =>
        have hal : Below wr.heap.size wr (wr.alloc (.cells #[.int .i64 1, .int .i64 0, .int .i64 0, .int .i64 0] 73)) := (Below.refl _ _).alloc (Nat.le_refl _) _
        have hx2 := hx2.below hal hx2.lt
        have hx3 := hx3.below hal hx3.lt
        have hb2 := hb.trans (hal.mono hb.size)
        have hx6 := at_new wr #[.int .i64 1, .int .i64 0, .int .i64 0, .int .i64 0] 73
        obtain ⟨⟨x0, x1, x2, x3⟩, f0, f1, f2, f3⟩ := box4 hx3
        obtain ⟨⟨z0, z1, z2, z3⟩, -⟩ := box4 hx6
        have fin := fun W9 => strk_fin (W9 := W9) hx2 hx3 hb2 R
        have FIN := Lib.hid fin
        simp only [oneK, Bool.false_eq_true, if_false] at cJ
        clear hx2 hx3 hx6 hal hb fin
        go_wp2_with fail
        go_at_call 112
        refine (cJ _).mono ?_
        rintro e W9 ⟨rfl, hb9⟩
        obtain ⟨q1, q2, q3, q4⟩ := FIN.out W9 hb9
        unfold put4 at q1 q2 q3
        obtain ⟨⟨y0, y1, y2, y3⟩, g0, g1, g2, g3⟩ := box4 q4
        have Q := Lib.hid (And.intro q1 (And.intro q2 q3))
        clear cJ FIN x0 x1 x2 x3 f0 f1 f2 f3 z0 z1 z2 z3 q1 q2 q3 q4
        go_wp2_with fail
        go_roundw
        case rel => exact ⟨j + 1, by omega, by go_num, Q.out.1, by rw [HR.out]; exact Q.out.2.1, Q.out.2.2⟩
        case measure => simp [numOf'] <;> omega
    · obtain rfl : j = N := by omega
      have hlen : l.take j = l := List.take_of_length_le (by rw [HN.out]; exact Nat.le_refl _)
      rw [hlen] at hx3
      rw [HF.out] at hx3
      unfold Skk.arr at hx3
      have hz := hx2.put4 (.int .i64 F.g) (.int .i64 F.f) (.int .i64 F.l) (.int .i64 F.m)
      have hbz := below_put4 hb (Nat.le_refl _) (.int .i64 F.g) (.int .i64 F.f) (.int .i64 F.l) (.int .i64 F.m)
      obtain ⟨⟨x0, x1, x2, x3⟩, f0, f1, f2, f3⟩ := box4 hx3
      obtain ⟨⟨y0, y1, y2, y3⟩, g0, g1, g2, g3⟩ := box4 hx2
      clear hx2 hx3 hb hlen
      go_wp2_with fail
      exact bodyPost_ret (res111 rfl hz) rfl ⟨rfl, hbz⟩
end Go.Proofs.Tryz
