/- SamePlay of the reference; Canonical and Equal of the program: by the kit's walk. SamePlay and Equal in full. -/
import Derived.Test.YthlmjjdlmidnlaaGreatDoorAsH
import Derived.Test.YthlmjjdlmidnlaaGreatDoorAsB
import Derived.Deep.RegionWith
import Derived.Deep.DeepCutAuto
import Derived.BigRegion
import Derived.Deep.QuietTactic
import Derived.BigQuiet
namespace Go.Proofs.Tryz
open Go Go.Am Go.RowKit Go.Dr
set_option maxRecDepth 100000

theorem can_w {w : World} {y0 y1 : Int → Int} {yo yn eo en : Int} {lx : Bool} {d : Nat → MvD} {n : Nat} {s1 s2 : ByteArray} {ad : Option Addr} {c : Nat} (hL : Laid w) (hp : IsStr (.string s1) y0 yo yn) (he : IsStr (.string s2) y1 eo en) (hm : IsMoves w (.slice ad n c) d n) (hn : n ≤ 1000000) (hbn : ∀ i, i < n → (d i).bn ≤ 1000000) :
    Calls prog 101 #[.agg #[.string s1, .string s2, .bool lx, .slice ad n c]] w fun e w' => PlAns w' e (canE y0 yo yn y1 eo en d n) (canP s1 s2 lx y0 yo yn y1 eo en d n) ∧ Below w.heap.size w w' := by
  by_cases hbig : BigC yn d n
  · have e1 : canE y0 yo yn y1 eo en d n = 5 := if_pos hbig
    have e2 : canP s1 s2 lx y0 yo yn y1 eo en d n = zeroP := by unfold canP; rw [if_neg (by rw [e1]; decide)]
    rw [e1, e2]
    exact can_big hp hm hn hbig
  · exact can_go hL hp he hm hbn hbig

section
variable {w : World} {E : Int} {P : PlD} {s1 s2 : ByteArray} {lx : Bool} {ad : Option Addr} {n c : Nat}
theorem canon_w (hc : ∀ W, Below w.heap.size w W → Calls prog 101 #[.agg #[.string s1, .string s2, .bool lx, .slice ad n c]] W fun e w' => PlAns w' e E P ∧ Below W.heap.size W w') :
    Calls prog 53 #[.agg #[.string s1, .string s2, .bool lx, .slice ad n c]] w fun e w' => PlAns w' e E P ∧ Below w.heap.size w w' := by
  have hB : Below w.heap.size w ((w.alloc (.cells #[.string s1, .string s2, .bool lx, .slice ad n c] 24)).alloc (.cells #[.string ⟨#[]⟩, .string ⟨#[]⟩, .bool false, .slice none 0 0] 24)) := ((Below.refl _ _).alloc (Nat.le_refl _) _).alloc (by simp) _
  have cC := hc _ hB
  obtain ⟨q1, q2, qx, L⟩ := P
  clear hc
  go_enter func53, ntmps53
  go_wp2_with fail
  go_at_call 101
  refine cC.mono ?_
  rintro e w2 ⟨⟨mv, rfl, hm⟩, hk2⟩
  have hz := (at2_1 _ _ _ _ _).below hk2 (by rw [size2]; omega)
  obtain ⟨⟨z0, z1, z2, z3⟩, g0, g1, g2, g3⟩ := box4 hz
  have hb2 : Below w.heap.size w w2 := hB.trans (hk2.mono (by rw [size2]; omega))
  have hm' := hm
  obtain ⟨a, k, rfl, -, -⟩ := hm'
  dsimp only at hm ⊢
  have hfin : Below w.heap.size w ((((w2.setCell ⟨w.heap.size + 1, 0, none⟩ (.string q1)).setCell ⟨w.heap.size + 1, 1, none⟩ (.string q2)).setCell ⟨w.heap.size + 1, 2, none⟩ (.bool qx)).setCell ⟨w.heap.size + 1, 3, none⟩ (.slice a L.length k)) :=
    (((hb2.setCell (p := ⟨w.heap.size + 1, 0, none⟩) (by simp) _).setCell (p := ⟨w.heap.size + 1, 1, none⟩) (by simp) _).setCell (p := ⟨w.heap.size + 1, 2, none⟩) (by simp) _).setCell (p := ⟨w.heap.size + 1, 3, none⟩) (by simp) _
  have hmf := hm.set4 hz (.string q1) (.string q2) (.bool qx) (.slice a L.length k)
  have HM := Lib.hid hmf
  clear hmf hm cC
  go_wp2
  refine bodyPost_ret (v := .tuple #[.agg #[.string q1, .string q2, .bool qx, .slice a L.length k], .int .i64 E]) (by simp [results, results53, go_sem, World.cell?_setCell_same, z0, z1, z2, z3]) rfl ⟨⟨_, rfl, HM.out⟩, hfin⟩
end

/-- Two plays are the same. -/
def sameP (P Q : PlD) : Bool := (P.s1.toList == Q.s1.toList) && (P.s2.toList == Q.s2.toList) && (P.lx == Q.lx) && sameN (dOf P.L) P.L.length (dOf Q.L) Q.L.length

section
variable {w : World} {s1 s2 z1 z2 : ByteArray} {lx zx : Bool} {d d' : Nat → MvD} {n n' c c' : Nat} {ad ad' : Option Addr}
/-- Two plays with the same strings. -/
def headB (s1 s2 z1 z2 : ByteArray) (lx zx : Bool) (n n' : Nat) : Bool := (s1.toList == z1.toList) && (s2.toList == z2.toList) && (lx == zx) && decide (n = n')
theorem sp_no (h : headB s1 s2 z1 z2 lx zx n n' = false) : Calls prog 25 #[.agg #[.string s1, .string s2, .bool lx, .slice ad n c], .agg #[.string z1, .string z2, .bool zx, .slice ad' n' c']] w fun e w' => e = .returned (.bool false) ∧ Below w.heap.size w w' := by
  have hB : Below w.heap.size w ((w.alloc (.cells #[.string s1, .string s2, .bool lx, .slice ad n c] 24)).alloc (.cells #[.string z1, .string z2, .bool zx, .slice ad' n' c'] 24)) := ((Below.refl _ _).alloc (Nat.le_refl _) _).alloc (by simp) _
  unfold headB at h
  cases h1 : (s1.toList == z1.toList) with
  | false =>
    clear h
    go_enter func25, ntmps25
    go_wp2
    go_ret
    exact ⟨rfl, hB⟩
  | true =>
    cases h2 : (s2.toList == z2.toList) with
    | false =>
      clear h
      go_enter func25, ntmps25
      go_wp2
      go_ret
      exact ⟨rfl, hB⟩
    | true =>
      by_cases h3 : lx = zx
      · subst h3
        have hn : (n : Int) ≠ (n' : Int) := by
          rw [h1, h2] at h
          simp at h
          omega
        clear h
        go_enter func25, ntmps25
        cases lx <;> (go_wp2; go_ret; exact ⟨rfl, hB⟩)
      · clear h
        go_enter func25, ntmps25
        cases lx <;> cases zx <;> first | exact absurd rfl h3 | (go_wp2; go_ret; exact ⟨rfl, hB⟩)
set_option maxHeartbeats 3200000 in
theorem sp_go (hm : IsMoves w (.slice ad n c) d n) (hm' : IsMoves w (.slice ad' n c') d' n) (hn : n ≤ 1000000) (hb : ∀ i, i < n → (d i).bn ≤ 1000000) (h1 : (s1.toList == z1.toList) = true) (h2 : (s2.toList == z2.toList) = true) :
    Calls prog 25 #[.agg #[.string s1, .string s2, .bool lx, .slice ad n c], .agg #[.string z1, .string z2, .bool lx, .slice ad' n c']] w fun e w' => e = .returned (.bool (allK (fun i => sameMD (d i) (d' i)) n)) ∧ Below w.heap.size w w' := by
  have hB : Below w.heap.size w ((w.alloc (.cells #[.string s1, .string s2, .bool lx, .slice ad n c] 24)).alloc (.cells #[.string z1, .string z2, .bool lx, .slice ad' n c'] 24)) := ((Below.refl _ _).alloc (Nat.le_refl _) _).alloc (by simp) _
  have hx0 := at2_0 w #[.string s1, .string s2, .bool lx, .slice ad n c] #[.string z1, .string z2, .bool lx, .slice ad' n c'] 24 24
  have hy0 := at2_1 w #[.string s1, .string s2, .bool lx, .slice ad n c] #[.string z1, .string z2, .bool lx, .slice ad' n c'] 24 24
  by_cases h0 : n = 0
  · subst h0
    go_enter func25, ntmps25
    cases lx <;>
    · go_wp2
      refine wp_loop_rounds 1 ?_
      rw [rounds_succ]
      go_wp2
      go_ret
      exact ⟨rfl, hB⟩
  obtain ⟨r, hr⟩ : ∃ r, allK (fun i => sameMD (d i) (d' i)) n = r := ⟨_, rfl⟩
  have HR : Hid (allK (fun i => sameMD (d i) (d' i)) n = r) := Lib.hid hr
  rw [hr]
  obtain ⟨b, off, rfl, hnc, f, hf, hc1⟩ := m5_row hm h0
  obtain ⟨b', off', rfl, hnc', f', hf', hc2⟩ := m5_row hm' h0
  clear hr hm hm'
  go_enter func25, ntmps25
  obtain ⟨xb, hxb⟩ : ∃ xb, lx = xb := ⟨_, rfl⟩
  rw [hxb] at hx0 hy0 hB ⊢
  clear hxb
  have hxx : (xb == xb) = true := by simp
  have hxn : (xb != xb) = false := by simp
  have hxd : decide (xb = xb) = true := by simp
  go_wp2
  go_loopw [5] (fun z wr => ∃ i : Nat, i ≤ n ∧ z = .int .i64 i ∧ allK (fun i => sameMD (d i) (d' i)) i = true ∧ At wr w.heap.size #[.string s1, .string s2, .bool xb, .slice (some ⟨b, off, none⟩) n c] 24 ∧ At wr (w.heap.size + 1) #[.string z1, .string z2, .bool xb, .slice (some ⟨b', off', none⟩) n c'] 24 ∧ Below w.heap.size w wr) (fun z _ => n - (numOf' z).toNat)
  case atStart => exact ⟨0, Nat.zero_le _, rfl, rfl, hx0, hy0, hB⟩
  case round =>
    clear hx0 hy0 hB
    obtain ⟨i, hi, rfl, hall, hx, hy, hbel⟩ := hrel
    obtain ⟨⟨-, -, -, x3⟩, -⟩ := box4 hx
    obtain ⟨⟨-, -, -, y3⟩, -⟩ := box4 hy
    by_cases hin : i < n
    · have h1 := hf i hin
      have h2 := hf' i hin
      obtain ⟨p0, p1, p2, p3, p4⟩ := hc1 i hin
      obtain ⟨q0, q1, q2, q3, q4⟩ := hc2 i hin
      have hs := sameB_eq h1 h2
      have cT : ∀ W, Below w.heap.size w W → Calls prog 66 #[.slice (f i).a (f i).k (f i).c, .slice (f' i).a (f' i).k (f' i).c] W fun e w' => e = .returned (.bool (tchs (d i) == tchs (d' i))) ∧ Below W.heap.size W w' := fun W hW => same66_any (h1.below hW).2.2.2.2 (h2.below hW).2.2.2.2 (hb i hin)
      have hcel : ∀ {b o : Nat} {v : Value}, w.cell? ⟨b, o, none⟩ = some v → ∀ {W}, Below w.heap.size w W → W.cell? ⟨b, o, none⟩ = some v := fun h _ hW => cell_b h hW (cell_under h)
      have CP : Hid (∀ W, Below w.heap.size w W → (W.cell? ⟨b, off + i * 5, none⟩ = some (.int .i64 (f i).f1) ∧ W.cell? ⟨b, off + i * 5 + 1, none⟩ = some (.int .i64 (f i).f2) ∧ W.cell? ⟨b, off + i * 5 + 2, none⟩ = some (.bool (f i).xb) ∧ W.cell? ⟨b, off + i * 5 + 3, none⟩ = some (.string (f i).s) ∧ W.cell? ⟨b, off + i * 5 + 4, none⟩ = some (.slice (f i).a (f i).k (f i).c)) ∧
          (W.cell? ⟨b', off' + i * 5, none⟩ = some (.int .i64 (f' i).f1) ∧ W.cell? ⟨b', off' + i * 5 + 1, none⟩ = some (.int .i64 (f' i).f2) ∧ W.cell? ⟨b', off' + i * 5 + 2, none⟩ = some (.bool (f' i).xb) ∧ W.cell? ⟨b', off' + i * 5 + 3, none⟩ = some (.string (f' i).s) ∧ W.cell? ⟨b', off' + i * 5 + 4, none⟩ = some (.slice (f' i).a (f' i).k (f' i).c))) :=
        Lib.hid fun W hW => ⟨⟨hcel p0 hW, hcel p1 hW, hcel p2 hW, hcel p3 hW, hcel p4 hW⟩, hcel q0 hW, hcel q1 hW, hcel q2 hW, hcel q3 hW, hcel q4 hW⟩
      clear p0 p1 p2 p3 p4 q0 q1 q2 q3 q4
      generalize f i = m at CP cT hs
      generalize f' i = m' at CP cT hs
      have cM : ∀ W, Below w.heap.size w W → Calls prog 36 #[.agg #[.int .i64 m.f1, .int .i64 m.f2, .bool m.xb, .string m.s, .slice m.a m.k m.c], .agg #[.int .i64 m'.f1, .int .i64 m'.f2, .bool m'.xb, .string m'.s, .slice m'.a m'.k m'.c]] W fun e w' => e = .returned (.bool (sameMD (d i) (d' i))) ∧ Below W.heap.size W w' := fun W hW => by
        have := move36_b m m' (tchs (d i) == tchs (d' i)) W (fun W' hW' => cT W' (hW.trans (hW'.mono hW.size)))
        rw [hs] at this
        exact this
      clear hc1 hc2 hf hf' h1 h2 hcel hb hs cT
      have i0 : (0 : Int) ≤ (i : Int) := by omega
      have i1 : (i : Int) < (n : Int) := by omega
      have hdr : Below wr.heap.size wr wr.drew := (Below.refl _ _).drew
      obtain ⟨⟨p0, p1, p2, p3, p4⟩, q0, q1, q2, q3, q4⟩ := CP.out wr hbel
      obtain ⟨sm, hsm⟩ : ∃ sm, sameMD (d i) (d' i) = sm := ⟨_, rfl⟩
      rw [hsm] at cM
      have HS : Hid (sameMD (d i) (d' i) = sm) := Lib.hid hsm
      have HA : Hid (allK (fun i => sameMD (d i) (d' i)) i = true) := Lib.hid hall
      clear hsm hall
      cases sm with
      | false =>
        have hrf : r = false := by rw [← HR.out]; exact allK_no hin HS.out
        subst hrf
        go_wp2_with fail
        go_region_held3 (fun W => W.cell? ⟨w.heap.size, 3, none⟩ = some (.slice (some ⟨b, off, none⟩) n c) ∧ W.cell? ⟨w.heap.size + 1, 3, none⟩ = some (.slice (some ⟨b', off', none⟩) n c') ∧ W.cell? ⟨b, off + i * 5, none⟩ = some (.int .i64 m.f1) ∧ W.cell? ⟨b, off + i * 5 + 1, none⟩ = some (.int .i64 m.f2) ∧ W.cell? ⟨b, off + i * 5 + 2, none⟩ = some (.bool m.xb) ∧ W.cell? ⟨b, off + i * 5 + 3, none⟩ = some (.string m.s) ∧ W.cell? ⟨b, off + i * 5 + 4, none⟩ = some (.slice m.a m.k m.c) ∧ W.cell? ⟨b', off' + i * 5, none⟩ = some (.int .i64 m'.f1) ∧ W.cell? ⟨b', off' + i * 5 + 1, none⟩ = some (.int .i64 m'.f2) ∧ W.cell? ⟨b', off' + i * 5 + 2, none⟩ = some (.bool m'.xb) ∧ W.cell? ⟨b', off' + i * 5 + 3, none⟩ = some (.string m'.s) ∧ W.cell? ⟨b', off' + i * 5 + 4, none⟩ = some (.slice m'.a m'.k m'.c) ∧ Below wr.heap.size wr W)
          (go_keep)
          (first
            | (go_at_call 36; refine Calls.mono (cM _ ?_) ?_; (exact hbel.trans (Below.mono (B := wr.heap.size) (by assumption) hbel.size)); rintro e W ⟨rfl, hkk⟩; have hbk := Below.trans (B := wr.heap.size) (a := wr) (by assumption) (Below.mono hkk (Below.size (B := wr.heap.size) (w := wr) (by assumption))); obtain ⟨⟨p0, p1, p2, p3, p4⟩, q0, q1, q2, q3, q4⟩ := CP.out W (hbel.trans (hbk.mono hbel.size)); obtain ⟨⟨-, -, -, x3⟩, -⟩ := box4 (hx.below hbk hx.lt); obtain ⟨⟨-, -, -, y3⟩, -⟩ := box4 (hy.below hbk hy.lt)))
        all_goals (go_wp2; go_ret; exact ⟨rfl, hbel.trans (hbk.mono hbel.size)⟩)
      | true =>
        have hall' : Hid (allK (fun i => sameMD (d i) (d' i)) (i + 1) = true) := Lib.hid (by rw [allK, HA.out, HS.out]; rfl)
        go_wp2_with fail
        go_region_held3 (fun W => W.cell? ⟨w.heap.size, 3, none⟩ = some (.slice (some ⟨b, off, none⟩) n c) ∧ W.cell? ⟨w.heap.size + 1, 3, none⟩ = some (.slice (some ⟨b', off', none⟩) n c') ∧ W.cell? ⟨b, off + i * 5, none⟩ = some (.int .i64 m.f1) ∧ W.cell? ⟨b, off + i * 5 + 1, none⟩ = some (.int .i64 m.f2) ∧ W.cell? ⟨b, off + i * 5 + 2, none⟩ = some (.bool m.xb) ∧ W.cell? ⟨b, off + i * 5 + 3, none⟩ = some (.string m.s) ∧ W.cell? ⟨b, off + i * 5 + 4, none⟩ = some (.slice m.a m.k m.c) ∧ W.cell? ⟨b', off' + i * 5, none⟩ = some (.int .i64 m'.f1) ∧ W.cell? ⟨b', off' + i * 5 + 1, none⟩ = some (.int .i64 m'.f2) ∧ W.cell? ⟨b', off' + i * 5 + 2, none⟩ = some (.bool m'.xb) ∧ W.cell? ⟨b', off' + i * 5 + 3, none⟩ = some (.string m'.s) ∧ W.cell? ⟨b', off' + i * 5 + 4, none⟩ = some (.slice m'.a m'.k m'.c) ∧ Below wr.heap.size wr W)
          (go_keep)
          (first
            | (go_at_call 36; refine Calls.mono (cM _ ?_) ?_; (exact hbel.trans (Below.mono (B := wr.heap.size) (by assumption) hbel.size)); rintro e W ⟨rfl, hkk⟩; have hbk := Below.trans (B := wr.heap.size) (a := wr) (by assumption) (Below.mono hkk (Below.size (B := wr.heap.size) (w := wr) (by assumption))); obtain ⟨⟨p0, p1, p2, p3, p4⟩, q0, q1, q2, q3, q4⟩ := CP.out W (hbel.trans (hbk.mono hbel.size)); obtain ⟨⟨-, -, -, x3⟩, -⟩ := box4 (hx.below hbk hx.lt); obtain ⟨⟨-, -, -, y3⟩, -⟩ := box4 (hy.below hbk hy.lt)))
        all_goals (go_wp2; go_roundw; (case rel => exact ⟨i + 1, by omega, by go_num, hall'.out, hx.below hbk hx.lt, hy.below hbk hy.lt, hbel.trans (hbk.mono hbel.size)⟩); (case measure => simp [numOf'] <;> omega))
    · obtain rfl : i = n := by omega
      have hrt : r = true := by rw [← HR.out]; exact hall
      subst hrt
      clear hc1 hc2 hf hf' hb hall
      go_wp2
      go_ret
      exact ⟨rfl, hbel⟩
end
end Go.Proofs.Tryz

namespace Go.Proofs.Tryz
open Go Go.Am Go.RowKit Go.Dr
set_option maxRecDepth 100000

theorem allK_same (d d' : Nat → MvD) (n : Nat) : sameN d n d' n = allK (fun i => sameMD (d i) (d' i)) n := by simp [sameN]
section
variable {w : World} {s1 s2 z1 z2 : ByteArray} {lx zx : Bool} {d d' : Nat → MvD} {n n' c c' : Nat} {ad ad' : Option Addr}
theorem samePlay_w (hm : IsMoves w (.slice ad n c) d n) (hm' : IsMoves w (.slice ad' n' c') d' n') (hn : n ≤ 1000000) (hb : ∀ i, i < n → (d i).bn ≤ 1000000) :
    Calls prog 25 #[.agg #[.string s1, .string s2, .bool lx, .slice ad n c], .agg #[.string z1, .string z2, .bool zx, .slice ad' n' c']] w fun e w' => e = .returned (.bool ((s1.toList == z1.toList) && (s2.toList == z2.toList) && (lx == zx) && sameN d n d' n')) ∧ Below w.heap.size w w' := by
  cases hh : headB s1 s2 z1 z2 lx zx n n' with
  | false =>
    have e : ((s1.toList == z1.toList) && (s2.toList == z2.toList) && (lx == zx) && sameN d n d' n') = false := by
      unfold headB at hh
      unfold sameN
      by_cases h4 : n = n'
      · simp only [h4, decide_true, Bool.and_true, Bool.true_and] at hh ⊢
        rw [hh]; rfl
      · simp [h4]
    rw [e]
    exact sp_no hh
  | true =>
    unfold headB at hh
    simp only [Bool.and_eq_true, decide_eq_true_eq, beq_iff_eq] at hh
    obtain ⟨⟨⟨h1, h2⟩, h3⟩, h4⟩ := hh
    subst h3 h4
    have e : ((s1.toList == z1.toList) && (s2.toList == z2.toList) && (lx == lx) && sameN d n d' n) = allK (fun i => sameMD (d i) (d' i)) n := by
      rw [allK_same]; simp [h1, h2]
    rw [e]
    exact sp_go hm hm' hn hb (by simp [h1]) (by simp [h2])
end

/-- A play that is not too large. -/
def SmallP (P : PlD) : Prop := P.L.length ≤ 1000000 ∧ ∀ i, i < P.L.length → (dOf P.L i).bn ≤ 1000000
/-- What Equal answers. -/
def eqE (E1 E2 : Int) : Int := if E1 = 0 then E2 else E1
def eqB (E1 E2 : Int) (P1 P2 : PlD) : Bool := decide (eqE E1 E2 = 0) && sameP P1 P2

section
variable {w : World} {E1 E2 : Int} {P1 P2 : PlD} {s1 s2 z1 z2 : ByteArray} {lx zx : Bool} {n n' c c' : Nat} {ad ad' : Option Addr}
set_option maxHeartbeats 3200000 in
theorem equal_w (hc1 : ∀ W, Below w.heap.size w W → Calls prog 101 #[.agg #[.string s1, .string s2, .bool lx, .slice ad n c]] W fun e w' => PlAns w' e E1 P1 ∧ Below W.heap.size W w')
    (hc2 : ∀ W, Below w.heap.size w W → Calls prog 101 #[.agg #[.string z1, .string z2, .bool zx, .slice ad' n' c']] W fun e w' => PlAns w' e E2 P2 ∧ Below W.heap.size W w') (hS : SmallP P1) :
    Calls prog 54 #[.agg #[.string s1, .string s2, .bool lx, .slice ad n c], .agg #[.string z1, .string z2, .bool zx, .slice ad' n' c']] w fun e w' => e = .returned (.tuple #[.bool (eqB E1 E2 P1 P2), .int .i64 (eqE E1 E2)]) ∧ Below w.heap.size w w' := by
  have hB : Below w.heap.size w ((w.alloc (.cells #[.string s1, .string s2, .bool lx, .slice ad n c] 24)).alloc (.cells #[.string z1, .string z2, .bool zx, .slice ad' n' c'] 24)) := ((Below.refl _ _).alloc (Nat.le_refl _) _).alloc (by simp) _
  have cA := hc1 _ hB
  obtain ⟨v, hv⟩ : ∃ v : Int, eqE E1 E2 = v := ⟨_, rfl⟩
  have cF : ∀ (b : Nat) (W : World), W.cell? ⟨b, 0, none⟩ = some (.int .i64 E1) → W.cell? ⟨b, 1, none⟩ = some (.int .i64 E2) → Calls prog 70 #[.slice (some ⟨b, 0, none⟩) 2 2] W fun e w' => e = .returned (.int .i64 v) ∧ Below W.heap.size W w' := fun b W h0 h1 => by rw [← hv]; exact first_w b E1 E2 W h0 h1
  obtain ⟨r, hr⟩ : ∃ r, eqB E1 E2 P1 P2 = r := ⟨_, rfl⟩
  have HR : Hid ((decide (v = 0) && sameP P1 P2) = r) := Lib.hid (by rw [← hr, ← hv]; rfl)
  rw [hr, hv]
  obtain ⟨p1, p2, px, L⟩ := P1
  obtain ⟨q1, q2, qx, M⟩ := P2
  obtain ⟨hS1, hS2⟩ := hS
  dsimp only at hS1 hS2
  clear hr hv hc1
  go_enter func54, ntmps54
  go_wp2_with fail
  go_at_call 101
  refine cA.mono ?_
  rintro e w2 ⟨⟨mv, rfl, hm⟩, hk2⟩
  have hm' := hm
  obtain ⟨a1, k1, rfl, -, -⟩ := hm'
  dsimp only at hm ⊢
  have hy2 := (at2_1 _ _ _ _ _).below hk2 (by rw [size2]; omega)
  have hb2 : Below w.heap.size w w2 := hB.trans (hk2.mono (by rw [size2]; omega))
  have hb3 := hb2.alloc hb2.size (.cells #[.string p1, .string p2, .bool px, .slice a1 L.length k1] 24)
  have hx3 := at_new w2 #[.string p1, .string p2, .bool px, .slice a1 L.length k1] 24
  have hm3 := hm.below ((Below.refl w2.heap.size w2).alloc (Nat.le_refl _) (.cells #[.string p1, .string p2, .bool px, .slice a1 L.length k1] 24))
  have hy3 := hy2.alloc (.cells #[.string p1, .string p2, .bool px, .slice a1 L.length k1] 24)
  obtain ⟨⟨y0, y1, y2, y3⟩, -⟩ := box4 hy3
  have cB := hc2 _ hb3
  clear cA hc2 hm hy2 hk2 hB hb2
  go_wp2_with fail
  go_at_call 101
  refine cB.mono ?_
  rintro e w4 ⟨⟨mv, rfl, hm⟩, hk4⟩
  have hm' := hm
  obtain ⟨a2, k2, rfl, -, -⟩ := hm'
  dsimp only at hm ⊢
  have hx4 := hx3.below hk4 hx3.lt
  have hb4 := hb3.trans (hk4.mono hb3.size)
  have hm4 := hm3.below hk4
  have hb5 := hb4.alloc hb4.size (.cells #[.string q1, .string q2, .bool qx, .slice a2 M.length k2] 24)
  have hz5 := at_new w4 #[.string q1, .string q2, .bool qx, .slice a2 M.length k2] 24
  have hx5 := hx4.alloc (.cells #[.string q1, .string q2, .bool qx, .slice a2 M.length k2] 24)
  have hal := (Below.refl w4.heap.size w4).alloc (Nat.le_refl _) (.cells #[.string q1, .string q2, .bool qx, .slice a2 M.length k2] 24)
  have hm5 := hm4.below hal
  have hn5 := hm.below hal
  have hlt5 := hx4.lt
  clear cB hm hy3 hk4 hb3 hx3 hm3 hx4 hb4 hm4 hal y0 y1 y2 y3
  go_wp2_with fail
  go_at_call 70
  refine (cF _ _ (by simp) (by simp)).mono ?_
  rintro e w6 ⟨rfl, hk6⟩
  have hbA := hb5.alloc hb5.size (.cells #[.int .i64 E1, .int .i64 E2] 30)
  have hb6 := hbA.trans (hk6.mono hbA.size)
  have hal6 := ((Below.refl _ _).alloc (Nat.le_refl _) (.cells #[.int .i64 E1, .int .i64 E2] 30)).trans (hk6.mono (by simp))
  have hx6 := hx5.below hal6 hx5.lt
  have hz6 := hz5.below hal6 hz5.lt
  have hm6 := hm5.below hal6
  have hn6 := hn5.below hal6
  clear cF hx5 hz5 hm5 hn5 hk6 hb5 hbA hal6
  by_cases hv0 : v = 0
  case neg =>
    have hrf : r = false := by rw [← HR.out]; simp [hv0]
    subst hrf
    go_wp2
    go_ret2
    exact ⟨rfl, hb6⟩
  have HR2 : Hid (sameP ⟨p1, p2, px, L⟩ ⟨q1, q2, qx, M⟩ = r) := Lib.hid (by rw [← HR.out, hv0]; simp)
  clear HR
  subst hv0
  have cE := eqf_w hm6 hn6 hS1 hS2
  obtain ⟨sn, hsn⟩ : ∃ sn, sameN (dOf L) L.length (dOf M) M.length = sn := ⟨_, rfl⟩
  rw [hsn] at cE
  have HR3 : Hid (((p1.toList == q1.toList) && (p2.toList == q2.toList) && (px == qx) && sn) = r) := Lib.hid (by rw [← HR2.out, ← hsn]; rfl)
  obtain ⟨⟨x0, x1, x2, x3⟩, -⟩ := box4 hx6
  obtain ⟨⟨z0', z1', z2', z3'⟩, -⟩ := box4 hz6
  clear hsn HR2 hm6 hn6
  go_wp2_with fail
  go_at_call 102
  refine cE.mono ?_
  rintro e w7 ⟨rfl, hk7⟩
  have hx7 := hx6.below hk7 hx6.lt
  have hz7 := hz6.below hk7 hz6.lt
  have hb7 := hb6.trans (hk7.mono hb6.size)
  clear x0 x1 x2 x3 z0' z1' z2' z3' hx6 hz6 cE hk7
  obtain ⟨⟨x0, x1, x2, x3⟩, -⟩ := box4 hx7
  obtain ⟨⟨z0', z1', z2', z3'⟩, -⟩ := box4 hz7
  have h3 := HR3.out
  cases sn with
  | false =>
    have hrf : r = false := by rw [← h3]; simp
    subst hrf
    clear h3
    go_wp2
    go_ret2
    exact ⟨rfl, hb7⟩
  | true =>
    cases h1 : (p1.toList == q1.toList) with
    | false =>
      have hrf : r = false := by rw [← h3, h1]; simp
      subst hrf
      clear h3
      go_wp2
      go_ret2
      exact ⟨rfl, hb7⟩
    | true =>
      cases h2 : (p2.toList == q2.toList) with
      | false =>
        have hrf : r = false := by rw [← h3, h2]; simp
        subst hrf
        clear h3
        go_wp2
        go_ret2
        exact ⟨rfl, hb7⟩
      | true =>
        rw [h1, h2] at h3
        have hrx : r = (px == qx) := by rw [← h3]; simp
        subst hrx
        clear h3
        cases px <;> cases qx <;> (go_wp2; go_ret2; exact ⟨rfl, hb7⟩)
end
end Go.Proofs.Tryz
