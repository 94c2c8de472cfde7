/- SamePlay of the reference; Canonical and Equal of the program: by the kit's walk. SamePlay and Equal in full. The reference's plain touches and moves that stay, by the kit's walk. What PlayLoose shares with PlayCanons, without the reference's canonical form. -/
import Derived.Test.YthlmjjdlmidnlaaGreatDoorAsH
import Derived.Test.YthlmjjdlmidnlaaGreatDoorAsB
import Derived.Deep.RegionWith
import Derived.Deep.DeepCutAuto
import Derived.BigRegion
import Derived.Deep.QuietTactic
import Derived.BigQuiet
import Derived.Test.YthlmjjdlmidnlaaGreatDoorArWh
import Derived.Test.YthlmjjdlmidnlaaGreatDoorArVf
import Derived.Shelf.SlIterI.Nil
import Derived.Shelf.SortM.Plain
import Derived.Shelf.SortM.SortNone
import Derived.Ground.GgzProg
import Derived.Ground.SlgmProg
import Derived.Test.YthlmjjdlmidnlaaGreatDoorProg
import Derived.Test.YthlmjjdlmidnlaaGreatDoorArVc
import Derived.Lib.Hide
import Derived.Test.YthlmjjdlmidnlaaGreatDoorArWe
import Derived.Test.YthlmjjdlmidnlaaGreatDoorAsC
import Derived.Deep.RegionHeld3
namespace Go.Proofs.Tryz
open Go Go.Am Go.RowKit Go.Dr
set_option maxRecDepth 100000

theorem can_w {w : World} {y0 y1 : Int → Int} {yo yn eo en : Int} {lx : Bool} {d : Nat → MvD} {n : Nat} {s1 s2 : ByteArray} {ad : Option Addr} {c : Nat} (hL : Laid w) (hp : IsStr (.string s1) y0 yo yn) (he : IsStr (.string s2) y1 eo en) (hm : IsMoves w (.slice ad n c) d n) (hn : n ≤ 1000000) (hbn : ∀ i, i < n → (d i).bn ≤ 1000000) :
    Calls prog 101 #[.agg #[.string s1, .string s2, .bool lx, .slice ad n c]] w fun e w' => PlAns w' e (canE y0 yo yn y1 eo en d n) (canP s1 s2 lx y0 yo yn y1 eo en d n) ∧ Below w.heap.size w w' := by
  by_cases hbig : BigC yn d n
  · have e1 : canE y0 yo yn y1 eo en d n = 5 := if_pos hbig
    have e2 : canP s1 s2 lx y0 yo yn y1 eo en d n = zeroP := by unfold canP; rw [if_neg (by rw [e1]; decide)]
    rw [e1, e2]
    exact can_big hp hm hn hbig
  · exact can_go hL hp he hm hbn hbig

section
variable {w : World} {E : Int} {P : PlD} {s1 s2 : ByteArray} {lx : Bool} {ad : Option Addr} {n c : Nat}
theorem canon_w (hc : ∀ W, Below w.heap.size w W → Calls prog 101 #[.agg #[.string s1, .string s2, .bool lx, .slice ad n c]] W fun e w' => PlAns w' e E P ∧ Below W.heap.size W w') :
    Calls prog 53 #[.agg #[.string s1, .string s2, .bool lx, .slice ad n c]] w fun e w' => PlAns w' e E P ∧ Below w.heap.size w w' := by
  have hB : Below w.heap.size w ((w.alloc (.cells #[.string s1, .string s2, .bool lx, .slice ad n c] 24)).alloc (.cells #[.string ⟨#[]⟩, .string ⟨#[]⟩, .bool false, .slice none 0 0] 24)) := ((Below.refl _ _).alloc (Nat.le_refl _) _).alloc (by simp) _
  have cC := hc _ hB
  obtain ⟨q1, q2, qx, L⟩ := P
  clear hc
  go_enter func53, ntmps53
  go_wp2_with fail
  go_at_call 101
  refine cC.mono ?_
  rintro e w2 ⟨⟨mv, rfl, hm⟩, hk2⟩
  have hz := (at2_1 _ _ _ _ _).below hk2 (by rw [size2]; omega)
  obtain ⟨⟨z0, z1, z2, z3⟩, g0, g1, g2, g3⟩ := box4 hz
  have hb2 : Below w.heap.size w w2 := hB.trans (hk2.mono (by rw [size2]; omega))
  have hm' := hm
  obtain ⟨a, k, rfl, -, -⟩ := hm'
  dsimp only at hm ⊢
  have hfin : Below w.heap.size w ((((w2.setCell ⟨w.heap.size + 1, 0, none⟩ (.string q1)).setCell ⟨w.heap.size + 1, 1, none⟩ (.string q2)).setCell ⟨w.heap.size + 1, 2, none⟩ (.bool qx)).setCell ⟨w.heap.size + 1, 3, none⟩ (.slice a L.length k)) :=
    (((hb2.setCell (p := ⟨w.heap.size + 1, 0, none⟩) (by simp) _).setCell (p := ⟨w.heap.size + 1, 1, none⟩) (by simp) _).setCell (p := ⟨w.heap.size + 1, 2, none⟩) (by simp) _).setCell (p := ⟨w.heap.size + 1, 3, none⟩) (by simp) _
  have hmf := hm.set4 hz (.string q1) (.string q2) (.bool qx) (.slice a L.length k)
  have HM := Lib.hid hmf
  clear hmf hm cC
  go_wp2
  refine bodyPost_ret (v := .tuple #[.agg #[.string q1, .string q2, .bool qx, .slice a L.length k], .int .i64 E]) (by simp [results, results53, go_sem, World.cell?_setCell_same, z0, z1, z2, z3]) rfl ⟨⟨_, rfl, HM.out⟩, hfin⟩
end

/-- Two plays are the same. -/
def sameP (P Q : PlD) : Bool := (P.s1.toList == Q.s1.toList) && (P.s2.toList == Q.s2.toList) && (P.lx == Q.lx) && sameN (dOf P.L) P.L.length (dOf Q.L) Q.L.length

section
variable {w : World} {s1 s2 z1 z2 : ByteArray} {lx zx : Bool} {d d' : Nat → MvD} {n n' c c' : Nat} {ad ad' : Option Addr}
/-- Two plays with the same strings. -/
def headB (s1 s2 z1 z2 : ByteArray) (lx zx : Bool) (n n' : Nat) : Bool := (s1.toList == z1.toList) && (s2.toList == z2.toList) && (lx == zx) && decide (n = n')
theorem sp_no (h : headB s1 s2 z1 z2 lx zx n n' = false) : Calls prog 25 #[.agg #[.string s1, .string s2, .bool lx, .slice ad n c], .agg #[.string z1, .string z2, .bool zx, .slice ad' n' c']] w fun e w' => e = .returned (.bool false) ∧ Below w.heap.size w w' := by
  have hB : Below w.heap.size w ((w.alloc (.cells #[.string s1, .string s2, .bool lx, .slice ad n c] 24)).alloc (.cells #[.string z1, .string z2, .bool zx, .slice ad' n' c'] 24)) := ((Below.refl _ _).alloc (Nat.le_refl _) _).alloc (by simp) _
  unfold headB at h
  cases h1 : (s1.toList == z1.toList) with
  | false =>
    clear h
    go_enter func25, ntmps25
    go_wp2
    go_ret
    exact ⟨rfl, hB⟩
  | true =>
    cases h2 : (s2.toList == z2.toList) with
    | false =>
      clear h
      go_enter func25, ntmps25
      go_wp2
      go_ret
      exact ⟨rfl, hB⟩
    | true =>
      by_cases h3 : lx = zx
      · subst h3
        have hn : (n : Int) ≠ (n' : Int) := by
          rw [h1, h2] at h
          simp at h
          omega
        clear h
        go_enter func25, ntmps25
        cases lx <;> (go_wp2; go_ret; exact ⟨rfl, hB⟩)
      · clear h
        go_enter func25, ntmps25
        cases lx <;> cases zx <;> first | exact absurd rfl h3 | (go_wp2; go_ret; exact ⟨rfl, hB⟩)
set_option maxHeartbeats 3200000 in
theorem sp_go (hm : IsMoves w (.slice ad n c) d n) (hm' : IsMoves w (.slice ad' n c') d' n) (hn : n ≤ 1000000) (hb : ∀ i, i < n → (d i).bn ≤ 1000000) (h1 : (s1.toList == z1.toList) = true) (h2 : (s2.toList == z2.toList) = true) :
    Calls prog 25 #[.agg #[.string s1, .string s2, .bool lx, .slice ad n c], .agg #[.string z1, .string z2, .bool lx, .slice ad' n c']] w fun e w' => e = .returned (.bool (allK (fun i => sameMD (d i) (d' i)) n)) ∧ Below w.heap.size w w' := by
  have hB : Below w.heap.size w ((w.alloc (.cells #[.string s1, .string s2, .bool lx, .slice ad n c] 24)).alloc (.cells #[.string z1, .string z2, .bool lx, .slice ad' n c'] 24)) := ((Below.refl _ _).alloc (Nat.le_refl _) _).alloc (by simp) _
  have hx0 := at2_0 w #[.string s1, .string s2, .bool lx, .slice ad n c] #[.string z1, .string z2, .bool lx, .slice ad' n c'] 24 24
  have hy0 := at2_1 w #[.string s1, .string s2, .bool lx, .slice ad n c] #[.string z1, .string z2, .bool lx, .slice ad' n c'] 24 24
  by_cases h0 : n = 0
  · subst h0
    go_enter func25, ntmps25
    cases lx <;>
    · go_wp2
      refine wp_loop_rounds 1 ?_
      rw [rounds_succ]
      go_wp2
      go_ret
      exact ⟨rfl, hB⟩
  obtain ⟨r, hr⟩ : ∃ r, allK (fun i => sameMD (d i) (d' i)) n = r := ⟨_, rfl⟩
  have HR : Hid (allK (fun i => sameMD (d i) (d' i)) n = r) := Lib.hid hr
  rw [hr]
  obtain ⟨b, off, rfl, hnc, f, hf, hc1⟩ := m5_row hm h0
  obtain ⟨b', off', rfl, hnc', f', hf', hc2⟩ := m5_row hm' h0
  clear hr hm hm'
  go_enter func25, ntmps25
  obtain ⟨xb, hxb⟩ : ∃ xb, lx = xb := ⟨_, rfl⟩
  rw [hxb] at hx0 hy0 hB ⊢
  clear hxb
  have hxx : (xb == xb) = true := by simp
  have hxn : (xb != xb) = false := by simp
  have hxd : decide (xb = xb) = true := by simp
  go_wp2
  go_loopw [5] (fun z wr => ∃ i : Nat, i ≤ n ∧ z = .int .i64 i ∧ allK (fun i => sameMD (d i) (d' i)) i = true ∧ At wr w.heap.size #[.string s1, .string s2, .bool xb, .slice (some ⟨b, off, none⟩) n c] 24 ∧ At wr (w.heap.size + 1) #[.string z1, .string z2, .bool xb, .slice (some ⟨b', off', none⟩) n c'] 24 ∧ Below w.heap.size w wr) (fun z _ => n - (numOf' z).toNat)
  case atStart => exact ⟨0, Nat.zero_le _, rfl, rfl, hx0, hy0, hB⟩
  case round =>
    clear hx0 hy0 hB
    obtain ⟨i, hi, rfl, hall, hx, hy, hbel⟩ := hrel
    obtain ⟨⟨-, -, -, x3⟩, -⟩ := box4 hx
    obtain ⟨⟨-, -, -, y3⟩, -⟩ := box4 hy
    by_cases hin : i < n
    · have h1 := hf i hin
      have h2 := hf' i hin
      obtain ⟨p0, p1, p2, p3, p4⟩ := hc1 i hin
      obtain ⟨q0, q1, q2, q3, q4⟩ := hc2 i hin
      have hs := sameB_eq h1 h2
      have cT : ∀ W, Below w.heap.size w W → Calls prog 66 #[.slice (f i).a (f i).k (f i).c, .slice (f' i).a (f' i).k (f' i).c] W fun e w' => e = .returned (.bool (tchs (d i) == tchs (d' i))) ∧ Below W.heap.size W w' := fun W hW => same66_any (h1.below hW).2.2.2.2 (h2.below hW).2.2.2.2 (hb i hin)
      have hcel : ∀ {b o : Nat} {v : Value}, w.cell? ⟨b, o, none⟩ = some v → ∀ {W}, Below w.heap.size w W → W.cell? ⟨b, o, none⟩ = some v := fun h _ hW => cell_b h hW (cell_under h)
      have CP : Hid (∀ W, Below w.heap.size w W → (W.cell? ⟨b, off + i * 5, none⟩ = some (.int .i64 (f i).f1) ∧ W.cell? ⟨b, off + i * 5 + 1, none⟩ = some (.int .i64 (f i).f2) ∧ W.cell? ⟨b, off + i * 5 + 2, none⟩ = some (.bool (f i).xb) ∧ W.cell? ⟨b, off + i * 5 + 3, none⟩ = some (.string (f i).s) ∧ W.cell? ⟨b, off + i * 5 + 4, none⟩ = some (.slice (f i).a (f i).k (f i).c)) ∧
          (W.cell? ⟨b', off' + i * 5, none⟩ = some (.int .i64 (f' i).f1) ∧ W.cell? ⟨b', off' + i * 5 + 1, none⟩ = some (.int .i64 (f' i).f2) ∧ W.cell? ⟨b', off' + i * 5 + 2, none⟩ = some (.bool (f' i).xb) ∧ W.cell? ⟨b', off' + i * 5 + 3, none⟩ = some (.string (f' i).s) ∧ W.cell? ⟨b', off' + i * 5 + 4, none⟩ = some (.slice (f' i).a (f' i).k (f' i).c))) :=
        Lib.hid fun W hW => ⟨⟨hcel p0 hW, hcel p1 hW, hcel p2 hW, hcel p3 hW, hcel p4 hW⟩, hcel q0 hW, hcel q1 hW, hcel q2 hW, hcel q3 hW, hcel q4 hW⟩
      clear p0 p1 p2 p3 p4 q0 q1 q2 q3 q4
      generalize f i = m at CP cT hs
      generalize f' i = m' at CP cT hs
      have cM : ∀ W, Below w.heap.size w W → Calls prog 36 #[.agg #[.int .i64 m.f1, .int .i64 m.f2, .bool m.xb, .string m.s, .slice m.a m.k m.c], .agg #[.int .i64 m'.f1, .int .i64 m'.f2, .bool m'.xb, .string m'.s, .slice m'.a m'.k m'.c]] W fun e w' => e = .returned (.bool (sameMD (d i) (d' i))) ∧ Below W.heap.size W w' := fun W hW => by
        have := move36_b m m' (tchs (d i) == tchs (d' i)) W (fun W' hW' => cT W' (hW.trans (hW'.mono hW.size)))
        rw [hs] at this
        exact this
      clear hc1 hc2 hf hf' h1 h2 hcel hb hs cT
      have i0 : (0 : Int) ≤ (i : Int) := by omega
      have i1 : (i : Int) < (n : Int) := by omega
      have hdr : Below wr.heap.size wr wr.drew := (Below.refl _ _).drew
      obtain ⟨⟨p0, p1, p2, p3, p4⟩, q0, q1, q2, q3, q4⟩ := CP.out wr hbel
      obtain ⟨sm, hsm⟩ : ∃ sm, sameMD (d i) (d' i) = sm := ⟨_, rfl⟩
      rw [hsm] at cM
      have HS : Hid (sameMD (d i) (d' i) = sm) := Lib.hid hsm
      have HA : Hid (allK (fun i => sameMD (d i) (d' i)) i = true) := Lib.hid hall
      clear hsm hall
      cases sm with
      | false =>
        have hrf : r = false := by rw [← HR.out]; exact allK_no hin HS.out
        subst hrf
        go_wp2_with fail
        go_region_held3 (fun W => W.cell? ⟨w.heap.size, 3, none⟩ = some (.slice (some ⟨b, off, none⟩) n c) ∧ W.cell? ⟨w.heap.size + 1, 3, none⟩ = some (.slice (some ⟨b', off', none⟩) n c') ∧ W.cell? ⟨b, off + i * 5, none⟩ = some (.int .i64 m.f1) ∧ W.cell? ⟨b, off + i * 5 + 1, none⟩ = some (.int .i64 m.f2) ∧ W.cell? ⟨b, off + i * 5 + 2, none⟩ = some (.bool m.xb) ∧ W.cell? ⟨b, off + i * 5 + 3, none⟩ = some (.string m.s) ∧ W.cell? ⟨b, off + i * 5 + 4, none⟩ = some (.slice m.a m.k m.c) ∧ W.cell? ⟨b', off' + i * 5, none⟩ = some (.int .i64 m'.f1) ∧ W.cell? ⟨b', off' + i * 5 + 1, none⟩ = some (.int .i64 m'.f2) ∧ W.cell? ⟨b', off' + i * 5 + 2, none⟩ = some (.bool m'.xb) ∧ W.cell? ⟨b', off' + i * 5 + 3, none⟩ = some (.string m'.s) ∧ W.cell? ⟨b', off' + i * 5 + 4, none⟩ = some (.slice m'.a m'.k m'.c) ∧ Below wr.heap.size wr W)
          (go_keep)
          (first
            | (go_at_call 36; refine Calls.mono (cM _ ?_) ?_; (exact hbel.trans (Below.mono (B := wr.heap.size) (by assumption) hbel.size)); rintro e W ⟨rfl, hkk⟩; have hbk := Below.trans (B := wr.heap.size) (a := wr) (by assumption) (Below.mono hkk (Below.size (B := wr.heap.size) (w := wr) (by assumption))); obtain ⟨⟨p0, p1, p2, p3, p4⟩, q0, q1, q2, q3, q4⟩ := CP.out W (hbel.trans (hbk.mono hbel.size)); obtain ⟨⟨-, -, -, x3⟩, -⟩ := box4 (hx.below hbk hx.lt); obtain ⟨⟨-, -, -, y3⟩, -⟩ := box4 (hy.below hbk hy.lt)))
        all_goals (go_wp2; go_ret; exact ⟨rfl, hbel.trans (hbk.mono hbel.size)⟩)
      | true =>
        have hall' : Hid (allK (fun i => sameMD (d i) (d' i)) (i + 1) = true) := Lib.hid (by rw [allK, HA.out, HS.out]; rfl)
        go_wp2_with fail
        go_region_held3 (fun W => W.cell? ⟨w.heap.size, 3, none⟩ = some (.slice (some ⟨b, off, none⟩) n c) ∧ W.cell? ⟨w.heap.size + 1, 3, none⟩ = some (.slice (some ⟨b', off', none⟩) n c') ∧ W.cell? ⟨b, off + i * 5, none⟩ = some (.int .i64 m.f1) ∧ W.cell? ⟨b, off + i * 5 + 1, none⟩ = some (.int .i64 m.f2) ∧ W.cell? ⟨b, off + i * 5 + 2, none⟩ = some (.bool m.xb) ∧ W.cell? ⟨b, off + i * 5 + 3, none⟩ = some (.string m.s) ∧ W.cell? ⟨b, off + i * 5 + 4, none⟩ = some (.slice m.a m.k m.c) ∧ W.cell? ⟨b', off' + i * 5, none⟩ = some (.int .i64 m'.f1) ∧ W.cell? ⟨b', off' + i * 5 + 1, none⟩ = some (.int .i64 m'.f2) ∧ W.cell? ⟨b', off' + i * 5 + 2, none⟩ = some (.bool m'.xb) ∧ W.cell? ⟨b', off' + i * 5 + 3, none⟩ = some (.string m'.s) ∧ W.cell? ⟨b', off' + i * 5 + 4, none⟩ = some (.slice m'.a m'.k m'.c) ∧ Below wr.heap.size wr W)
          (go_keep)
          (first
            | (go_at_call 36; refine Calls.mono (cM _ ?_) ?_; (exact hbel.trans (Below.mono (B := wr.heap.size) (by assumption) hbel.size)); rintro e W ⟨rfl, hkk⟩; have hbk := Below.trans (B := wr.heap.size) (a := wr) (by assumption) (Below.mono hkk (Below.size (B := wr.heap.size) (w := wr) (by assumption))); obtain ⟨⟨p0, p1, p2, p3, p4⟩, q0, q1, q2, q3, q4⟩ := CP.out W (hbel.trans (hbk.mono hbel.size)); obtain ⟨⟨-, -, -, x3⟩, -⟩ := box4 (hx.below hbk hx.lt); obtain ⟨⟨-, -, -, y3⟩, -⟩ := box4 (hy.below hbk hy.lt)))
        all_goals (go_wp2; go_roundw; (case rel => exact ⟨i + 1, by omega, by go_num, hall'.out, hx.below hbk hx.lt, hy.below hbk hy.lt, hbel.trans (hbk.mono hbel.size)⟩); (case measure => simp [numOf'] <;> omega))
    · obtain rfl : i = n := by omega
      have hrt : r = true := by rw [← HR.out]; exact hall
      subst hrt
      clear hc1 hc2 hf hf' hb hall
      go_wp2
      go_ret
      exact ⟨rfl, hbel⟩
end
end Go.Proofs.Tryz

namespace Go.Proofs.Tryz
open Go Go.Am Go.RowKit Go.Dr
set_option maxRecDepth 100000

theorem allK_same (d d' : Nat → MvD) (n : Nat) : sameN d n d' n = allK (fun i => sameMD (d i) (d' i)) n := by simp [sameN]
section
variable {w : World} {s1 s2 z1 z2 : ByteArray} {lx zx : Bool} {d d' : Nat → MvD} {n n' c c' : Nat} {ad ad' : Option Addr}
theorem samePlay_w (hm : IsMoves w (.slice ad n c) d n) (hm' : IsMoves w (.slice ad' n' c') d' n') (hn : n ≤ 1000000) (hb : ∀ i, i < n → (d i).bn ≤ 1000000) :
    Calls prog 25 #[.agg #[.string s1, .string s2, .bool lx, .slice ad n c], .agg #[.string z1, .string z2, .bool zx, .slice ad' n' c']] w fun e w' => e = .returned (.bool ((s1.toList == z1.toList) && (s2.toList == z2.toList) && (lx == zx) && sameN d n d' n')) ∧ Below w.heap.size w w' := by
  cases hh : headB s1 s2 z1 z2 lx zx n n' with
  | false =>
    have e : ((s1.toList == z1.toList) && (s2.toList == z2.toList) && (lx == zx) && sameN d n d' n') = false := by
      unfold headB at hh
      unfold sameN
      by_cases h4 : n = n'
      · simp only [h4, decide_true, Bool.and_true, Bool.true_and] at hh ⊢
        rw [hh]; rfl
      · simp [h4]
    rw [e]
    exact sp_no hh
  | true =>
    unfold headB at hh
    simp only [Bool.and_eq_true, decide_eq_true_eq, beq_iff_eq] at hh
    obtain ⟨⟨⟨h1, h2⟩, h3⟩, h4⟩ := hh
    subst h3 h4
    have e : ((s1.toList == z1.toList) && (s2.toList == z2.toList) && (lx == lx) && sameN d n d' n) = allK (fun i => sameMD (d i) (d' i)) n := by
      rw [allK_same]; simp [h1, h2]
    rw [e]
    exact sp_go hm hm' hn hb (by simp [h1]) (by simp [h2])
end

/-- A play that is not too large. -/
def SmallP (P : PlD) : Prop := P.L.length ≤ 1000000 ∧ ∀ i, i < P.L.length → (dOf P.L i).bn ≤ 1000000
/-- What Equal answers. -/
def eqE (E1 E2 : Int) : Int := if E1 = 0 then E2 else E1
def eqB (E1 E2 : Int) (P1 P2 : PlD) : Bool := decide (eqE E1 E2 = 0) && sameP P1 P2

section
variable {w : World} {E1 E2 : Int} {P1 P2 : PlD} {s1 s2 z1 z2 : ByteArray} {lx zx : Bool} {n n' c c' : Nat} {ad ad' : Option Addr}
set_option maxHeartbeats 3200000 in
theorem equal_w (hc1 : ∀ W, Below w.heap.size w W → Calls prog 101 #[.agg #[.string s1, .string s2, .bool lx, .slice ad n c]] W fun e w' => PlAns w' e E1 P1 ∧ Below W.heap.size W w')
    (hc2 : ∀ W, Below w.heap.size w W → Calls prog 101 #[.agg #[.string z1, .string z2, .bool zx, .slice ad' n' c']] W fun e w' => PlAns w' e E2 P2 ∧ Below W.heap.size W w') (hS : SmallP P1) :
    Calls prog 54 #[.agg #[.string s1, .string s2, .bool lx, .slice ad n c], .agg #[.string z1, .string z2, .bool zx, .slice ad' n' c']] w fun e w' => e = .returned (.tuple #[.bool (eqB E1 E2 P1 P2), .int .i64 (eqE E1 E2)]) ∧ Below w.heap.size w w' := by
  have hB : Below w.heap.size w ((w.alloc (.cells #[.string s1, .string s2, .bool lx, .slice ad n c] 24)).alloc (.cells #[.string z1, .string z2, .bool zx, .slice ad' n' c'] 24)) := ((Below.refl _ _).alloc (Nat.le_refl _) _).alloc (by simp) _
  have cA := hc1 _ hB
  obtain ⟨v, hv⟩ : ∃ v : Int, eqE E1 E2 = v := ⟨_, rfl⟩
  have cF : ∀ (b : Nat) (W : World), W.cell? ⟨b, 0, none⟩ = some (.int .i64 E1) → W.cell? ⟨b, 1, none⟩ = some (.int .i64 E2) → Calls prog 70 #[.slice (some ⟨b, 0, none⟩) 2 2] W fun e w' => e = .returned (.int .i64 v) ∧ Below W.heap.size W w' := fun b W h0 h1 => by rw [← hv]; exact first_w b E1 E2 W h0 h1
  obtain ⟨r, hr⟩ : ∃ r, eqB E1 E2 P1 P2 = r := ⟨_, rfl⟩
  have HR : Hid ((decide (v = 0) && sameP P1 P2) = r) := Lib.hid (by rw [← hr, ← hv]; rfl)
  rw [hr, hv]
  obtain ⟨p1, p2, px, L⟩ := P1
  obtain ⟨q1, q2, qx, M⟩ := P2
  obtain ⟨hS1, hS2⟩ := hS
  dsimp only at hS1 hS2
  clear hr hv hc1
  go_enter func54, ntmps54
  go_wp2_with fail
  go_at_call 101
  refine cA.mono ?_
  rintro e w2 ⟨⟨mv, rfl, hm⟩, hk2⟩
  have hm' := hm
  obtain ⟨a1, k1, rfl, -, -⟩ := hm'
  dsimp only at hm ⊢
  have hy2 := (at2_1 _ _ _ _ _).below hk2 (by rw [size2]; omega)
  have hb2 : Below w.heap.size w w2 := hB.trans (hk2.mono (by rw [size2]; omega))
  have hb3 := hb2.alloc hb2.size (.cells #[.string p1, .string p2, .bool px, .slice a1 L.length k1] 24)
  have hx3 := at_new w2 #[.string p1, .string p2, .bool px, .slice a1 L.length k1] 24
  have hm3 := hm.below ((Below.refl w2.heap.size w2).alloc (Nat.le_refl _) (.cells #[.string p1, .string p2, .bool px, .slice a1 L.length k1] 24))
  have hy3 := hy2.alloc (.cells #[.string p1, .string p2, .bool px, .slice a1 L.length k1] 24)
  obtain ⟨⟨y0, y1, y2, y3⟩, -⟩ := box4 hy3
  have cB := hc2 _ hb3
  clear cA hc2 hm hy2 hk2 hB hb2
  go_wp2_with fail
  go_at_call 101
  refine cB.mono ?_
  rintro e w4 ⟨⟨mv, rfl, hm⟩, hk4⟩
  have hm' := hm
  obtain ⟨a2, k2, rfl, -, -⟩ := hm'
  dsimp only at hm ⊢
  have hx4 := hx3.below hk4 hx3.lt
  have hb4 := hb3.trans (hk4.mono hb3.size)
  have hm4 := hm3.below hk4
  have hb5 := hb4.alloc hb4.size (.cells #[.string q1, .string q2, .bool qx, .slice a2 M.length k2] 24)
  have hz5 := at_new w4 #[.string q1, .string q2, .bool qx, .slice a2 M.length k2] 24
  have hx5 := hx4.alloc (.cells #[.string q1, .string q2, .bool qx, .slice a2 M.length k2] 24)
  have hal := (Below.refl w4.heap.size w4).alloc (Nat.le_refl _) (.cells #[.string q1, .string q2, .bool qx, .slice a2 M.length k2] 24)
  have hm5 := hm4.below hal
  have hn5 := hm.below hal
  have hlt5 := hx4.lt
  clear cB hm hy3 hk4 hb3 hx3 hm3 hx4 hb4 hm4 hal y0 y1 y2 y3
  go_wp2_with fail
  go_at_call 70
  refine (cF _ _ (by simp) (by simp)).mono ?_
  rintro e w6 ⟨rfl, hk6⟩
  have hbA := hb5.alloc hb5.size (.cells #[.int .i64 E1, .int .i64 E2] 30)
  have hb6 := hbA.trans (hk6.mono hbA.size)
  have hal6 := ((Below.refl _ _).alloc (Nat.le_refl _) (.cells #[.int .i64 E1, .int .i64 E2] 30)).trans (hk6.mono (by simp))
  have hx6 := hx5.below hal6 hx5.lt
  have hz6 := hz5.below hal6 hz5.lt
  have hm6 := hm5.below hal6
  have hn6 := hn5.below hal6
  clear cF hx5 hz5 hm5 hn5 hk6 hb5 hbA hal6
  by_cases hv0 : v = 0
  case neg =>
    have hrf : r = false := by rw [← HR.out]; simp [hv0]
    subst hrf
    go_wp2
    go_ret2
    exact ⟨rfl, hb6⟩
  have HR2 : Hid (sameP ⟨p1, p2, px, L⟩ ⟨q1, q2, qx, M⟩ = r) := Lib.hid (by rw [← HR.out, hv0]; simp)
  clear HR
  subst hv0
  have cE := eqf_w hm6 hn6 hS1 hS2
  obtain ⟨sn, hsn⟩ : ∃ sn, sameN (dOf L) L.length (dOf M) M.length = sn := ⟨_, rfl⟩
  rw [hsn] at cE
  have HR3 : Hid (((p1.toList == q1.toList) && (p2.toList == q2.toList) && (px == qx) && sn) = r) := Lib.hid (by rw [← HR2.out, ← hsn]; rfl)
  obtain ⟨⟨x0, x1, x2, x3⟩, -⟩ := box4 hx6
  obtain ⟨⟨z0', z1', z2', z3'⟩, -⟩ := box4 hz6
  clear hsn HR2 hm6 hn6
  go_wp2_with fail
  go_at_call 102
  refine cE.mono ?_
  rintro e w7 ⟨rfl, hk7⟩
  have hx7 := hx6.below hk7 hx6.lt
  have hz7 := hz6.below hk7 hz6.lt
  have hb7 := hb6.trans (hk7.mono hb6.size)
  clear x0 x1 x2 x3 z0' z1' z2' z3' hx6 hz6 cE hk7
  obtain ⟨⟨x0, x1, x2, x3⟩, -⟩ := box4 hx7
  obtain ⟨⟨z0', z1', z2', z3'⟩, -⟩ := box4 hz7
  have h3 := HR3.out
  cases sn with
  | false =>
    have hrf : r = false := by rw [← h3]; simp
    subst hrf
    clear h3
    go_wp2
    go_ret2
    exact ⟨rfl, hb7⟩
  | true =>
    cases h1 : (p1.toList == q1.toList) with
    | false =>
      have hrf : r = false := by rw [← h3, h1]; simp
      subst hrf
      clear h3
      go_wp2
      go_ret2
      exact ⟨rfl, hb7⟩
    | true =>
      cases h2 : (p2.toList == q2.toList) with
      | false =>
        have hrf : r = false := by rw [← h3, h2]; simp
        subst hrf
        clear h3
        go_wp2
        go_ret2
        exact ⟨rfl, hb7⟩
      | true =>
        rw [h1, h2] at h3
        have hrx : r = (px == qx) := by rw [← h3]; simp
        subst hrx
        clear h3
        cases px <;> cases qx <;> (go_wp2; go_ret2; exact ⟨rfl, hb7⟩)
end
end Go.Proofs.Tryz

namespace Go.Proofs.Tryz
open Go Go.Am Go.RowKit Go.Dr
set_option maxRecDepth 100000

theorem runHasW : runHas [98, 97, 115, 112, 107, 116, 111] = true := by kernel_rfl
theorem hasB97 : f97.body.isSome = true := by kernel_rfl
theorem fn97 : cx.fn 97 = some f97 := by kernel_rfl
theorem hasW_w (x : Int) (w : World) (h : Laid w) : Calls prog 97 #[.string (strS [98, 97, 115, 112, 107, 116, 111]), .int .u8 x] w fun e w' => e = .returned (.bool (decide (x ∈ ([98, 97, 115, 112, 107, 116, 111] : List Int)))) ∧ Below w.heap.size w w' := by
  obtain ⟨c, hc⟩ := Option.isSome_iff_exists.1 hasB97
  have := run_B (vs := [x]) (fun _ => tokBase _ _ _ _) runHasW h asN (args' := #[.string (strS [98, 97, 115, 112, 107, 116, 111]), .int .u8 x]) ⟨rfl, rfl, trivial⟩
  rw [hasD_ev] at this
  refine (CallRet.calls fn97 hc this).mono ?_
  rintro e w' ⟨v, rfl, rfl, hk⟩
  refine ⟨?_, belowOf hk⟩
  congr 2
  simp only [hasI, List.map_cons, List.map_nil]
  split <;> rename_i q
  · have : x ∈ ([98, 97, 115, 112, 107, 116, 111] : List Int) := q
    simp [this]
  · have : ¬ x ∈ ([98, 97, 115, 112, 107, 116, 111] : List Int) := q
    simp [this]

/-- IsWay of a safe move. -/
theorem isWay_w {s : ByteArray} {y : Int → Int} {so sn : Int} (hs : IsStr (.string s) y so sn) (w : World) (h : Laid w) : Calls prog 81 #[.string s, .bool false] w fun e w' => e = .returned (.bool (decide (sn = 1 ∧ y (so + 0) ∈ ([98, 97, 115, 112, 107, 116, 111] : List Int)))) ∧ Below w.heap.size w w' := by
  have hsz := str_size hs
  obtain ⟨l, e, h1, h2⟩ := hs
  by_cases hn : sn = 1
  · subst hn
    match l, h1, h2, e with
    | [], h1, _, _ => simp at h1
    | c :: c2 :: r, h1, _, _ => simp only [List.length_cons] at h1; omega
    | [c], h1, h2, e =>
      cases e
      have hc := h2 0 c rfl
      have e0 : ((0 : Nat) : Int) = 0 := rfl
      rw [e0] at hc
      have cH := hasW_w (c.toNat : Int) w h
      rw [← hc]
      obtain ⟨r, hr⟩ : ∃ r, decide ((1 : Int) = 1 ∧ (c.toNat : Int) ∈ ([98, 97, 115, 112, 107, 116, 111] : List Int)) = r := ⟨_, rfl⟩
      have hr2 : decide ((c.toNat : Int) ∈ ([98, 97, 115, 112, 107, 116, 111] : List Int)) = r := by rw [← hr]; simp
      rw [hr2] at cH
      rw [hr]
      clear hr hr2 hc h2 h1 e0 hsz
      go_enter func81, ntmps81
      go_wp2_with fail
      go_at_call 97
      refine cH.mono ?_
      rintro e w2 ⟨rfl, hk2⟩
      go_wp2
      go_ret
      exact ⟨rfl, hk2⟩
  · have e1 : decide (sn = 1 ∧ y (so + 0) ∈ ([98, 97, 115, 112, 107, 116, 111] : List Int)) = false := by simp [hn]
    rw [e1]
    have hne : (s.size : Int) ≠ 1 := by omega
    clear e1 hsz e h1 h2
    go_enter func81, ntmps81
    go_wp2
    go_ret
    exact ⟨rfl, Below.refl _ _⟩

theorem staysR_w {c : M5} {m : MvD} {w0 : World} (hm : M5Ok w0 c m) (w : World) (hL : Laid w) : Calls prog 106 #[.agg #[.int .i64 c.f1, .int .i64 c.f2, .bool c.xb, .string c.s, .slice c.a c.k c.c]] w fun e w' => e = .returned (.bool (stayD m)) ∧ Below w.heap.size w w' := by
  obtain ⟨f1, f2, xb, s, a, k, c⟩ := c
  obtain ⟨h1, h2, h3, h4, -⟩ := hm
  dsimp only at h1 h2 h3 h4 ⊢
  have hB : Below w.heap.size w (w.alloc (.cells #[.int .i64 f1, .int .i64 f2, .bool xb, .string s, .slice a k c] 27)) := (Below.refl _ _).alloc (Nat.le_refl _) _
  have cW := isWay_w h4 _ (hL.below hB)
  have hS : stayD m = (!xb && decide (f1 = f2) && decide (1 ≤ f1) && decide (f1 ≤ 3) && decide (m.sn = 1 ∧ m.y (m.so + 0) ∈ letL)) := by
    unfold stayD
    rw [h1, h2, h3]
    by_cases hx : m.x = 0 <;> simp [hx]
  have hB98 : (s.toList == [98]) = decide (m.sn = 1 ∧ m.y (m.so + 0) = 98) := by
    have h := isLet_iff h4 (l := 98) (by decide)
    have e98 : (Utf8.encode 98).toList = [98] := by rw [Lib.toList_data]; exact enc_small 98 (by decide)
    unfold isLet at h
    rw [e98] at h
    exact h
  obtain ⟨r, hr⟩ : ∃ r, decide (m.sn = 1 ∧ m.y (m.so + 0) ∈ ([98, 97, 115, 112, 107, 116, 111] : List Int)) = r := ⟨_, rfl⟩
  obtain ⟨q, hq⟩ : ∃ q, (s.toList == [98]) = q := ⟨_, rfl⟩
  have hl : decide (m.sn = 1 ∧ m.y (m.so + 0) ∈ letL) = (r && !q) := by
    rw [← hr, ← hq, hB98]
    generalize m.y (m.so + 0) = z
    by_cases hs1 : m.sn = 1
    · by_cases h98 : z = 98
      · simp [hs1, h98, letL]
      · simp [hs1, h98, letL]
    · simp [hs1]
  rw [hS, hl]
  rw [hr] at cW
  clear hS hl hr hB98 h1 h2 h3 h4 hL
  go_enter func106, ntmps106
  cases xb with
  | true =>
    go_wp2
    go_ret
    exact ⟨rfl, hB⟩
  | false =>
    by_cases k1 : f1 = f2
    case neg =>
      have k1' : f2 ≠ f1 := fun e => k1 e.symm
      go_wp2
      go_ret
      exact ⟨by simp [k1], hB⟩
    subst k1
    by_cases k2 : 1 ≤ f1
    case neg =>
      go_wp2
      go_ret
      exact ⟨by simp; intros; omega, hB⟩
    by_cases k3 : f1 ≤ 3
    case neg =>
      go_wp2
      go_ret
      exact ⟨by simp; intros; omega, hB⟩
    cases r with
    | false =>
      go_wp2_with fail
      go_at_call 81
      refine cW.mono ?_
      rintro e w2 ⟨rfl, hk2⟩
      go_wp2
      go_ret
      exact ⟨by simp, hB.trans (hk2.mono (by simp))⟩
    | true =>
      go_wp2_with fail
      go_at_call 81
      refine cW.mono ?_
      rintro e w2 ⟨rfl, hk2⟩
      have hx2 := (at_new _ _ _).below hk2 (at_new _ _ _).lt
      obtain ⟨⟨y0, y1, y2, y3, y4⟩, -⟩ := box5 hx2
      go_wp2
      go_ret
      exact ⟨by simp, hB.trans (hk2.mono (by simp))⟩

theorem arr_get {t : Int → Int} {o : Int} {m j : Nat} (h : j < m) : (intsL t o m).toArray[j]! = t (o + (j : Int)) := by
  rw [getElem!_pos _ _ (by simpa [length_intsL] using h)]
  have := intsL_get (t := t) (o := o) h
  rw [List.getElem?_eq_some_iff] at this
  obtain ⟨h1, h2⟩ := this
  simpa using h2
set_option maxHeartbeats 1600000 in
theorem plain_w {w : World} {v : Value} {t : Int → Int} {o n : Int} (h : IsInts w v t o n) (hn : n ≤ 1000000) :
    Calls prog 107 #[v] w fun e w' => ∃ v', e = .returned v' ∧ w'.ownsRow w.heap.size 3 1 v' (Lib.compact (intsL t o n.toNat)).length (vsOf (Lib.compact (intsL t o n.toNat))) ∧ Below w.heap.size w w' := by
  obtain ⟨ad, m, c, rfl, hmc, rfl, hrow⟩ := h
  obtain ⟨i0, hi0, hz0, hz1, hz2⟩ := info_parts info3
  rw [Int.toNat_natCast]
  obtain ⟨K, hK⟩ : ∃ K, K = fun i => Lib.compactUpTo (intsL t o m).toArray i := ⟨_, rfl⟩
  have HE : Hid (Lib.compact (intsL t o m) = K m) := Lib.hid (by rw [hK]; unfold Lib.compact; rw [length_intsL])
  have H0 : K 0 = [] := by rw [hK]; rfl
  have HS : Hid (∀ i, i < m → K (i + 1) = K i ++ (if i = 0 ∨ t (o + (i : Int)) ≠ t (o + ((i - 1 : Nat) : Int)) then [t (o + (i : Int))] else [])) := Lib.hid fun i hi => by
    rw [hK]
    dsimp only
    rw [Lib.compactUpTo_succ, Lib.keeps, arr_get hi, arr_get (by omega)]
    simp only [decide_eq_true_eq]
  have HL : Hid (∀ i, (K i).length ≤ i) := Lib.hid fun i => by
    rw [hK]
    dsimp only
    unfold Lib.compactUpTo
    rw [List.length_map]
    exact Nat.le_trans (List.length_filter_le _ _) (by simp)
  rw [HE.out]
  clear hK HE
  go_enter func107, ntmps107
  go_wp2
  go_loopw [3, 4] (fun r s wr => ∃ (i : Nat) (v : Value), i ≤ m ∧ s = .int .i64 i ∧ v = r ∧ wr.ownsRow w.heap.size 3 1 v (K i).length (vsOf (K i)) ∧ Below w.heap.size w wr) (fun _ s _ => m - (numOf' s).toNat)
  case atStart => exact ⟨0, _, Nat.zero_le _, rfl, rfl, by rw [H0]; exact World.ownsRow_nil _ _ _ _, Below.refl _ _⟩
  case round =>
    obtain ⟨i, v, hi, rfl, rfl, hown, hbel⟩ := hrel
    by_cases hin : i < m
    · obtain ⟨b, off, rfl, hM⟩ := hrow (by omega)
      have e1 : wr.cell? ⟨b, off + i, none⟩ = some (.int .i64 (t (o + (i : Int)))) := (hbel.cell (cell_under (hM i hin))).trans (hM i hin)
      have eK := HS.out i hin
      have hlen := HL.out i
      cases i with
      | zero =>
        rw [if_pos (.inl rfl)] at eK
        obtain ⟨z, hz⟩ : ∃ z, t (o + ((0 : Nat) : Int)) = z := ⟨_, rfl⟩
        rw [hz] at e1 eK
        have hbD := hbel.drew
        have hownD := hown.drew
        have e1D : wr.drew.cell? ⟨b, off + 0, none⟩ = some (.int .i64 z) := e1
        rw [Nat.add_zero] at e1 e1D
        clear hrow hM hz hown hbel
        go_wp2_with fail
        go_region
        clear e1
        generalize wr.drew = W at e1D hownD hbD ⊢
        go_wp2_with (first
          | (at_builtin; refine wpList_append_own _ rfl _ _ 25 rfl w.heap.size 3 i0 (.int .i64 0) 1 8 underlying25 hi0 hz0 hz1 hz2 rfl (by decide) _ _ _ rfl (hownD.alloc _) ⟨W.heap.size, 0, none⟩ 1 1 [.int .i64 z] rfl rfl ?c1 ?c2 ?c3 ?c4 ?c5 ?_)
          | go_in)
        case c1 =>
          intro j u hj
          match j, hj with
          | 0, hj => simp at hj; subst hj; simp [Addr.add]
        case c2 => intro u hu; simp at hu; subst hu; rfl
        case c3 => unfold maxLen; omega
        case c4 => omega
        case c5 => have := hbD.size; simp; omega
        intro v' w3 hown3 hgrow _
        have hb3 : Below w.heap.size w w3 := (hbD.alloc hbD.size _).grown hgrow (by have := hbD.size; simp at this ⊢; omega) (fun q hq => by have := (hownD.lt q hq).1; omega)
        have ho3 : w3.ownsRow w.heap.size 3 1 v' (K (0 + 1)).length (vsOf (K (0 + 1))) := by
          rw [eK, H0]; simpa [vsOf, H0] using hown3
        clear hown3 hgrow hownD eK
        go_wp2
        go_roundw
        case rel => exact ⟨0 + 1, _, by omega, by go_num, rfl, ho3, hb3⟩
        case measure => simp [numOf'] <;> omega
      | succ i =>
        have e2 : wr.cell? ⟨b, off + i, none⟩ = some (.int .i64 (t (o + (i : Int)))) := (hbel.cell (cell_under (hM i (by omega)))).trans (hM i (by omega))
        rw [Nat.add_sub_cancel] at eK
        obtain ⟨z, hz⟩ : ∃ z, t (o + ((i + 1 : Nat) : Int)) = z := ⟨_, rfl⟩
        obtain ⟨z', hz'⟩ : ∃ z, t (o + (i : Int)) = z := ⟨_, rfl⟩
        rw [hz] at e1 eK
        rw [hz'] at e2 eK
        obtain ⟨p, hp⟩ : ∃ p, p = i + 1 := ⟨_, rfl⟩
        have hpm : p < m := by omega
        have hpz : ¬ p = 0 := by omega
        have i4 : IntKind.i64.wrap ((p : Int) - 1) = (i : Int) := by rw [IntWalk.i64_in _ (by omega)]; omega
        have i5 : (0 : Int) ≤ (i : Int) := by omega
        have i6 : (i : Int) < (m : Int) := by omega
        rw [← hp] at e1 eK hlen hown ⊢
        clear hp hi hin
        clear hrow hM hz hz'
        by_cases hzz : z = z'
        · rw [if_neg (by simp [hzz, hpz]), List.append_nil] at eK
          subst hzz
          have ho3 : wr.ownsRow w.heap.size 3 1 v (K (p + 1)).length (vsOf (K (p + 1))) := by rw [eK]; exact hown
          clear hown eK
          go_wp2_with fail
          go_quiet (fail)
          go_wp2
          go_roundw
          case rel => exact ⟨p + 1, _, by omega, by go_num, rfl, ho3, below_drewN hbel _⟩
          case measure => simp [numOf'] <;> omega
        · rw [if_pos (.inr hzz)] at eK
          go_wp2_with fail
          go_quiet (fail)
          have hownD : (wr.drewN nq).ownsRow w.heap.size 3 1 v (K p).length (vsOf (K p)) := hown
          have hbD := below_drewN hbel nq
          have e1D : (wr.drewN nq).cell? ⟨b, off + p, none⟩ = some (.int .i64 z) := e1
          clear e1 e2 hown hbel
          generalize wr.drewN nq = W at e1D hownD hbD ⊢
          have hne : (z != z') = true := by simp [hzz]
          have hpe : ((p : Int) == 0) = false := by simp [hpz]
          go_wp2_with (first
            | (at_builtin; refine wpList_append_own _ rfl _ _ 25 rfl w.heap.size 3 i0 (.int .i64 0) 1 8 underlying25 hi0 hz0 hz1 hz2 rfl (by decide) _ _ _ rfl (hownD.alloc _) ⟨W.heap.size, 0, none⟩ 1 1 [.int .i64 z] rfl rfl ?c1 ?c2 ?c3 ?c4 ?c5 ?_)
            | go_in)
          case c1 =>
            intro j u hj
            match j, hj with
            | 0, hj => simp at hj; subst hj; simp [Addr.add]
          case c2 => intro u hu; simp at hu; subst hu; rfl
          case c3 => unfold maxLen; omega
          case c4 => omega
          case c5 => have := hbD.size; simp; omega
          intro v' w3 hown3 hgrow _
          have hb3 : Below w.heap.size w w3 := (hbD.alloc hbD.size _).grown hgrow (by have := hbD.size; simp at this ⊢; omega) (fun q hq => by have := (hownD.lt q hq).1; omega)
          have ho3 : w3.ownsRow w.heap.size 3 1 v' (K (p + 1)).length (vsOf (K (p + 1))) := by
            rw [eK]; simpa [vsOf] using hown3
          clear hown3 hgrow hownD eK
          go_wp2
          go_roundw
          case rel => exact ⟨p + 1, _, by omega, by go_num, rfl, ho3, hb3⟩
          case measure => simp [numOf'] <;> omega
          case roundEnd => exact absurd (‹((p : Int) == 0) = false ∧ (z != z') = false›).2 (by rw [hne]; decide)
    · obtain rfl : i = m := by omega
      clear hrow
      go_wp2
      go_ret
      exact ⟨_, rfl, hown, hbel⟩
end Go.Proofs.Tryz

namespace Go.Proofs.Tryz
open Go Go.Am Go.RowKit Go.Dr
set_option maxRecDepth 100000

theorem chkR_b {w : World} {y0 y1 : Int → Int} {yo yn eo en : Int} {d : Nat → MvD} {n : Nat} {pvv ev mv : Value} (b : Bool) (h : Laid w) (hp : IsStr pvv y0 yo yn) (he : IsStr ev y1 eo en) (hm : IsMoves w mv d n) :
    Calls prog 17 #[.agg #[pvv, ev, .bool b, mv]] w fun e w' => e = .returned (.int .i64 (plV y0 yo yn y1 eo en d n)) ∧ Below w.heap.size w w' := by
  cases b
  · exact chkR_w (lx := 0) h hp he hm
  · exact chkR_w (lx := 1) h hp he hm

theorem IsInts.but {W W' : World} {g : Nat} {v : Value} {t : Int → Int} {o n : Int} (h : IsInts W v t o n) (hk : ∀ k, k < W.heap.size → k ≠ g → W'.heap[k]? = W.heap[k]?) (hg : ∀ j z, W.cell? ⟨g, j, none⟩ ≠ some (.int .i64 z)) : IsInts W' v t o n := by
  obtain ⟨ad, m, c', rfl, h1, h2, h3⟩ := h
  refine ⟨ad, m, c', rfl, h1, h2, fun q => ?_⟩
  obtain ⟨b2, o2, e2, f2⟩ := h3 q
  refine ⟨b2, o2, e2, fun j hj => ?_⟩
  have := f2 j hj
  have hne : b2 ≠ g := fun e => by subst e; exact hg _ _ this
  rw [← this]
  unfold World.cell?
  rw [hk b2 (cell_under this) hne]
theorem no_int {W : World} {g : Nat} {z0 z1 : ByteArray} {z2 : Bool} {a : Option Addr} {k c : Nat} {e : TypeId} (hz : At W g #[.string z0, .string z1, .bool z2, .slice a k c] e) : ∀ j z, W.cell? ⟨g, j, none⟩ ≠ some (.int .i64 z) := fun j z q => by
  unfold At at hz
  match j with
  | 0 => simp [World.cell?, hz] at q
  | 1 => simp [World.cell?, hz] at q
  | 2 => simp [World.cell?, hz] at q
  | 3 => simp [World.cell?, hz] at q
  | j + 4 => simp [World.cell?, hz] at q

theorem sameMD_refl (m : MvD) : sameMD m m = true := by simp [sameMD]
theorem allK_all (p : Nat → Bool) (h : ∀ i, p i = true) : ∀ n, allK p n = true
  | 0 => rfl
  | n + 1 => by rw [allK, allK_all p h n, h n]; rfl
theorem sameN_refl (d : Nat → MvD) (n : Nat) : sameN d n d n = true := by rw [allK_same]; exact allK_all _ (fun i => sameMD_refl _) n
theorem can_small (s1 s2 : ByteArray) (lx : Bool) (y0 : Int → Int) (yo yn : Int) (y1 : Int → Int) (eo en : Int) {d : Nat → MvD} {n : Nat} (hn : n ≤ 1000000) (hb : ∀ i, i < n → (d i).bn ≤ 1000000) : SmallP (canP s1 s2 lx y0 yo yn y1 eo en d n) := by
  unfold canP
  split
  · refine ⟨?_, fun i hi => ?_⟩
    · show (canL d n).length ≤ 1000000
      unfold canL
      refine Nat.le_trans (List.length_filter_le _ _) ?_
      rw [List.length_map, (srt_perm d n).length_eq, List.length_range]
      exact hn
    · show (dOf (canL d n) i).bn ≤ 1000000
      have hi' : i < (canL d n).length := hi
      have hm : dOf (canL d n) i ∈ canL d n := by
        unfold dOf
        rw [List.getElem?_eq_getElem hi']
        exact List.getElem_mem hi'
      unfold canL at hm
      have hm2 := (List.mem_filter.1 hm).1
      obtain ⟨k, hk, e⟩ := List.mem_map.1 hm2
      unfold canL
      rw [← e]
      have hkn : k < n := List.mem_range.1 ((srt_perm d n).mem_iff.1 hk)
      have := plT_le (d k)
      have := hb k hkn
      show (((plT (d k)).length : Nat) : Int) ≤ 1000000
      omega
  · exact ⟨Nat.zero_le _, fun i hi => absurd hi (Nat.not_lt_zero _)⟩

/-- What Equal leaves in the law's region. -/
def CutE (W : World) (q : Bool) (E : Int) (v7 v8 : Value) (wx : World) : Prop := v7 = .bool q ∧ v8 = .int .i64 E ∧ Below W.heap.size W wx

end Go.Proofs.Tryz
