/- text and Print of the program: by the kit's walk. Print of the program: by the kit's walk; what a valid play's strings are. Plain: two plays with the same string are the same. Plain: a valid play's strings, letters and touches. Plain: the parts of a string between a byte. Plain: what Parse answers. -/
import Derived.Test.YthlmjjdlmidnlaaGreatDoorAsQs
import Derived.Test.YthlmjjdlmidnlaaGreatDoorArWes
import Derived.Test.YthlmjjdlmidnlaaGreatDoorAsAks
import Derived.Lib.SplitLaws
import Derived.Lib.SlTrimSet
namespace Go.Proofs.Tryz
open Go Go.Am Go.RowKit Go.Dr
set_option maxRecDepth 100000

theorem info9 : (prog.info? 9).map (fun i => (i.zero, i.size, i.bytes)) = some (some (.string ⟨#[]⟩), 1, 16) := by kernel_rfl
def strV (l : List UInt8) : Value := .string (bA l)
theorem wordsK_len (l1 l2 : List UInt8) (lx : Bool) (d : Nat → MvD) : ∀ i, (wordsK l1 l2 lx d i).length ≤ i + 3
  | 0 => by cases lx <;> simp [wordsK]
  | i + 1 => by have := wordsK_len l1 l2 lx d i; rw [wordsK, List.length_append]; simp; omega
theorem mvsL_len {d : Nat → MvD} {n : Nat} (hd : ∀ i, i < n → (d i).bn ≤ 1000 ∧ (d i).sn ≤ 1000) : ∀ i, i ≤ n → (mvsL d i).length ≤ 2005 * i
  | 0, _ => Nat.zero_le _
  | i + 1, h => by
    have := mvsL_len hd i (by omega)
    have := length_moveL (hd i (by omega)).1 (hd i (by omega)).2
    rw [mvsL, List.length_append, List.length_append]
    simp
    omega
theorem playL_len {l1 l2 : List UInt8} {lx : Bool} {d : Nat → MvD} {n : Nat} (h1 : l1.length ≤ 1000) (h2 : l2.length ≤ 1000) (hn : n ≤ 100) (hd : ∀ i, i < n → (d i).bn ≤ 1000 ∧ (d i).sn ≤ 1000) : (playL l1 l2 lx d n).length ≤ 300000 := by
  have := mvsL_len hd n (Nat.le_refl _)
  have := length_dashL l1
  have := length_dashL l2
  unfold playL
  simp only [List.length_append, List.length_cons, List.length_nil]
  have : (lateL lx).length ≤ 5 := by cases lx <;> simp [lateL]
  omega

section
variable {w : World} {l1 l2 : List UInt8} {lx : Bool} {d : Nat → MvD} {n : Nat} {ad : Option Addr} {c : Nat}
set_option maxHeartbeats 3200000 in
theorem text_w (h1 : l1.length ≤ 1000) (h2 : l2.length ≤ 1000) (hm : IsMoves w (.slice ad n c) d n) (hn : n ≤ 100) (hd : ∀ i, i < n → DigM (d i) ∧ (d i).bn ≤ 1000 ∧ (d i).sn ≤ 1000) :
    Calls prog 84 #[.agg #[.string (bA l1), .string (bA l2), .bool lx, .slice ad n c]] w fun e w' => e = .returned (.string (bA (playL l1 l2 lx d n))) ∧ Below w.heap.size w w' := by
  have hpl := playL_len (lx := lx) h1 h2 hn fun i hi => (hd i hi).2
  obtain ⟨i9, hi9, hz90, hz91, hz92⟩ := info_more info9
  have zz : ((.string ⟨#[]⟩ : Value)).cells.size = 1 := rfl
  have hB : Below w.heap.size w (w.alloc (.cells #[.string (bA l1), .string (bA l2), .bool lx, .slice ad n c] 24)) := (Below.refl _ _).alloc (Nat.le_refl _) _
  have hx0 := at_new w #[.string (bA l1), .string (bA l2), .bool lx, .slice ad n c] 24
  go_enter func84, ntmps84
  go_wp2_with fail
  generalize w.alloc (.cells #[.string (bA l1), .string (bA l2), .bool lx, .slice ad n c] 24) = W0 at hB hx0 ⊢
  obtain ⟨⟨x0, x1, x2, x3⟩, -⟩ := box4 hx0
  have hdr : Below W0.heap.size W0 W0.drew := (Below.refl _ _).drew
  have hdz : Below W0.heap.size W0 (W0.alloc (.cells #[.string (bA (dashL l1)), .string (bA (dashL l2))] 9)).drew := ((Below.refl _ _).alloc (Nat.le_refl _) _).drew
  go_region_held3 (fun W => W.cell? ⟨w.heap.size, 0, none⟩ = some (.string (bA l1)) ∧ W.cell? ⟨w.heap.size, 1, none⟩ = some (.string (bA l2)) ∧ Below W0.heap.size W0 W)
    (go_keep)
    (first
      | (go_at_call 119; refine Calls.mono (optional_w _ _) ?_; rintro e W ⟨rfl, rfl⟩))
  clear x0 x1 x2 x3
  have hxD : At (W0.alloc (.cells #[.string (bA (dashL l1)), .string (bA (dashL l2))] 9)).drew w.heap.size #[.string (bA l1), .string (bA l2), .bool lx, .slice ad n c] 24 := (hx0.alloc _).drew
  have hbD := (hB.alloc hB.size (.cells #[.string (bA (dashL l1)), .string (bA (dashL l2))] 9)).drew
  have own2 : (W0.alloc (.cells #[.string (bA (dashL l1)), .string (bA (dashL l2))] 9)).drew.ownsRow w.heap.size 9 1 (.slice (some ⟨W0.heap.size, 0, none⟩) 2 2) 2 [.string (bA (dashL l1)), .string (bA (dashL l2))] :=
    (World.ownsRow_lit W0 #[.string (bA (dashL l1)), .string (bA (dashL l2))] 2 hB.size (by decide) rfl).drew
  have hk9 : w.heap.size ≤ (W0.alloc (.cells #[.string (bA (dashL l1)), .string (bA (dashL l2))] 9)).drew.heap.size := hbD.size
  generalize (W0.alloc (.cells #[.string (bA (dashL l1)), .string (bA (dashL l2))] 9)).drew = W at hxD hbD own2 hk9 ⊢
  generalize W0.heap.size = g2 at own2 ⊢
  clear hx0 hB hdr hdz
  obtain ⟨⟨x0, x1, x2, x3⟩, -⟩ := box4 hxD
  cases lx with
  | true =>
    go_wp2_with (first
      | (at_builtin; refine wpList_append_own _ rfl _ _ 88 rfl w.heap.size 9 i9 (.string ⟨#[]⟩) 1 16 underlying88 hi9 hz90 hz91 hz92 zz (by decide) _ _ _ rfl (own2.alloc _) ⟨W.heap.size, 0, none⟩ 1 1 [.string { data := #[108, 97, 116, 101] }] rfl rfl ?c1 ?c2 ?c3 ?c4 ?c5 ?_)
      | go_in)
    case c1 =>
      intro j u hj
      match j, hj with
      | 0, hj => simp at hj; subst hj; simp [Addr.add]
    case c2 => intro u hu; simp at hu; subst hu; rfl
    case c3 => decide
    case c4 => decide
    case c5 => simp; omega
    intro v3 w3 hown3 hgr3 _
    have hb3 : Below w.heap.size w w3 := (hbD.alloc hbD.size _).grown hgr3 (by simp; omega) (fun q hq => (own2.lt q hq).1)
    have hw : w3.ownsRow w.heap.size 9 1 v3 (wordsK l1 l2 true d 0).length ((wordsK l1 l2 true d 0).map strV) := hown3
    have hx3 : At w3 w.heap.size #[.string (bA l1), .string (bA l2), .bool true, .slice ad n c] 24 := (hgr3.block _ (hxD.alloc _).lt (fun e => by
      obtain ⟨cs', fz, hc⟩ := Lib.ownsRow_kind own2 _ e.symm
      unfold At at hxD
      rw [hxD] at hc
      simp at hc)).trans (hxD.alloc _)
    clear own2 hown3 hgr3 hxD hbD x0 x1 x2 x3 hk9
    obtain ⟨⟨-, -, -, x3⟩, -⟩ := box4 hx3
    go_wp2_with fail
    go_loopw [3, 21] (fun t z wr => ∃ (i : Nat) (v : Value), i ≤ n ∧ z = .int .i64 i ∧ v = t ∧ wr.ownsRow w.heap.size 9 1 v (wordsK l1 l2 true d i).length ((wordsK l1 l2 true d i).map strV) ∧ Below w.heap.size w wr) (fun _ z _ => n - (numOf' z).toNat)
    case atStart => exact ⟨0, _, Nat.zero_le _, rfl, rfl, hw, hb3⟩
    case round =>
      clear hw hb3 hx3
      obtain ⟨i, v, hi, rfl, rfl, hw, hbel⟩ := hrel
      by_cases hin : i < n
      · obtain ⟨b, off, rfl, -, f, hf, hcf⟩ := m5_row hm (by omega)
        obtain ⟨hd1, hd2, hd3⟩ := hd i hin
        obtain ⟨p0, p1, p2, p3, p4⟩ := hcf i hin
        have hcel : ∀ {b o : Nat} {v : Value}, w.cell? ⟨b, o, none⟩ = some v → wr.cell? ⟨b, o, none⟩ = some v := fun h => cell_b h hbel (cell_under h)
        have p0 := hcel p0
        have p1 := hcel p1
        have p2 := hcel p2
        have p3 := hcel p3
        have p4 := hcel p4
        have hmi := (hf i hin).below hbel
        have hwl := wordsK_len l1 l2 true d i
        clear hcf hf hcel
        generalize f i = m at p0 p1 p2 p3 p4 hmi
        have hal := (Below.refl wr.heap.size wr).alloc (Nat.le_refl _) (.cells #[.int .i64 m.f1, .int .i64 m.f2, .bool m.xb, .string m.s, .slice m.a m.k m.c] 27)
        have cM := printMove_w (hmi.below hal) hd1 hd2 hd3
        have hown1 := hw.alloc (.cells #[.int .i64 m.f1, .int .i64 m.f2, .bool m.xb, .string m.s, .slice m.a m.k m.c] 27)
        have hbA := hbel.alloc hbel.size (.cells #[.int .i64 m.f1, .int .i64 m.f2, .bool m.xb, .string m.s, .slice m.a m.k m.c] 27)
        have HC : Hid ((wordsK l1 l2 true d (i + 1)).length = (wordsK l1 l2 true d i).length + 1 ∧ (wordsK l1 l2 true d (i + 1)).map strV = (wordsK l1 l2 true d i).map strV ++ [.string (bA (moveL (d i)))]) := Lib.hid (by
          rw [wordsK, List.length_append, List.map_append]
          exact ⟨rfl, rfl⟩)
        clear hmi hal hw hbel hd1 hd2 hd3
        generalize (wordsK l1 l2 true d i).map strV = xs at hown1 HC
        generalize (wordsK l1 l2 true d i).length = kk at hown1 HC hwl
        generalize bA (moveL (d i)) = Sm at cM HC
        go_wp2_with fail
        go_at_call 120
        refine cM.mono ?_
        rintro e w2 ⟨rfl, hk2⟩
        have hown2 := owns_below hown1 hk2
        have hb2 := hbA.trans (hk2.mono hbA.size)
        have hs2 := hb2.size
        clear cM hown1 hbA hk2 p0 p1 p2 p3 p4
        go_wp2_with (first
          | (at_builtin; refine wpList_append_own _ rfl _ _ 88 rfl w.heap.size 9 i9 (.string ⟨#[]⟩) 1 16 underlying88 hi9 hz90 hz91 hz92 zz (by decide) _ _ _ rfl (hown2.alloc _) ⟨w2.heap.size, 0, none⟩ 1 1 [.string Sm] rfl rfl ?c1 ?c2 ?c3 ?c4 ?c5 ?_)
          | go_in)
        case c1 =>
          intro j u hj
          match j, hj with
          | 0, hj => simp at hj; subst hj; simp [Addr.add]
        case c2 => intro u hu; simp at hu; subst hu; rfl
        case c3 => unfold maxLen; omega
        case c4 => omega
        case c5 => simp; omega
        intro v4 w4 hown4 hgr4 _
        have hb4 : Below w.heap.size w w4 := (hb2.alloc hb2.size _).grown hgr4 (by simp; omega) (fun q hq => (hown2.lt q hq).1)
        have ho4 : w4.ownsRow w.heap.size 9 1 v4 (wordsK l1 l2 true d (i + 1)).length ((wordsK l1 l2 true d (i + 1)).map strV) := by
          rw [HC.out.1, HC.out.2]; exact hown4
        clear hown4 hgr4 hown2 HC
        go_wp2
        go_roundw
        case rel => exact ⟨i + 1, _, by omega, by go_num, rfl, ho4, hb4⟩
        case measure => simp [numOf'] <;> omega
      · obtain rfl : i = n := by omega
        obtain ⟨r, er, -⟩ := wordsK_cons l1 l2 true d i
        have hwl := wordsK_len l1 l2 true d i
        have hne : (wordsK l1 l2 true d i).length ≠ 0 := by rw [er]; simp
        obtain ⟨a', c', rfl, hz⟩ := own_form hw
        obtain ⟨g, rfl⟩ := hz.resolve_left hne
        have hj := join_words l1 l2 true d i
        have cJ := join_w (ws := wordsK l1 l2 true d i) hw (by omega) (by rw [hj]; omega)
        rw [hj] at cJ
        clear hj er hw
        generalize (wordsK l1 l2 true d i).length = kk at cJ hne hwl
        go_wp2_with fail
        go_at_call 121
        refine cJ.mono ?_
        rintro e w5 ⟨rfl, hk5⟩
        go_wp2
        go_ret
        exact ⟨rfl, hbel.trans (hk5.mono hbel.size)⟩
  | false =>
    have hb3 := hbD
    have hw : W.ownsRow w.heap.size 9 1 (.slice (some ⟨g2, 0, none⟩) 2 2) (wordsK l1 l2 false d 0).length ((wordsK l1 l2 false d 0).map strV) := own2
    have hx3 := hxD
    clear own2 hxD hbD hk9
    go_wp2_with fail
    go_loopw [3, 21] (fun t z wr => ∃ (i : Nat) (v : Value), i ≤ n ∧ z = .int .i64 i ∧ v = t ∧ wr.ownsRow w.heap.size 9 1 v (wordsK l1 l2 false d i).length ((wordsK l1 l2 false d i).map strV) ∧ Below w.heap.size w wr) (fun _ z _ => n - (numOf' z).toNat)
    case atStart => exact ⟨0, _, Nat.zero_le _, rfl, rfl, hw, hb3⟩
    case round =>
      clear hw hb3 hx3
      obtain ⟨i, v, hi, rfl, rfl, hw, hbel⟩ := hrel
      by_cases hin : i < n
      · obtain ⟨b, off, rfl, -, f, hf, hcf⟩ := m5_row hm (by omega)
        obtain ⟨hd1, hd2, hd3⟩ := hd i hin
        obtain ⟨p0, p1, p2, p3, p4⟩ := hcf i hin
        have hcel : ∀ {b o : Nat} {v : Value}, w.cell? ⟨b, o, none⟩ = some v → wr.cell? ⟨b, o, none⟩ = some v := fun h => cell_b h hbel (cell_under h)
        have p0 := hcel p0
        have p1 := hcel p1
        have p2 := hcel p2
        have p3 := hcel p3
        have p4 := hcel p4
        have hmi := (hf i hin).below hbel
        have hwl := wordsK_len l1 l2 false d i
        clear hcf hf hcel
        generalize f i = m at p0 p1 p2 p3 p4 hmi
        have hal := (Below.refl wr.heap.size wr).alloc (Nat.le_refl _) (.cells #[.int .i64 m.f1, .int .i64 m.f2, .bool m.xb, .string m.s, .slice m.a m.k m.c] 27)
        have cM := printMove_w (hmi.below hal) hd1 hd2 hd3
        have hown1 := hw.alloc (.cells #[.int .i64 m.f1, .int .i64 m.f2, .bool m.xb, .string m.s, .slice m.a m.k m.c] 27)
        have hbA := hbel.alloc hbel.size (.cells #[.int .i64 m.f1, .int .i64 m.f2, .bool m.xb, .string m.s, .slice m.a m.k m.c] 27)
        have HC : Hid ((wordsK l1 l2 false d (i + 1)).length = (wordsK l1 l2 false d i).length + 1 ∧ (wordsK l1 l2 false d (i + 1)).map strV = (wordsK l1 l2 false d i).map strV ++ [.string (bA (moveL (d i)))]) := Lib.hid (by
          rw [wordsK, List.length_append, List.map_append]
          exact ⟨rfl, rfl⟩)
        clear hmi hal hw hbel hd1 hd2 hd3
        generalize (wordsK l1 l2 false d i).map strV = xs at hown1 HC
        generalize (wordsK l1 l2 false d i).length = kk at hown1 HC hwl
        generalize bA (moveL (d i)) = Sm at cM HC
        go_wp2_with fail
        go_at_call 120
        refine cM.mono ?_
        rintro e w2 ⟨rfl, hk2⟩
        have hown2 := owns_below hown1 hk2
        have hb2 := hbA.trans (hk2.mono hbA.size)
        have hs2 := hb2.size
        clear cM hown1 hbA hk2 p0 p1 p2 p3 p4
        go_wp2_with (first
          | (at_builtin; refine wpList_append_own _ rfl _ _ 88 rfl w.heap.size 9 i9 (.string ⟨#[]⟩) 1 16 underlying88 hi9 hz90 hz91 hz92 zz (by decide) _ _ _ rfl (hown2.alloc _) ⟨w2.heap.size, 0, none⟩ 1 1 [.string Sm] rfl rfl ?c1 ?c2 ?c3 ?c4 ?c5 ?_)
          | go_in)
        case c1 =>
          intro j u hj
          match j, hj with
          | 0, hj => simp at hj; subst hj; simp [Addr.add]
        case c2 => intro u hu; simp at hu; subst hu; rfl
        case c3 => unfold maxLen; omega
        case c4 => omega
        case c5 => simp; omega
        intro v4 w4 hown4 hgr4 _
        have hb4 : Below w.heap.size w w4 := (hb2.alloc hb2.size _).grown hgr4 (by simp; omega) (fun q hq => (hown2.lt q hq).1)
        have ho4 : w4.ownsRow w.heap.size 9 1 v4 (wordsK l1 l2 false d (i + 1)).length ((wordsK l1 l2 false d (i + 1)).map strV) := by
          rw [HC.out.1, HC.out.2]; exact hown4
        clear hown4 hgr4 hown2 HC
        go_wp2
        go_roundw
        case rel => exact ⟨i + 1, _, by omega, by go_num, rfl, ho4, hb4⟩
        case measure => simp [numOf'] <;> omega
      · obtain rfl : i = n := by omega
        obtain ⟨r, er, -⟩ := wordsK_cons l1 l2 false d i
        have hwl := wordsK_len l1 l2 false d i
        have hne : (wordsK l1 l2 false d i).length ≠ 0 := by rw [er]; simp
        obtain ⟨a', c', rfl, hz⟩ := own_form hw
        obtain ⟨g, rfl⟩ := hz.resolve_left hne
        have hj := join_words l1 l2 false d i
        have cJ := join_w (ws := wordsK l1 l2 false d i) hw (by omega) (by rw [hj]; omega)
        rw [hj] at cJ
        clear hj er hw
        generalize (wordsK l1 l2 false d i).length = kk at cJ hne hwl
        go_wp2_with fail
        go_at_call 121
        refine cJ.mono ?_
        rintro e w5 ⟨rfl, hk5⟩
        go_wp2
        go_ret
        exact ⟨rfl, hbel.trans (hk5.mono hbel.size)⟩
end
end Go.Proofs.Tryz

namespace Go.Proofs.Tryz
open Go Go.Am Go.RowKit Go.Dr
set_option maxRecDepth 100000

theorem mvV_sn {fr t0 x so sn bo bn : Int} {y t : Int → Int} (h : mvV fr t0 x y so sn t bo bn = 0) : sn = 1 := by
  obtain ⟨⟨h1, h2⟩, ⟨h3, h4⟩, -⟩ := mvV_zero h
  unfold mvV moveR range34 at h
  simp only [ev_le, ev_lf', val_L', mv_fr, mv_to] at h
  rw [if_pos h1, if_pos h2, if_pos h3, if_pos h4] at h
  rw [ev_eq] at h
  by_cases hs : sn = 1
  · exact hs
  · rw [mv_sn, val_L', if_neg hs, ev_lf'] at h
    cases h
/-- What is printed of a valid play. -/
structure PrnP (yn en : Int) (d : Nat → MvD) (n : Nat) : Prop where
  hy : yn ≤ 24
  he : en ≤ 1
  hn : n ≤ 4
  hd : ∀ i, i < n → DigM (d i) ∧ (d i).bn ≤ 1000 ∧ (d i).sn ≤ 1000
theorem prn_of {y0 y1 : Int → Int} {yo yn eo en : Int} {d : Nat → MvD} {n : Nat} (h : plV y0 yo yn y1 eo en d n = 0) (hb : ∀ i, i < n → 0 ≤ (d i).bn) : PrnP yn en d n := by
  obtain ⟨h1, h2⟩ := val_of h hb
  unfold plV at h
  by_cases p1 : pitV y0 yo yn = 0
  case neg => rw [if_neg p1] at h; exact absurd h p1
  rw [if_pos p1] at h
  by_cases p2 : evOk y1 eo en = true
  case neg => rw [if_neg p2] at h; cases h
  rw [if_pos p2, if_pos h1.n4] at h
  refine ⟨?_, ?_, h1.n4, fun i hi => ⟨⟨?_, ?_, fun z hz => ?_⟩, ?_, ?_⟩⟩
  · unfold pitV at p1
    by_cases q : yn ≤ 24
    · exact q
    · rw [if_neg q] at p1; cases p1
  · unfold evOk at p2
    rw [decide_eq_true_eq] at p2
    rcases p2 with p2 | p2 <;> omega
  · have := h1.fr i hi; omega
  · have := h2 i hi; omega
  · obtain ⟨j, hj⟩ := List.mem_iff_getElem?.1 hz
    have hl := (List.getElem?_eq_some_iff.1 hj).1
    rw [tchs, length_intsL] at hl
    rw [tchs, intsL_get hl] at hj
    cases hj
    have := h1.t i hi j (by have := (h1.bn i hi).1; omega)
    omega
  · have := (h1.bn i hi).2; omega
  · have := mvV_sn (mvs_zero d n 0 h i (Nat.zero_le _) (by omega)); omega

section
variable {w : World} {l1 l2 : List UInt8} {lx : Bool} {d : Nat → MvD} {n : Nat} {ad : Option Addr} {c : Nat} {pl : Int}
/-- What Print answers. -/
def prnL (pl : Int) (l1 l2 : List UInt8) (lx : Bool) (d : Nat → MvD) (n : Nat) : List UInt8 := if pl = 0 then playL l1 l2 lx d n else []
theorem print_w (hc : Chk w (.agg #[.string (bA l1), .string (bA l2), .bool lx, .slice ad n c]) pl) (hm : IsMoves w (.slice ad n c) d n) (hP : pl = 0 → PrnP l1.length l2.length d n) :
    Calls prog 21 #[.agg #[.string (bA l1), .string (bA l2), .bool lx, .slice ad n c]] w fun e w' => e = .returned (.tuple #[.string (bA (prnL pl l1 l2 lx d n)), .int .i64 pl]) ∧ Below w.heap.size w w' := by
  have hB : Below w.heap.size w (w.alloc (.cells #[.string (bA l1), .string (bA l2), .bool lx, .slice ad n c] 24)) := (Below.refl _ _).alloc (Nat.le_refl _) _
  have cC := hc _ hB
  by_cases h : pl = 0
  · subst h
    obtain ⟨q1, q2, q3, q4⟩ := hP rfl
    have e : prnL 0 l1 l2 lx d n = playL l1 l2 lx d n := if_pos rfl
    rw [e]
    clear hc e
    go_enter func21, ntmps21
    go_wp2_with fail
    go_at_call 15
    refine cC.mono ?_
    rintro e w2 ⟨rfl, hk2⟩
    have hx2 := (at_new _ _ _).below hk2 (at_new _ _ _).lt
    obtain ⟨⟨x0, x1, x2, x3⟩, -⟩ := box4 hx2
    have hb2 := hB.trans (hk2.mono (by simp))
    have cT := text_w (l1 := l1) (l2 := l2) (lx := lx) (by omega) (by omega) (hm.below hb2) (by omega) q4
    clear cC hm q1 q2 q3 q4 hP
    go_wp2_with fail
    go_at_call 84
    refine cT.mono ?_
    rintro e w3 ⟨rfl, hk3⟩
    go_wp2
    go_ret2
    exact ⟨rfl, hb2.trans (hk3.mono hb2.size)⟩
  · have e : bA (prnL pl l1 l2 lx d n) = ({ data := #[] } : ByteArray) := by unfold prnL; rw [if_neg h]; rfl
    rw [e]
    clear hc hm e hP
    go_enter func21, ntmps21
    go_wp2_with fail
    go_at_call 15
    refine cC.mono ?_
    rintro e w2 ⟨rfl, hk2⟩
    go_wp2
    go_ret2
    exact ⟨rfl, hB.trans (hk2.mono (by simp))⟩
end
end Go.Proofs.Tryz

namespace Go.Proofs.Tryz
open Go Go.Am Go.RowKit Go.Dr
set_option maxRecDepth 100000

/-- A move whose string is one word. -/
def WordM (m : MvD) : Prop := DigM m ∧ m.sn = 1 ∧ ∀ b ∈ strL m.y m.so m.sn, b ≠ 32
/-! ### words -/
/-! ### plays -/
/-- A play whose string can be read word by word. -/
structure WordP (l1 l2 : List UInt8) (d : Nat → MvD) (n : Nat) : Prop where
  h1 : ∀ b ∈ l1, b ≠ 32 ∧ b ≠ 45
  h2 : ∀ b ∈ l2, b ≠ 32 ∧ b ≠ 45
  hd : ∀ i, i < n → WordM (d i)
end Go.Proofs.Tryz

namespace Go.Proofs.Tryz
open Go Go.Am Go.RowKit Go.Dr
set_option maxRecDepth 100000

section
variable {x o n : Int} {t : Int → Int}
end

/-- All that is used of a valid play. -/
structure FullP (y0 : Int → Int) (yo yn : Int) (y1 : Int → Int) (eo en : Int) (d : Nat → MvD) (n : Nat) : Prop where
  v : ValP d n
  w : WordP (strL y0 yo yn) (strL y1 eo en) d n
  go : ∀ i, i < n → (d i).x = 0 → (d i).fr < (d i).to
  ne : ∀ i, i < n → ∀ j : Nat, ((j + 1 : Nat) : Int) < (d i).bn → (d i).t ((d i).bo + (j : Int)) ≠ (d i).t ((d i).bo + ((j + 1 : Nat) : Int))
  yn : 0 ≤ yn ∧ yn ≤ 24
  en : 0 ≤ en ∧ en ≤ 1
end Go.Proofs.Tryz

namespace Go.Proofs.Tryz
open Go

/-- The parts of a string between a byte. -/
def spl (c : UInt8) : List UInt8 → List (List UInt8)
  | [] => [[]]
  | b :: l => if b = c then [] :: spl c l else
    match spl c l with
    | [] => [[b]]
    | w :: r => (b :: w) :: r
theorem spl_ne (c : UInt8) : ∀ l : List UInt8, spl c l ≠ []
  | [] => by simp [spl]
  | b :: l => by
    rw [spl]
    by_cases h : b = c
    · rw [if_pos h]; simp
    · rw [if_neg h]
      cases spl c l <;> simp
theorem spl_none {c : UInt8} : ∀ {p : List UInt8}, c ∉ p → spl c p = [p]
  | [], _ => rfl
  | b :: p, h => by
    simp only [List.mem_cons, not_or] at h
    rw [spl, if_neg (fun e => h.1 e.symm), spl_none h.2]
theorem spl_break {c : UInt8} {r : List UInt8} : ∀ {p : List UInt8}, c ∉ p → spl c (p ++ c :: r) = p :: spl c r
  | [], _ => by rw [List.nil_append, spl, if_pos rfl]
  | b :: p, h => by
    simp only [List.mem_cons, not_or] at h
    rw [List.cons_append, spl, if_neg (fun e => h.1 e.symm), spl_break h.2]
theorem spl_length (c : UInt8) : ∀ l : List UInt8, (spl c l).length = l.count c + 1
  | [] => rfl
  | b :: l => by
    rw [spl]
    by_cases h : b = c
    · subst h
      rw [if_pos rfl, List.length_cons, spl_length b l]
      simp
    · rw [if_neg h, List.count_cons_of_ne (by simpa using h)]
      have := spl_length c l
      revert this
      cases spl c l with
      | nil => intro h; simp at h
      | cons w r => intro h; simpa using h
/-- Joined again. -/
theorem spl_join (c : UInt8) : ∀ l : List UInt8, ∃ a r, spl c l = a :: r ∧ l = a ++ (r.map ([c] ++ ·)).flatten
  | [] => ⟨[], [], rfl, rfl⟩
  | b :: l => by
    obtain ⟨a, r, e, h⟩ := spl_join c l
    rw [spl, e]
    by_cases q : b = c
    · subst q
      rw [if_pos rfl]
      exact ⟨[], a :: r, rfl, by simpa using h⟩
    · rw [if_neg q]
      exact ⟨b :: a, r, rfl, by simp [h]⟩
open Lib in
theorem splitK_spl (c : UInt8) : ∀ l : List UInt8, splitK [c] 0 (count l [c]) l = spl c l
  | [] => by rw [count_miss (by simp [index])]; rfl
  | b :: l => by
    have ih := splitK_spl c l
    rw [spl]
    by_cases h : b = c
    · subst h
      have hix : index (b :: l) [b] = ((0 : Nat) : Int) := by rw [index]; simp [List.isPrefixOf]
      rw [if_pos rfl, count_cons_eq, Nat.add_comm, splitK, hix]
      simp [ih]
    · rw [if_neg h, count_cons_ne b c l h, ← ih]
      have hp : ([c] : List UInt8).isPrefixOf (b :: l) = false := by simp [List.isPrefixOf, Ne.symm h]
      have hix : index (b :: l) [c] = if index l [c] == -1 then -1 else index l [c] + 1 := by rw [index, hp]; simp
      by_cases hm : index l [c] = -1
      · rw [count_miss hm]; rfl
      · have hge := index_ge l [c]
        obtain ⟨j, hj⟩ : ∃ j : Nat, index l [c] = j := ⟨(index l [c]).toNat, by omega⟩
        have hix' : index (b :: l) [c] = ((j + 1 : Nat) : Int) := by rw [hix, if_neg (fun e => hm (beq_iff_eq.1 e)), hj]; omega
        rw [count_hit (by simp) hj, Nat.add_comm, splitK, splitK, hix', hj, if_neg (by simp <;> omega), if_neg (by simp <;> omega)]
        have e1 : (((j + 1 : Nat) : Int)).toNat = j + 1 := by omega
        have e2 : ((j : Nat) : Int).toNat = j := by omega
        rw [e1, e2]
        simp
open Lib in
/-- What strings.Split answers. -/
theorem splitB_spl (s : ByteArray) (c : UInt8) : (splitB ⟨#[c]⟩ 0 (countB s ⟨#[c]⟩) s).map (·.data.toList) = spl c s.data.toList := by
  rw [splitB_data]
  exact splitK_spl c _

/-! ### Trim -/
theorem trim_all {l cs : List UInt8} : Lib.trimS l cs = [] ↔ ∀ b ∈ l, cs.contains b = true := by
  unfold Lib.trimS Lib.trimLeftS Lib.trimRightS
  have dw : ∀ {l : List UInt8}, l.dropWhile (cs.contains ·) = [] ↔ ∀ b ∈ l, cs.contains b = true := fun {l} => by
    induction l with
    | nil => simp
    | cons b l ih =>
      by_cases h : cs.contains b = true
      · rw [List.dropWhile_cons, if_pos h]
        simp only [h, List.mem_cons, forall_eq_or_imp, true_and]; exact ih
      · rw [List.dropWhile_cons, if_neg h]
        simp only [reduceCtorEq, List.mem_cons, forall_eq_or_imp, false_iff, not_and]
        exact fun q => absurd q h
  rw [dw]
  constructor
  · intro h b hb
    by_cases hq : ∃ x ∈ l.reverse, cs.contains x = false
    · exfalso
      have key : ∀ {m : List UInt8}, (∃ x ∈ m, cs.contains x = false) → ∃ x ∈ m.dropWhile (cs.contains ·), cs.contains x = false := fun {m} => by
        induction m with
        | nil => intro ⟨x, hx, _⟩; simp at hx
        | cons y m ih =>
          rintro ⟨x, hx, hc⟩
          by_cases hy : cs.contains y = true
          · rw [List.dropWhile_cons, if_pos hy]
            rcases List.mem_cons.1 hx with rfl | hx
            · rw [hy] at hc; cases hc
            · exact ih ⟨x, hx, hc⟩
          · rw [List.dropWhile_cons, if_neg hy]
            exact ⟨x, hx, hc⟩
      obtain ⟨x, hx, hc⟩ := key hq
      rw [h x (List.mem_reverse.2 hx)] at hc
      cases hc
    · cases hc : cs.contains b with
      | true => rfl
      | false => exact absurd ⟨b, List.mem_reverse.2 hb, hc⟩ hq
  · intro h b hb
    have : b ∈ l.reverse.dropWhile (cs.contains ·) := List.mem_reverse.1 hb
    exact h b (List.mem_reverse.1 ((List.dropWhile_sublist _).subset this))
end Go.Proofs.Tryz

namespace Go.Proofs.Tryz
open Go Go.Am Go.RowKit Go.Dr
set_option maxRecDepth 100000

/-! ### a move's word -/
def dig (b : UInt8) : Bool := decide (48 ≤ b.toNat ∧ b.toNat ≤ 57)
def digV (b : UInt8) : Int := (b.toNat : Int) - 48
/-- The byte i of a list. -/
def by' (l : List UInt8) (i : Nat) : UInt8 := (l[i]?).getD 0
/-- The head of a move's word. -/
def pmHead (l : List UInt8) : Bool := decide (4 ≤ l.length) && decide (l.length ≠ 5) && (by' l 1 == 45 || by' l 1 == 120) && decide (97 ≤ (by' l 3).toNat ∧ (by' l 3).toNat ≤ 122)
/-- The word of a move. -/
def pmOk (l : List UInt8) : Bool := pmHead l && dig (by' l 0) && dig (by' l 2) && (l.length == 4 || by' l 4 == 58) && (l.drop 5).all dig
/-- The move of a word. -/
def pmM (l : List UInt8) : MvD := ⟨digV (by' l 0), digV (by' l 2), if by' l 1 = 120 then 1 else 0, fun _ => ((by' l 3).toNat : Int), 0, 1, tl ((l.drop 5).map digV), 0, ((l.drop 5).length : Nat)⟩
theorem tchs_pmM (l : List UInt8) : tchs (pmM l) = (l.drop 5).map digV := by
  unfold tchs pmM
  simp only [Int.toNat_natCast]
  have := intsL_tl ((l.drop 5).map digV)
  rw [List.length_map] at this
  exact this

/-! ### the words of a play -/
structure PSt where
  a : List UInt8
  e : List UInt8
  lx : Bool
  L : List MvD
def p0St : PSt := ⟨[], [], false, []⟩
def pitB (b : UInt8) : Bool := [66, 67, 83, 70, 88, 72].contains b
def evB (b : UInt8) : Bool := [75, 87, 72, 73, 88, 78, 89].contains b
/-- The word n of a play. -/
def stepW (n : Nat) (w : List UInt8) (P : PSt) : Option PSt :=
  if n = 0 then (if w = [45] then some P else if w ≠ [] ∧ w.all pitB = true then some { P with a := w } else none)
  else if n = 1 then (if w = [45] then some P else if w.length = 1 ∧ w.all evB = true then some { P with e := w } else none)
  else if n = 2 ∧ w = [108, 97, 116, 101] then some { P with lx := true }
  else if pmOk w = true then some { P with L := P.L ++ [pmM w] } else none
/-- All words, from the word n on, which begins at the byte k. -/
def runW : Nat → Nat → PSt → List (List UInt8) → Nat ⊕ PSt
  | _, _, P, [] => .inr P
  | n, k, P, w :: r => match stepW n w P with
    | none => .inl k
    | some Q => runW (n + 1) (k + w.length + 1) Q r
/-- The first words. -/
def accW : Nat → PSt → List (List UInt8) → Option PSt
  | _, P, [] => some P
  | n, P, w :: r => match stepW n w P with
    | none => none
    | some Q => accW (n + 1) Q r
/-- Where the word behind the first ones begins. -/
def atW : List (List UInt8) → Nat
  | [] => 0
  | w :: r => w.length + 1 + atW r
theorem atW_snoc (w : List UInt8) : ∀ r, atW (r ++ [w]) = atW r + w.length + 1
  | [] => by simp [atW]
  | x :: r => by rw [List.cons_append, atW, atW, atW_snoc w r]; omega
theorem accW_snoc (w : List UInt8) : ∀ (r : List (List UInt8)) (n : Nat) (P : PSt), accW n P (r ++ [w]) = (accW n P r).bind (stepW (n + r.length) w)
  | [], n, P => by
    show (match stepW n w P with | none => none | some Q => some Q) = stepW (n + 0) w P
    rw [Nat.add_zero]
    cases stepW n w P <;> rfl
  | x :: r, n, P => by
    rw [List.cons_append, accW, accW]
    cases stepW n x P with
    | none => rfl
    | some Q =>
      show accW (n + 1) Q (r ++ [w]) = (accW (n + 1) Q r).bind _
      rw [accW_snoc w r (n + 1) Q, List.length_cons, show n + 1 + r.length = n + (r.length + 1) by omega]
theorem runW_stop (w : List UInt8) (z : List (List UInt8)) : ∀ (r : List (List UInt8)) (n k : Nat) (P Q : PSt), accW n P r = some Q → stepW (n + r.length) w Q = none → runW n k P (r ++ w :: z) = .inl (k + atW r)
  | [], n, k, P, Q, h, hs => by
    cases h
    show (match stepW n w P with | none => _ | some Q => _) = _
    rw [show stepW n w P = none from hs]
    rfl
  | x :: r, n, k, P, Q, h, hs => by
    rw [accW] at h
    rw [List.cons_append, runW]
    cases hx : stepW n x P with
    | none => rw [hx] at h; cases h
    | some R =>
      rw [hx] at h
      show runW (n + 1) (k + x.length + 1) R (r ++ w :: z) = _
      rw [runW_stop w z r (n + 1) _ R Q h (by rw [List.length_cons] at hs; rw [show n + 1 + r.length = n + (r.length + 1) by omega]; exact hs), atW]
      congr 1; omega
theorem runW_done : ∀ (r : List (List UInt8)) (n k : Nat) (P Q : PSt), accW n P r = some Q → runW n k P r = .inr Q
  | [], n, k, P, Q, h => by cases h; rfl
  | x :: r, n, k, P, Q, h => by
    rw [accW] at h
    rw [runW]
    cases hx : stepW n x P with
    | none => rw [hx] at h; cases h
    | some R => rw [hx] at h; exact runW_done r (n + 1) _ R Q h
theorem atW_join : ∀ (a : List UInt8) (r : List (List UInt8)), atW (a :: r) = (a ++ (r.map ([32] ++ ·)).flatten).length + 1
  | a, [] => by simp [atW]
  | a, b :: r => by rw [atW, atW_join b r]; simp; omega
theorem atW_append : ∀ r z : List (List UInt8), atW (r ++ z) = atW r + atW z
  | [], z => by simp [atW]
  | x :: r, z => by rw [List.cons_append, atW, atW, atW_append r z]; omega
/-- The places of the words lie in the string. -/
theorem atW_spl (l : List UInt8) : atW (spl 32 l) = l.length + 1 := by
  obtain ⟨a, r, e, h⟩ := spl_join 32 l
  rw [e, atW_join, ← h]
/-- The bytes of a list as integers. -/
def yB (l : List UInt8) (j : Int) : Int := ((by' l j.toNat).toNat : Int)
theorem isStr_bA (l : List UInt8) : IsStr (.string (bA l)) (yB l) 0 (l.length : Nat) := by
  refine ⟨l, rfl, rfl, fun j b h => ?_⟩
  unfold yB by'
  have e : ((0 : Int) + (j : Int)).toNat = j := by omega
  rw [e, h]
  rfl
/-- What CheckPlay answers. -/
def plP (P : PSt) : Int := plV (yB P.a) 0 (P.a.length : Nat) (yB P.e) 0 (P.e.length : Nat) (dOf P.L) P.L.length
def pldOf (P : PSt) : PlD := ⟨bA P.a, bA P.e, P.lx, P.L⟩
structure PRes where
  p : PlD
  k : Nat
  e : Int
/-- What Parse answers. -/
def parL (l : List UInt8) : PRes :=
  if 4096 < l.length then ⟨zeroP, 0, 26⟩ else match runW 0 0 p0St (spl 32 l) with
    | .inl k => ⟨zeroP, k, 25⟩
    | .inr P => if (spl 32 l).length < 2 then ⟨zeroP, l.length, 25⟩ else if plP P = 0 then ⟨pldOf P, 0, 0⟩ else ⟨zeroP, l.length, plP P⟩
theorem parL_stop {l : List UInt8} (h : ¬ 4096 < l.length) {r z : List (List UInt8)} {w : List UInt8} {Q : PSt} (e : spl 32 l = r ++ w :: z) (h1 : accW 0 p0St r = some Q) (h2 : stepW r.length w Q = none) : parL l = ⟨zeroP, atW r, 25⟩ := by
  unfold parL
  rw [if_neg h, e, runW_stop w z r 0 0 p0St Q h1 (by rw [Nat.zero_add]; exact h2), Nat.zero_add]
theorem parL_few {l : List UInt8} (h : ¬ 4096 < l.length) {Q : PSt} (h1 : accW 0 p0St (spl 32 l) = some Q) (h2 : (spl 32 l).length < 2) : parL l = ⟨zeroP, l.length, 25⟩ := by
  unfold parL
  rw [if_neg h, runW_done _ 0 0 p0St Q h1]
  exact if_pos h2
theorem parL_chk {l : List UInt8} (h : ¬ 4096 < l.length) {Q : PSt} (h1 : accW 0 p0St (spl 32 l) = some Q) (h2 : ¬ (spl 32 l).length < 2) (h3 : plP Q ≠ 0) : parL l = ⟨zeroP, l.length, plP Q⟩ := by
  unfold parL
  rw [if_neg h, runW_done _ 0 0 p0St Q h1]
  show (if (spl 32 l).length < 2 then _ else _) = _
  rw [if_neg h2, if_neg h3]
theorem parL_ok {l : List UInt8} (h : ¬ 4096 < l.length) {Q : PSt} (h1 : accW 0 p0St (spl 32 l) = some Q) (h2 : ¬ (spl 32 l).length < 2) (h3 : plP Q = 0) : parL l = ⟨pldOf Q, 0, 0⟩ := by
  unfold parL
  rw [if_neg h, runW_done _ 0 0 p0St Q h1]
  show (if (spl 32 l).length < 2 then _ else _) = _
  rw [if_neg h2, if_pos h3]
theorem stepW_bn {n : Nat} {w : List UInt8} {P Q : PSt} (h : stepW n w P = some Q) (hP : ∀ m ∈ P.L, 0 ≤ m.bn) : ∀ m ∈ Q.L, 0 ≤ m.bn := by
  unfold stepW at h
  split at h
  · split at h
    · cases h; exact hP
    · split at h
      · cases h; exact hP
      · cases h
  · split at h
    · split at h
      · cases h; exact hP
      · split at h
        · cases h; exact hP
        · cases h
    · split at h
      · cases h; exact hP
      · split at h
        · cases h
          intro m hm
          rcases List.mem_append.1 hm with hm | hm
          · exact hP m hm
          · rw [List.mem_singleton.1 hm]; exact Int.natCast_nonneg _
        · cases h
theorem runW_bn : ∀ (r : List (List UInt8)) {n k : Nat} {P Q : PSt}, runW n k P r = .inr Q → (∀ m ∈ P.L, 0 ≤ m.bn) → ∀ m ∈ Q.L, 0 ≤ m.bn
  | [], n, k, P, Q, h, hP => by cases h; exact hP
  | x :: r, n, k, P, Q, h, hP => by
    rw [runW] at h
    cases hx : stepW n x P with
    | none => rw [hx] at h; cases h
    | some R => rw [hx] at h; exact runW_bn r h (stepW_bn hx hP)
theorem dOf_in {L : List MvD} {i : Nat} (hi : i < L.length) : dOf L i ∈ L := by
  unfold dOf
  rw [List.getElem?_eq_getElem hi]
  exact List.getElem_mem hi
/-- The answer is a small play. -/
theorem parL_small (l : List UInt8) : (parL l).p.L.length ≤ 4 ∧ ∀ i, i < (parL l).p.L.length → (dOf (parL l).p.L i).bn ≤ 9 := by
  have hz : zeroP.L.length ≤ 4 ∧ ∀ i, i < zeroP.L.length → (dOf zeroP.L i).bn ≤ 9 := ⟨by decide, fun i hi => absurd hi (Nat.not_lt_zero _)⟩
  unfold parL
  split
  · exact hz
  · split
    · exact hz
    · rename_i P hP
      split
      · exact hz
      · split
        · rename_i h2 h3
          have hb : ∀ i, i < P.L.length → 0 ≤ (dOf P.L i).bn := fun i hi => runW_bn _ hP (fun m hm => by simp [p0St] at hm) _ (dOf_in hi)
          have hv := (valP_of h3 hb).v
          exact ⟨hv.n4, fun i hi => (hv.bn i hi).2⟩
        · exact hz
end Go.Proofs.Tryz
