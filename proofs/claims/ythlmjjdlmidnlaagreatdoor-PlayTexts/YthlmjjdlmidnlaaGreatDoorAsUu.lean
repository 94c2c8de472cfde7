/- text and Print of the program: by the kit's walk. Print of the program: by the kit's walk; what a valid play's strings are. Plain: two plays with the same string are the same. Plain: a valid play's strings, letters and touches. Plain: the parts of a string between a byte. Plain: what Parse answers. Plain: a valid play and its canonical form hold the same moves. Plain: a valid play is parsed as it was printed; what is parsed is printed as it was. -/
import Derived.Test.YthlmjjdlmidnlaaGreatDoorAsQu
import Derived.Test.YthlmjjdlmidnlaaGreatDoorAsOfu
import Derived.Test.YthlmjjdlmidnlaaGreatDoorAsBu
import Derived.Lib.SplitLaws
import Derived.Lib.SlTrimSet
namespace Go.Proofs.Tryz
open Go Go.Am Go.RowKit Go.Dr
set_option maxRecDepth 100000

theorem info9 : (prog.info? 9).map (fun i => (i.zero, i.size, i.bytes)) = some (some (.string ⟨#[]⟩), 1, 16) := by kernel_rfl
def strV (l : List UInt8) : Value := .string (bA l)
theorem wordsK_len (l1 l2 : List UInt8) (lx : Bool) (d : Nat → MvD) : ∀ i, (wordsK l1 l2 lx d i).length ≤ i + 3
  | 0 => by cases lx <;> simp [wordsK]
  | i + 1 => by have := wordsK_len l1 l2 lx d i; rw [wordsK, List.length_append]; simp; omega
theorem mvsL_len {d : Nat → MvD} {n : Nat} (hd : ∀ i, i < n → (d i).bn ≤ 1000 ∧ (d i).sn ≤ 1000) : ∀ i, i ≤ n → (mvsL d i).length ≤ 2005 * i
  | 0, _ => Nat.zero_le _
  | i + 1, h => by
    have := mvsL_len hd i (by omega)
    have := length_moveL (hd i (by omega)).1 (hd i (by omega)).2
    rw [mvsL, List.length_append, List.length_append]
    simp
    omega
theorem playL_len {l1 l2 : List UInt8} {lx : Bool} {d : Nat → MvD} {n : Nat} (h1 : l1.length ≤ 1000) (h2 : l2.length ≤ 1000) (hn : n ≤ 100) (hd : ∀ i, i < n → (d i).bn ≤ 1000 ∧ (d i).sn ≤ 1000) : (playL l1 l2 lx d n).length ≤ 300000 := by
  have := mvsL_len hd n (Nat.le_refl _)
  have := length_dashL l1
  have := length_dashL l2
  unfold playL
  simp only [List.length_append, List.length_cons, List.length_nil]
  have : (lateL lx).length ≤ 5 := by cases lx <;> simp [lateL]
  omega

section
variable {w : World} {l1 l2 : List UInt8} {lx : Bool} {d : Nat → MvD} {n : Nat} {ad : Option Addr} {c : Nat}
set_option maxHeartbeats 3200000 in
theorem text_w (h1 : l1.length ≤ 1000) (h2 : l2.length ≤ 1000) (hm : IsMoves w (.slice ad n c) d n) (hn : n ≤ 100) (hd : ∀ i, i < n → DigM (d i) ∧ (d i).bn ≤ 1000 ∧ (d i).sn ≤ 1000) :
    Calls prog 84 #[.agg #[.string (bA l1), .string (bA l2), .bool lx, .slice ad n c]] w fun e w' => e = .returned (.string (bA (playL l1 l2 lx d n))) ∧ Below w.heap.size w w' := by
  have hpl := playL_len (lx := lx) h1 h2 hn fun i hi => (hd i hi).2
  obtain ⟨i9, hi9, hz90, hz91, hz92⟩ := info_more info9
  have zz : ((.string ⟨#[]⟩ : Value)).cells.size = 1 := rfl
  have hB : Below w.heap.size w (w.alloc (.cells #[.string (bA l1), .string (bA l2), .bool lx, .slice ad n c] 24)) := (Below.refl _ _).alloc (Nat.le_refl _) _
  have hx0 := at_new w #[.string (bA l1), .string (bA l2), .bool lx, .slice ad n c] 24
  go_enter func84, ntmps84
  go_wp2_with fail
  generalize w.alloc (.cells #[.string (bA l1), .string (bA l2), .bool lx, .slice ad n c] 24) = W0 at hB hx0 ⊢
  obtain ⟨⟨x0, x1, x2, x3⟩, -⟩ := box4 hx0
  have hdr : Below W0.heap.size W0 W0.drew := (Below.refl _ _).drew
  have hdz : Below W0.heap.size W0 (W0.alloc (.cells #[.string (bA (dashL l1)), .string (bA (dashL l2))] 9)).drew := ((Below.refl _ _).alloc (Nat.le_refl _) _).drew
  go_region_held3 (fun W => W.cell? ⟨w.heap.size, 0, none⟩ = some (.string (bA l1)) ∧ W.cell? ⟨w.heap.size, 1, none⟩ = some (.string (bA l2)) ∧ Below W0.heap.size W0 W)
    (go_keep)
    (first
      | (go_at_call 119; refine Calls.mono (optional_w _ _) ?_; rintro e W ⟨rfl, rfl⟩))
  clear x0 x1 x2 x3
  have hxD : At (W0.alloc (.cells #[.string (bA (dashL l1)), .string (bA (dashL l2))] 9)).drew w.heap.size #[.string (bA l1), .string (bA l2), .bool lx, .slice ad n c] 24 := (hx0.alloc _).drew
  have hbD := (hB.alloc hB.size (.cells #[.string (bA (dashL l1)), .string (bA (dashL l2))] 9)).drew
  have own2 : (W0.alloc (.cells #[.string (bA (dashL l1)), .string (bA (dashL l2))] 9)).drew.ownsRow w.heap.size 9 1 (.slice (some ⟨W0.heap.size, 0, none⟩) 2 2) 2 [.string (bA (dashL l1)), .string (bA (dashL l2))] :=
    (World.ownsRow_lit W0 #[.string (bA (dashL l1)), .string (bA (dashL l2))] 2 hB.size (by decide) rfl).drew
  have hk9 : w.heap.size ≤ (W0.alloc (.cells #[.string (bA (dashL l1)), .string (bA (dashL l2))] 9)).drew.heap.size := hbD.size
  generalize (W0.alloc (.cells #[.string (bA (dashL l1)), .string (bA (dashL l2))] 9)).drew = W at hxD hbD own2 hk9 ⊢
  generalize W0.heap.size = g2 at own2 ⊢
  clear hx0 hB hdr hdz
  obtain ⟨⟨x0, x1, x2, x3⟩, -⟩ := box4 hxD
  cases lx with
  | true =>
    go_wp2_with (first
      | (at_builtin; refine wpList_append_own _ rfl _ _ 88 rfl w.heap.size 9 i9 (.string ⟨#[]⟩) 1 16 underlying88 hi9 hz90 hz91 hz92 zz (by decide) _ _ _ rfl (own2.alloc _) ⟨W.heap.size, 0, none⟩ 1 1 [.string { data := #[108, 97, 116, 101] }] rfl rfl ?c1 ?c2 ?c3 ?c4 ?c5 ?_)
      | go_in)
    case c1 =>
      intro j u hj
      match j, hj with
      | 0, hj => simp at hj; subst hj; simp [Addr.add]
    case c2 => intro u hu; simp at hu; subst hu; rfl
    case c3 => decide
    case c4 => decide
    case c5 => simp; omega
    intro v3 w3 hown3 hgr3 _
    have hb3 : Below w.heap.size w w3 := (hbD.alloc hbD.size _).grown hgr3 (by simp; omega) (fun q hq => (own2.lt q hq).1)
    have hw : w3.ownsRow w.heap.size 9 1 v3 (wordsK l1 l2 true d 0).length ((wordsK l1 l2 true d 0).map strV) := hown3
    have hx3 : At w3 w.heap.size #[.string (bA l1), .string (bA l2), .bool true, .slice ad n c] 24 := (hgr3.block _ (hxD.alloc _).lt (fun e => by
      obtain ⟨cs', fz, hc⟩ := Lib.ownsRow_kind own2 _ e.symm
      unfold At at hxD
      rw [hxD] at hc
      simp at hc)).trans (hxD.alloc _)
    clear own2 hown3 hgr3 hxD hbD x0 x1 x2 x3 hk9
    obtain ⟨⟨-, -, -, x3⟩, -⟩ := box4 hx3
    go_wp2_with fail
    go_loopw [3, 21] (fun t z wr => ∃ (i : Nat) (v : Value), i ≤ n ∧ z = .int .i64 i ∧ v = t ∧ wr.ownsRow w.heap.size 9 1 v (wordsK l1 l2 true d i).length ((wordsK l1 l2 true d i).map strV) ∧ Below w.heap.size w wr) (fun _ z _ => n - (numOf' z).toNat)
    case atStart => exact ⟨0, _, Nat.zero_le _, rfl, rfl, hw, hb3⟩
    case round =>
      clear hw hb3 hx3
      obtain ⟨i, v, hi, rfl, rfl, hw, hbel⟩ := hrel
      by_cases hin : i < n
      · obtain ⟨b, off, rfl, -, f, hf, hcf⟩ := m5_row hm (by omega)
        obtain ⟨hd1, hd2, hd3⟩ := hd i hin
        obtain ⟨p0, p1, p2, p3, p4⟩ := hcf i hin
        have hcel : ∀ {b o : Nat} {v : Value}, w.cell? ⟨b, o, none⟩ = some v → wr.cell? ⟨b, o, none⟩ = some v := fun h => cell_b h hbel (cell_under h)
        have p0 := hcel p0
        have p1 := hcel p1
        have p2 := hcel p2
        have p3 := hcel p3
        have p4 := hcel p4
        have hmi := (hf i hin).below hbel
        have hwl := wordsK_len l1 l2 true d i
        clear hcf hf hcel
        generalize f i = m at p0 p1 p2 p3 p4 hmi
        have hal := (Below.refl wr.heap.size wr).alloc (Nat.le_refl _) (.cells #[.int .i64 m.f1, .int .i64 m.f2, .bool m.xb, .string m.s, .slice m.a m.k m.c] 27)
        have cM := printMove_w (hmi.below hal) hd1 hd2 hd3
        have hown1 := hw.alloc (.cells #[.int .i64 m.f1, .int .i64 m.f2, .bool m.xb, .string m.s, .slice m.a m.k m.c] 27)
        have hbA := hbel.alloc hbel.size (.cells #[.int .i64 m.f1, .int .i64 m.f2, .bool m.xb, .string m.s, .slice m.a m.k m.c] 27)
        have HC : Hid ((wordsK l1 l2 true d (i + 1)).length = (wordsK l1 l2 true d i).length + 1 ∧ (wordsK l1 l2 true d (i + 1)).map strV = (wordsK l1 l2 true d i).map strV ++ [.string (bA (moveL (d i)))]) := Lib.hid (by
          rw [wordsK, List.length_append, List.map_append]
          exact ⟨rfl, rfl⟩)
        clear hmi hal hw hbel hd1 hd2 hd3
        generalize (wordsK l1 l2 true d i).map strV = xs at hown1 HC
        generalize (wordsK l1 l2 true d i).length = kk at hown1 HC hwl
        generalize bA (moveL (d i)) = Sm at cM HC
        go_wp2_with fail
        go_at_call 120
        refine cM.mono ?_
        rintro e w2 ⟨rfl, hk2⟩
        have hown2 := owns_below hown1 hk2
        have hb2 := hbA.trans (hk2.mono hbA.size)
        have hs2 := hb2.size
        clear cM hown1 hbA hk2 p0 p1 p2 p3 p4
        go_wp2_with (first
          | (at_builtin; refine wpList_append_own _ rfl _ _ 88 rfl w.heap.size 9 i9 (.string ⟨#[]⟩) 1 16 underlying88 hi9 hz90 hz91 hz92 zz (by decide) _ _ _ rfl (hown2.alloc _) ⟨w2.heap.size, 0, none⟩ 1 1 [.string Sm] rfl rfl ?c1 ?c2 ?c3 ?c4 ?c5 ?_)
          | go_in)
        case c1 =>
          intro j u hj
          match j, hj with
          | 0, hj => simp at hj; subst hj; simp [Addr.add]
        case c2 => intro u hu; simp at hu; subst hu; rfl
        case c3 => unfold maxLen; omega
        case c4 => omega
        case c5 => simp; omega
        intro v4 w4 hown4 hgr4 _
        have hb4 : Below w.heap.size w w4 := (hb2.alloc hb2.size _).grown hgr4 (by simp; omega) (fun q hq => (hown2.lt q hq).1)
        have ho4 : w4.ownsRow w.heap.size 9 1 v4 (wordsK l1 l2 true d (i + 1)).length ((wordsK l1 l2 true d (i + 1)).map strV) := by
          rw [HC.out.1, HC.out.2]; exact hown4
        clear hown4 hgr4 hown2 HC
        go_wp2
        go_roundw
        case rel => exact ⟨i + 1, _, by omega, by go_num, rfl, ho4, hb4⟩
        case measure => simp [numOf'] <;> omega
      · obtain rfl : i = n := by omega
        obtain ⟨r, er, -⟩ := wordsK_cons l1 l2 true d i
        have hwl := wordsK_len l1 l2 true d i
        have hne : (wordsK l1 l2 true d i).length ≠ 0 := by rw [er]; simp
        obtain ⟨a', c', rfl, hz⟩ := own_form hw
        obtain ⟨g, rfl⟩ := hz.resolve_left hne
        have hj := join_words l1 l2 true d i
        have cJ := join_w (ws := wordsK l1 l2 true d i) hw (by omega) (by rw [hj]; omega)
        rw [hj] at cJ
        clear hj er hw
        generalize (wordsK l1 l2 true d i).length = kk at cJ hne hwl
        go_wp2_with fail
        go_at_call 121
        refine cJ.mono ?_
        rintro e w5 ⟨rfl, hk5⟩
        go_wp2
        go_ret
        exact ⟨rfl, hbel.trans (hk5.mono hbel.size)⟩
  | false =>
    have hb3 := hbD
    have hw : W.ownsRow w.heap.size 9 1 (.slice (some ⟨g2, 0, none⟩) 2 2) (wordsK l1 l2 false d 0).length ((wordsK l1 l2 false d 0).map strV) := own2
    have hx3 := hxD
    clear own2 hxD hbD hk9
    go_wp2_with fail
    go_loopw [3, 21] (fun t z wr => ∃ (i : Nat) (v : Value), i ≤ n ∧ z = .int .i64 i ∧ v = t ∧ wr.ownsRow w.heap.size 9 1 v (wordsK l1 l2 false d i).length ((wordsK l1 l2 false d i).map strV) ∧ Below w.heap.size w wr) (fun _ z _ => n - (numOf' z).toNat)
    case atStart => exact ⟨0, _, Nat.zero_le _, rfl, rfl, hw, hb3⟩
    case round =>
      clear hw hb3 hx3
      obtain ⟨i, v, hi, rfl, rfl, hw, hbel⟩ := hrel
      by_cases hin : i < n
      · obtain ⟨b, off, rfl, -, f, hf, hcf⟩ := m5_row hm (by omega)
        obtain ⟨hd1, hd2, hd3⟩ := hd i hin
        obtain ⟨p0, p1, p2, p3, p4⟩ := hcf i hin
        have hcel : ∀ {b o : Nat} {v : Value}, w.cell? ⟨b, o, none⟩ = some v → wr.cell? ⟨b, o, none⟩ = some v := fun h => cell_b h hbel (cell_under h)
        have p0 := hcel p0
        have p1 := hcel p1
        have p2 := hcel p2
        have p3 := hcel p3
        have p4 := hcel p4
        have hmi := (hf i hin).below hbel
        have hwl := wordsK_len l1 l2 false d i
        clear hcf hf hcel
        generalize f i = m at p0 p1 p2 p3 p4 hmi
        have hal := (Below.refl wr.heap.size wr).alloc (Nat.le_refl _) (.cells #[.int .i64 m.f1, .int .i64 m.f2, .bool m.xb, .string m.s, .slice m.a m.k m.c] 27)
        have cM := printMove_w (hmi.below hal) hd1 hd2 hd3
        have hown1 := hw.alloc (.cells #[.int .i64 m.f1, .int .i64 m.f2, .bool m.xb, .string m.s, .slice m.a m.k m.c] 27)
        have hbA := hbel.alloc hbel.size (.cells #[.int .i64 m.f1, .int .i64 m.f2, .bool m.xb, .string m.s, .slice m.a m.k m.c] 27)
        have HC : Hid ((wordsK l1 l2 false d (i + 1)).length = (wordsK l1 l2 false d i).length + 1 ∧ (wordsK l1 l2 false d (i + 1)).map strV = (wordsK l1 l2 false d i).map strV ++ [.string (bA (moveL (d i)))]) := Lib.hid (by
          rw [wordsK, List.length_append, List.map_append]
          exact ⟨rfl, rfl⟩)
        clear hmi hal hw hbel hd1 hd2 hd3
        generalize (wordsK l1 l2 false d i).map strV = xs at hown1 HC
        generalize (wordsK l1 l2 false d i).length = kk at hown1 HC hwl
        generalize bA (moveL (d i)) = Sm at cM HC
        go_wp2_with fail
        go_at_call 120
        refine cM.mono ?_
        rintro e w2 ⟨rfl, hk2⟩
        have hown2 := owns_below hown1 hk2
        have hb2 := hbA.trans (hk2.mono hbA.size)
        have hs2 := hb2.size
        clear cM hown1 hbA hk2 p0 p1 p2 p3 p4
        go_wp2_with (first
          | (at_builtin; refine wpList_append_own _ rfl _ _ 88 rfl w.heap.size 9 i9 (.string ⟨#[]⟩) 1 16 underlying88 hi9 hz90 hz91 hz92 zz (by decide) _ _ _ rfl (hown2.alloc _) ⟨w2.heap.size, 0, none⟩ 1 1 [.string Sm] rfl rfl ?c1 ?c2 ?c3 ?c4 ?c5 ?_)
          | go_in)
        case c1 =>
          intro j u hj
          match j, hj with
          | 0, hj => simp at hj; subst hj; simp [Addr.add]
        case c2 => intro u hu; simp at hu; subst hu; rfl
        case c3 => unfold maxLen; omega
        case c4 => omega
        case c5 => simp; omega
        intro v4 w4 hown4 hgr4 _
        have hb4 : Below w.heap.size w w4 := (hb2.alloc hb2.size _).grown hgr4 (by simp; omega) (fun q hq => (hown2.lt q hq).1)
        have ho4 : w4.ownsRow w.heap.size 9 1 v4 (wordsK l1 l2 false d (i + 1)).length ((wordsK l1 l2 false d (i + 1)).map strV) := by
          rw [HC.out.1, HC.out.2]; exact hown4
        clear hown4 hgr4 hown2 HC
        go_wp2
        go_roundw
        case rel => exact ⟨i + 1, _, by omega, by go_num, rfl, ho4, hb4⟩
        case measure => simp [numOf'] <;> omega
      · obtain rfl : i = n := by omega
        obtain ⟨r, er, -⟩ := wordsK_cons l1 l2 false d i
        have hwl := wordsK_len l1 l2 false d i
        have hne : (wordsK l1 l2 false d i).length ≠ 0 := by rw [er]; simp
        obtain ⟨a', c', rfl, hz⟩ := own_form hw
        obtain ⟨g, rfl⟩ := hz.resolve_left hne
        have hj := join_words l1 l2 false d i
        have cJ := join_w (ws := wordsK l1 l2 false d i) hw (by omega) (by rw [hj]; omega)
        rw [hj] at cJ
        clear hj er hw
        generalize (wordsK l1 l2 false d i).length = kk at cJ hne hwl
        go_wp2_with fail
        go_at_call 121
        refine cJ.mono ?_
        rintro e w5 ⟨rfl, hk5⟩
        go_wp2
        go_ret
        exact ⟨rfl, hbel.trans (hk5.mono hbel.size)⟩
end
end Go.Proofs.Tryz

namespace Go.Proofs.Tryz
open Go Go.Am Go.RowKit Go.Dr
set_option maxRecDepth 100000

theorem mvV_sn {fr t0 x so sn bo bn : Int} {y t : Int → Int} (h : mvV fr t0 x y so sn t bo bn = 0) : sn = 1 := by
  obtain ⟨⟨h1, h2⟩, ⟨h3, h4⟩, -⟩ := mvV_zero h
  unfold mvV moveR range34 at h
  simp only [ev_le, ev_lf', val_L', mv_fr, mv_to] at h
  rw [if_pos h1, if_pos h2, if_pos h3, if_pos h4] at h
  rw [ev_eq] at h
  by_cases hs : sn = 1
  · exact hs
  · rw [mv_sn, val_L', if_neg hs, ev_lf'] at h
    cases h
/-- What is printed of a valid play. -/
structure PrnP (yn en : Int) (d : Nat → MvD) (n : Nat) : Prop where
  hy : yn ≤ 24
  he : en ≤ 1
  hn : n ≤ 4
  hd : ∀ i, i < n → DigM (d i) ∧ (d i).bn ≤ 1000 ∧ (d i).sn ≤ 1000
theorem prn_of {y0 y1 : Int → Int} {yo yn eo en : Int} {d : Nat → MvD} {n : Nat} (h : plV y0 yo yn y1 eo en d n = 0) (hb : ∀ i, i < n → 0 ≤ (d i).bn) : PrnP yn en d n := by
  obtain ⟨h1, h2⟩ := val_of h hb
  unfold plV at h
  by_cases p1 : pitV y0 yo yn = 0
  case neg => rw [if_neg p1] at h; exact absurd h p1
  rw [if_pos p1] at h
  by_cases p2 : evOk y1 eo en = true
  case neg => rw [if_neg p2] at h; cases h
  rw [if_pos p2, if_pos h1.n4] at h
  refine ⟨?_, ?_, h1.n4, fun i hi => ⟨⟨?_, ?_, fun z hz => ?_⟩, ?_, ?_⟩⟩
  · unfold pitV at p1
    by_cases q : yn ≤ 24
    · exact q
    · rw [if_neg q] at p1; cases p1
  · unfold evOk at p2
    rw [decide_eq_true_eq] at p2
    rcases p2 with p2 | p2 <;> omega
  · have := h1.fr i hi; omega
  · have := h2 i hi; omega
  · obtain ⟨j, hj⟩ := List.mem_iff_getElem?.1 hz
    have hl := (List.getElem?_eq_some_iff.1 hj).1
    rw [tchs, length_intsL] at hl
    rw [tchs, intsL_get hl] at hj
    cases hj
    have := h1.t i hi j (by have := (h1.bn i hi).1; omega)
    omega
  · have := (h1.bn i hi).2; omega
  · have := mvV_sn (mvs_zero d n 0 h i (Nat.zero_le _) (by omega)); omega

section
variable {w : World} {l1 l2 : List UInt8} {lx : Bool} {d : Nat → MvD} {n : Nat} {ad : Option Addr} {c : Nat} {pl : Int}
/-- What Print answers. -/
def prnL (pl : Int) (l1 l2 : List UInt8) (lx : Bool) (d : Nat → MvD) (n : Nat) : List UInt8 := if pl = 0 then playL l1 l2 lx d n else []
theorem print_w (hc : Chk w (.agg #[.string (bA l1), .string (bA l2), .bool lx, .slice ad n c]) pl) (hm : IsMoves w (.slice ad n c) d n) (hP : pl = 0 → PrnP l1.length l2.length d n) :
    Calls prog 21 #[.agg #[.string (bA l1), .string (bA l2), .bool lx, .slice ad n c]] w fun e w' => e = .returned (.tuple #[.string (bA (prnL pl l1 l2 lx d n)), .int .i64 pl]) ∧ Below w.heap.size w w' := by
  have hB : Below w.heap.size w (w.alloc (.cells #[.string (bA l1), .string (bA l2), .bool lx, .slice ad n c] 24)) := (Below.refl _ _).alloc (Nat.le_refl _) _
  have cC := hc _ hB
  by_cases h : pl = 0
  · subst h
    obtain ⟨q1, q2, q3, q4⟩ := hP rfl
    have e : prnL 0 l1 l2 lx d n = playL l1 l2 lx d n := if_pos rfl
    rw [e]
    clear hc e
    go_enter func21, ntmps21
    go_wp2_with fail
    go_at_call 15
    refine cC.mono ?_
    rintro e w2 ⟨rfl, hk2⟩
    have hx2 := (at_new _ _ _).below hk2 (at_new _ _ _).lt
    obtain ⟨⟨x0, x1, x2, x3⟩, -⟩ := box4 hx2
    have hb2 := hB.trans (hk2.mono (by simp))
    have cT := text_w (l1 := l1) (l2 := l2) (lx := lx) (by omega) (by omega) (hm.below hb2) (by omega) q4
    clear cC hm q1 q2 q3 q4 hP
    go_wp2_with fail
    go_at_call 84
    refine cT.mono ?_
    rintro e w3 ⟨rfl, hk3⟩
    go_wp2
    go_ret2
    exact ⟨rfl, hb2.trans (hk3.mono hb2.size)⟩
  · have e : bA (prnL pl l1 l2 lx d n) = ({ data := #[] } : ByteArray) := by unfold prnL; rw [if_neg h]; rfl
    rw [e]
    clear hc hm e hP
    go_enter func21, ntmps21
    go_wp2_with fail
    go_at_call 15
    refine cC.mono ?_
    rintro e w2 ⟨rfl, hk2⟩
    go_wp2
    go_ret2
    exact ⟨rfl, hB.trans (hk2.mono (by simp))⟩
end
end Go.Proofs.Tryz

namespace Go.Proofs.Tryz
open Go Go.Am Go.RowKit Go.Dr
set_option maxRecDepth 100000

theorem dgB_inj {a b : Int} (ha : 0 ≤ a ∧ a ≤ 9) (hb : 0 ≤ b ∧ b ≤ 9) (h : dgB a = dgB b) : a = b := by
  have := congrArg UInt8.toNat h
  unfold dgB at this
  rw [UInt8.toNat_ofNat', UInt8.toNat_ofNat'] at this
  omega
theorem dgB_range {a : Int} (ha : 0 ≤ a ∧ a ≤ 9) : 48 ≤ (dgB a).toNat ∧ (dgB a).toNat ≤ 57 := by
  unfold dgB
  rw [UInt8.toNat_ofNat']
  omega
theorem map_dgB_inj : ∀ {l m : List Int}, (∀ z ∈ l, 0 ≤ z ∧ z ≤ 9) → (∀ z ∈ m, 0 ≤ z ∧ z ≤ 9) → l.map dgB = m.map dgB → l = m
  | [], [], _, _, _ => rfl
  | [], _ :: _, _, _, h => by simp at h
  | _ :: _, [], _, _, h => by simp at h
  | a :: l, b :: m, h1, h2, h => by
    simp only [List.map_cons, List.cons.injEq] at h
    have e := dgB_inj (h1 a (by simp)) (h2 b (by simp)) h.1
    rw [e, map_dgB_inj (fun z hz => h1 z (by simp [hz])) (fun z hz => h2 z (by simp [hz])) h.2]

/-- A move whose string is one word. -/
def WordM (m : MvD) : Prop := DigM m ∧ m.sn = 1 ∧ ∀ b ∈ strL m.y m.so m.sn, b ≠ 32
theorem strL_one {y : Int → Int} {o n : Int} (h : n = 1) : ∃ b, strL y o n = [b] := by
  subst h
  exact ⟨_, rfl⟩
theorem moveL_inj {m m' : MvD} (h : WordM m) (h' : WordM m') (e : moveL m = moveL m') : sameMD m m' = true := by
  obtain ⟨⟨d1, d2, d3⟩, s1, -⟩ := h
  obtain ⟨⟨d1', d2', d3'⟩, s1', -⟩ := h'
  obtain ⟨b, hb⟩ := strL_one (y := m.y) (o := m.so) s1
  obtain ⟨b', hb'⟩ := strL_one (y := m'.y) (o := m'.so) s1'
  unfold moveL at e
  rw [hb, hb'] at e
  simp only [List.cons_append, List.nil_append, List.cons.injEq] at e
  obtain ⟨e1, e2, e3, e4, e5⟩ := e
  have q1 := dgB_inj d1 d1' e1
  have q3 := dgB_inj d2 d2' e3
  have q2 : decide (m.x ≠ 0) = decide (m'.x ≠ 0) := by
    by_cases x1 : m.x = 0 <;> by_cases x2 : m'.x = 0 <;> simp [x1, x2] at e2 ⊢
  have q5 : tchs m = tchs m' := by
    by_cases t1 : (tchs m).length = 0
    · by_cases t2 : (tchs m').length = 0
      · rw [List.length_eq_zero_iff.1 t1, List.length_eq_zero_iff.1 t2]
      · rw [if_pos t1, if_neg t2, List.length_eq_zero_iff.1 t1] at e5
        simp at e5
    · by_cases t2 : (tchs m').length = 0
      · rw [if_neg t1, if_pos t2, List.length_eq_zero_iff.1 t2] at e5
        simp at e5
      · rw [if_neg t1, if_neg t2] at e5
        simp only [List.singleton_append, List.cons.injEq, true_and] at e5
        exact map_dgB_inj d3 d3' e5
  unfold sameMD
  rw [q1, q2, q3, q5, hb, hb', e4]
  simp
theorem moveL_same {m m' : MvD} (h : sameMD m m' = true) : moveL m = moveL m' := by
  unfold sameMD at h
  simp only [Bool.and_eq_true, decide_eq_true_eq, beq_iff_eq] at h
  obtain ⟨⟨⟨⟨h1, h2⟩, h3⟩, h4⟩, h5⟩ := h
  unfold moveL
  have hx : (m.x = 0) ↔ (m'.x = 0) := by
    by_cases x1 : m.x = 0 <;> by_cases x2 : m'.x = 0 <;> simp [x1, x2] at h3 ⊢
  rw [h1, h2, h4, h5]
  by_cases x1 : m.x = 0
  · rw [if_pos x1, if_pos (hx.1 x1)]
  · rw [if_neg x1, if_neg (fun q => x1 (hx.2 q))]
theorem moveL_head {m : MvD} (h : WordM m) : ∃ c l, moveL m = c :: l ∧ 48 ≤ c.toNat ∧ c.toNat ≤ 57 := ⟨dgB m.fr, _, by unfold moveL; simp only [List.cons_append, List.nil_append]; rfl, (dgB_range h.1.1).1, (dgB_range h.1.1).2⟩
theorem moveL_nosp {m : MvD} (h : WordM m) : (32 : UInt8) ∉ moveL m := by
  obtain ⟨⟨d1, d2, d3⟩, s1, hs⟩ := h
  have nd : ∀ z : Int, (0 ≤ z ∧ z ≤ 9) → dgB z ≠ 32 := fun z hz e => by
    have := dgB_range hz
    rw [e] at this
    have : (32 : UInt8).toNat = 32 := rfl
    omega
  unfold moveL
  intro hm
  simp only [List.mem_append, List.mem_singleton, List.mem_map] at hm
  rcases hm with ((((hm | hm) | hm) | hm) | hm) | ⟨z, hz, hm⟩
  · exact nd _ d1 hm.symm
  · by_cases x1 : m.x = 0 <;> simp [x1] at hm
  · exact nd _ d2 hm.symm
  · exact hs _ hm rfl
  · by_cases t1 : (tchs m).length = 0 <;> simp [t1] at hm
  · exact nd _ (d3 z hz) hm

/-! ### words -/
theorem split_inj : ∀ {a a' r r' : List UInt8}, (32 : UInt8) ∉ a → (32 : UInt8) ∉ a' → a ++ 32 :: r = a' ++ 32 :: r' → a = a' ∧ r = r'
  | [], [], _, _, _, _, h => by simp at h; exact ⟨rfl, h⟩
  | [], c :: a', _, _, _, h2, h => by
    simp only [List.nil_append, List.cons_append, List.cons.injEq] at h
    exact absurd (by simp [h.1]) h2
  | c :: a, [], _, _, h1, _, h => by
    simp only [List.nil_append, List.cons_append, List.cons.injEq] at h
    exact absurd (by simp [h.1]) h1
  | c :: a, c' :: a', _, _, h1, h2, h => by
    simp only [List.cons_append, List.cons.injEq] at h
    obtain ⟨e1, e2⟩ := split_inj (by simp at h1; exact h1.2) (by simp at h2; exact h2.2) h.2
    exact ⟨by rw [h.1, e1], e2⟩
theorem nosplit {a a' r : List UInt8} (h1 : (32 : UInt8) ∉ a) (h : a = a' ++ 32 :: r) : False := h1 (by rw [h]; simp)
theorem join_inj : ∀ {ws vs : List (List UInt8)} {a b : List UInt8}, (32 : UInt8) ∉ a → (32 : UInt8) ∉ b → (∀ x ∈ ws, (32 : UInt8) ∉ x) → (∀ x ∈ vs, (32 : UInt8) ∉ x) → a ++ (ws.map ([32] ++ ·)).flatten = b ++ (vs.map ([32] ++ ·)).flatten → a = b ∧ ws = vs
  | [], [], a, b, _, _, _, _, h => by simp at h; exact ⟨h, rfl⟩
  | [], v :: vs, a, b, h1, _, _, _, h => by
    simp only [List.map_nil, List.flatten_nil, List.append_nil, List.map_cons, List.flatten_cons] at h
    exact (nosplit h1 (by rw [h]; simp only [List.cons_append]; rfl)).elim
  | w :: ws, [], a, b, _, h2, _, _, h => by
    simp only [List.map_nil, List.flatten_nil, List.append_nil, List.map_cons, List.flatten_cons] at h
    exact (nosplit h2 (by rw [← h]; simp only [List.cons_append]; rfl)).elim
  | w :: ws, v :: vs, a, b, h1, h2, h3, h4, h => by
    simp only [List.map_cons, List.flatten_cons, List.cons_append] at h
    obtain ⟨e1, e2⟩ := split_inj h1 h2 h
    obtain ⟨e3, e4⟩ := join_inj (h3 w (by simp)) (h4 v (by simp)) (fun x hx => h3 x (by simp [hx])) (fun x hx => h4 x (by simp [hx])) e2
    exact ⟨e1, by rw [e3, e4]⟩

/-! ### plays -/
/-- A play whose string can be read word by word. -/
structure WordP (l1 l2 : List UInt8) (d : Nat → MvD) (n : Nat) : Prop where
  h1 : ∀ b ∈ l1, b ≠ 32 ∧ b ≠ 45
  h2 : ∀ b ∈ l2, b ≠ 32 ∧ b ≠ 45
  hd : ∀ i, i < n → WordM (d i)
theorem dashL_nosp {l : List UInt8} (h : ∀ b ∈ l, b ≠ 32 ∧ b ≠ 45) : (32 : UInt8) ∉ dashL l := by
  unfold dashL
  split
  · simp
  · exact fun q => (h _ q).1 rfl
theorem dashL_inj {l m : List UInt8} (h1 : ∀ b ∈ l, b ≠ 32 ∧ b ≠ 45) (h2 : ∀ b ∈ m, b ≠ 32 ∧ b ≠ 45) (h : dashL l = dashL m) : l = m := by
  unfold dashL at h
  by_cases e1 : l.length = 0
  · by_cases e2 : m.length = 0
    · rw [List.length_eq_zero_iff.1 e1, List.length_eq_zero_iff.1 e2]
    · rw [if_pos e1, if_neg e2] at h
      exact absurd rfl (h2 45 (by rw [← h]; simp)).2
  · by_cases e2 : m.length = 0
    · rw [if_neg e1, if_pos e2] at h
      exact absurd rfl (h1 45 (by rw [h]; simp)).2
    · rw [if_neg e1, if_neg e2] at h; exact h
def mvW (d : Nat → MvD) (n : Nat) : List (List UInt8) := (List.range n).map fun i => moveL (d i)
theorem mvsL_flat (d : Nat → MvD) : ∀ n, mvsL d n = ((mvW d n).map ([32] ++ ·)).flatten
  | 0 => rfl
  | n + 1 => by
    rw [mvsL, mvsL_flat d n]
    unfold mvW
    rw [List.range_succ, List.map_append, List.map_append, List.flatten_append]
    simp
def lateW (lx : Bool) : List (List UInt8) := if lx = true then [[108, 97, 116, 101]] else []
theorem playL_join (l1 l2 : List UInt8) (lx : Bool) (d : Nat → MvD) (n : Nat) : playL l1 l2 lx d n = dashL l1 ++ ((dashL l2 :: (lateW lx ++ mvW d n)).map ([32] ++ ·)).flatten := by
  unfold playL
  rw [mvsL_flat]
  cases lx <;> simp [lateL, lateW]
theorem mvW_inj {d d' : Nat → MvD} {n n' : Nat} (h : ∀ i, i < n → WordM (d i)) (h' : ∀ i, i < n' → WordM (d' i)) (e : mvW d n = mvW d' n') : sameN d n d' n' = true := by
  have hl : n = n' := by have := congrArg List.length e; simpa [mvW] using this
  subst hl
  rw [allK_same]
  have hk : ∀ k, k ≤ n → allK (fun i => sameMD (d i) (d' i)) k = true := fun k => by
    induction k with
    | zero => intro _; rfl
    | succ k ih =>
      intro hk
      rw [allK, ih (by omega), Bool.true_and]
      have := congrArg (fun l => l[k]?) e
      simp only [mvW, List.getElem?_map, List.getElem?_range (show k < n by omega), Option.map_some, Option.some.injEq] at this
      exact moveL_inj (h k (by omega)) (h' k (by omega)) this
  exact hk n (Nat.le_refl _)
theorem playL_inj {l1 l2 m1 m2 : List UInt8} {lx mx : Bool} {d d' : Nat → MvD} {n n' : Nat} (h : WordP l1 l2 d n) (h' : WordP m1 m2 d' n') (e : playL l1 l2 lx d n = playL m1 m2 mx d' n') : l1 = m1 ∧ l2 = m2 ∧ lx = mx ∧ sameN d n d' n' = true := by
  rw [playL_join, playL_join] at e
  have hw : ∀ {l2 : List UInt8} {lx : Bool} {d : Nat → MvD} {n : Nat}, (∀ b ∈ l2, b ≠ 32 ∧ b ≠ 45) → (∀ i, i < n → WordM (d i)) → ∀ x ∈ dashL l2 :: (lateW lx ++ mvW d n), (32 : UInt8) ∉ x := fun {l2 lx d n} q1 q2 x hx => by
    simp only [List.mem_cons, List.mem_append] at hx
    rcases hx with rfl | hx | hx
    · exact dashL_nosp q1
    · cases lx <;> simp [lateW] at hx
      subst hx; decide
    · unfold mvW at hx
      obtain ⟨i, hi, rfl⟩ := List.mem_map.1 hx
      exact moveL_nosp (q2 i (List.mem_range.1 hi))
  obtain ⟨e1, e2⟩ := join_inj (dashL_nosp h.h1) (dashL_nosp h'.h1) (hw h.h2 h.hd) (hw h'.h2 h'.hd) e
  simp only [List.cons.injEq] at e2
  obtain ⟨e2, e3⟩ := e2
  have hh : ∀ {d : Nat → MvD} {n : Nat} {r : List (List UInt8)}, (∀ i, i < n → WordM (d i)) → mvW d n = [108, 97, 116, 101] :: r → False := fun {d n r} q e => by
    cases n with
    | zero => cases e
    | succ n =>
      unfold mvW at e
      rw [List.range_succ_eq_map] at e
      simp only [List.map_cons, List.cons.injEq] at e
      obtain ⟨c, l, hc, c1, c2⟩ := moveL_head (q 0 (by omega))
      rw [hc] at e
      simp only [List.cons.injEq] at e
      rw [e.1.1] at c2
      exact absurd c2 (by decide)
  have e4 : lx = mx ∧ mvW d n = mvW d' n' := by
    cases lx <;> cases mx <;> simp only [lateW, Bool.false_eq_true, if_false, if_true, List.nil_append, List.cons_append, List.cons.injEq, true_and] at e3
    · exact ⟨rfl, e3⟩
    · exact (hh h.hd e3).elim
    · exact (hh h'.hd e3.symm).elim
    · exact ⟨rfl, e3⟩
  exact ⟨dashL_inj h.h1 h'.h1 e1, dashL_inj h.h2 h'.h2 e2, e4.1, mvW_inj h.hd h'.hd e4.2⟩
end Go.Proofs.Tryz

namespace Go.Proofs.Tryz
open Go Go.Am Go.RowKit Go.Dr
set_option maxRecDepth 100000

theorem err_zero {g : Nat → Int} {n : Int} : ∀ m : Nat, m ≤ 24 → errP g n m = 0 → ∀ k : Nat, 24 - m ≤ k → k < 24 → (k : Int) < n → g (k + 1) = 1
  | 0, _, _, k, h1, h2, _ => by omega
  | m + 1, hm, h, k, h1, h2, h3 => by
    unfold errP at h
    by_cases a1 : n ≤ ((24 - (m + 1) : Nat) : Int)
    · exfalso; omega
    rw [if_neg a1] at h
    by_cases a2 : g (24 - m) = 1
    · rw [if_pos a2] at h
      by_cases e : k = 23 - m
      · have : k + 1 = 24 - m := by omega
        rw [this]; exact a2
      · exact err_zero m (by omega) h k (by omega) h2 h3
    · rw [if_neg a2] at h; cases h
theorem hasI_mem {b : Int} {l : List Int} (h : hasI (b :: l) ≠ 0) : b ∈ l := by
  have h : (if b ∈ l then (1 : Int) else 0) ≠ 0 := h
  by_cases q : b ∈ l
  · exact q
  · rw [if_neg q] at h; exact absurd rfl h
theorem pit_bytes {y : Int → Int} {o n : Int} (hn : 0 ≤ n) (h : pitV y o n = 0) : n ≤ 24 ∧ ∀ k : Nat, (k : Int) < n → y (o + k) ∈ ([66, 67, 83, 70, 88, 72] : List Int) := by
  rw [pitV_R hn] at h
  by_cases h1 : n ≤ 24
  case neg => rw [if_neg h1] at h; cases h
  rw [if_pos h1] at h
  by_cases h2 : errP (gR y o n) n 24 = 0
  case neg => rw [if_neg h2] at h; cases h
  refine ⟨h1, fun k hk => ?_⟩
  have hg := err_zero 24 (Nat.le_refl _) h2 k (by omega) (by omega) hk
  unfold gR at hg
  by_cases g1 : gR y o n k = 1
  case neg => rw [if_neg g1] at hg; cases hg
  rw [if_pos g1] at hg
  by_cases g2 : h6 (y (o + (k : Int))) = 0
  · rw [if_pos g2] at hg; cases hg
  · exact hasI_mem g2
theorem ev_bytes {y : Int → Int} {o n : Int} (h : evOk y o n = true) : n = 0 ∨ n = 1 ∧ y (o + 0) ∈ ([75, 87, 72, 73, 88, 78, 89] : List Int) := by
  unfold evOk at h
  rw [decide_eq_true_eq] at h
  rcases h with h | ⟨h1, h2⟩
  · exact .inl h
  · exact .inr ⟨h1, hasI_mem (by rw [h2]; decide)⟩
theorem strL_mem {y : Int → Int} {o n : Int} {b : UInt8} (h : b ∈ strL y o n) : ∃ k : Nat, (k : Int) < n ∧ b = UInt8.ofNat (y (o + (k : Int))).toNat := by
  unfold strL at h
  obtain ⟨k, hk, rfl⟩ := List.mem_map.1 h
  exact ⟨k, by have := List.mem_range.1 hk; omega, rfl⟩

theorem wayR_zero {ρ : Env} {d : Int → DT} : ∀ l : List Int, (wayR d l).eval ρ = 0 → ∃ c ∈ l, mBy.val ρ = c ∧ (d c).eval ρ = 0
  | [], h => by unfold wayR at h; rw [ev_lf'] at h; cases h
  | c :: l, h => by
    unfold wayR at h
    rw [ev_eq, val_L'] at h
    by_cases q : mBy.val ρ = c
    · rw [if_pos q] at h
      exact ⟨c, by simp, q, h⟩
    · rw [if_neg q] at h
      obtain ⟨c', h1, h2, h3⟩ := wayR_zero l h
      exact ⟨c', by simp [h1], h2, h3⟩
/-- The letter of a valid move; a safe one goes on. -/
theorem mvV_way {fr t0 x so sn bo bn : Int} {y t : Int → Int} (h : mvV fr t0 x y so sn t bo bn = 0) : sn = 1 ∧ (x = 0 → y (so + 0) ∈ ([98, 97, 115, 112, 107, 116, 111] : List Int) ∧ fr < t0) ∧ (x ≠ 0 → y (so + 0) ∈ ([102, 103, 99, 100, 107, 110, 121] : List Int)) := by
  have hs := mvV_sn h
  obtain ⟨⟨h1, h2⟩, ⟨h3, h4⟩, -⟩ := mvV_zero h
  unfold mvV moveR range34 at h
  simp only [ev_le, ev_lf', val_L', mv_fr, mv_to] at h
  rw [if_pos h1, if_pos h2, if_pos h3, if_pos h4, ev_eq, mv_sn, val_L', if_pos hs, ev_eq, mv_ou, val_L'] at h
  refine ⟨hs, fun hx => ?_, fun hx => ?_⟩
  · rw [if_pos hx] at h
    obtain ⟨c, hc, e1, e2⟩ := wayR_zero _ h
    rw [mv_by] at e1
    refine ⟨by rw [e1]; exact hc, ?_⟩
    unfold safeR at e2
    rw [ev_le, mv_to, mv_fr, ev_lf'] at e2
    by_cases q : t0 ≤ fr
    · rw [if_pos q] at e2; cases e2
    · omega
  · rw [if_neg hx] at h
    obtain ⟨c, hc, e1, -⟩ := wayR_zero _ h
    rw [mv_by] at e1
    rw [e1]; exact hc

section
variable {x o n : Int} {t : Int → Int}
theorem loop_ne : ∀ m : Nat, m ≤ 9 → (tchLoop m).eval (envV [x, o, n] (fT t)) = 0 → ∀ j : Nat, 9 - m ≤ j + 1 → j + 1 < 9 → ((j + 1 : Nat) : Int) < n → t (o + (j : Int)) ≠ t (o + ((j + 1 : Nat) : Int))
  | 0, _, _, j, h1, h2, _ => by omega
  | m + 1, hm, h, j, h1, h2, h3 => by
    unfold tchLoop at h
    simp only [ev_le, ev_lf', val_L', tch_tn, tch_at] at h
    by_cases a1 : n ≤ ((8 - m : Nat) : Int)
    · exfalso; omega
    rw [if_neg a1] at h
    by_cases a2 : 1 ≤ t (o + ((8 - m : Nat) : Int))
    case neg => rw [if_neg a2] at h; cases h
    by_cases a3 : t (o + ((8 - m : Nat) : Int)) ≤ 9
    case neg => rw [if_pos a2, if_neg a3] at h; cases h
    rw [if_pos a2, if_pos a3] at h
    cases hq : 8 - m with
    | zero =>
      rw [hq] at h
      exact loop_ne m (by omega) h j (by omega) h2 h3
    | succ i =>
      rw [hq] at h
      simp only [ev_eq, ev_lf', tch_at] at h
      by_cases a4 : t (o + (i : Int)) = t (o + ((i + 1 : Nat) : Int))
      · rw [if_pos a4] at h; cases h
      · rw [if_neg a4] at h
        by_cases e : j = i
        · subst e; exact a4
        · exact loop_ne m (by omega) h j (by omega) h2 h3
theorem tchV_ne (h : tchV x t o n = 0) : ∀ j : Nat, ((j + 1 : Nat) : Int) < n → t (o + (j : Int)) ≠ t (o + ((j + 1 : Nat) : Int)) := by
  have h9 := (tchV_zero h).1
  unfold tchV tchT at h
  simp only [ev_le, ev_eq, ev_lf', val_L', tch_tn, tch_to] at h
  rw [if_pos h9] at h
  have fin : (tchLoop 9).eval (envV [x, o, n] (fT t)) = 0 → ∀ j : Nat, ((j + 1 : Nat) : Int) < n → t (o + (j : Int)) ≠ t (o + ((j + 1 : Nat) : Int)) := fun hl j hj => loop_ne 9 (Nat.le_refl _) hl j (by omega) (by omega) hj
  by_cases a2 : x = 0
  · rw [if_pos a2] at h; exact fin h
  · rw [if_neg a2] at h
    by_cases a3 : n = 0
    · rw [if_pos a3] at h; cases h
    · rw [if_neg a3] at h; exact fin h
end

/-- All that is used of a valid play. -/
structure FullP (y0 : Int → Int) (yo yn : Int) (y1 : Int → Int) (eo en : Int) (d : Nat → MvD) (n : Nat) : Prop where
  v : ValP d n
  w : WordP (strL y0 yo yn) (strL y1 eo en) d n
  go : ∀ i, i < n → (d i).x = 0 → (d i).fr < (d i).to
  ne : ∀ i, i < n → ∀ j : Nat, ((j + 1 : Nat) : Int) < (d i).bn → (d i).t ((d i).bo + (j : Int)) ≠ (d i).t ((d i).bo + ((j + 1 : Nat) : Int))
  yn : 0 ≤ yn ∧ yn ≤ 24
  en : 0 ≤ en ∧ en ≤ 1
theorem full_of {y0 y1 : Int → Int} {yo yn eo en : Int} {d : Nat → MvD} {n : Nat} (h : plV y0 yo yn y1 eo en d n = 0) (hb : ∀ i, i < n → 0 ≤ (d i).bn) (hy : 0 ≤ yn) (he : 0 ≤ en) : FullP y0 yo yn y1 eo en d n := by
  have hv := valP_of h hb
  have hn4 := hv.v.n4
  have hprn := prn_of h hb
  unfold plV at h
  by_cases p1 : pitV y0 yo yn = 0
  case neg => rw [if_neg p1] at h; exact absurd h p1
  rw [if_pos p1] at h
  by_cases p2 : evOk y1 eo en = true
  case neg => rw [if_neg p2] at h; cases h
  rw [if_pos p2, if_pos hn4] at h
  have hc : ∀ i, i < n → (d i).check = 0 := fun i hi => mvs_zero d n 0 h i (Nat.zero_le _) (by omega)
  obtain ⟨q1, q2⟩ := pit_bytes hy p1
  have q3 := ev_bytes p2
  have nb : ∀ {z : Int} {l : List Int}, z ∈ l → (∀ u ∈ l, 46 ≤ u ∧ u ≤ 127) → UInt8.ofNat z.toNat ≠ 32 ∧ UInt8.ofNat z.toNat ≠ 45 := fun {z l} hz hl => by
    have := hl z hz
    constructor <;> (intro e; have := congrArg UInt8.toNat e; rw [UInt8.toNat_ofNat'] at this; have h32 : (32 : UInt8).toNat = 32 := rfl; have h45 : (45 : UInt8).toNat = 45 := rfl; omega)
  refine ⟨hv, ⟨fun b hb => ?_, fun b hb => ?_, fun i hi => ⟨(hprn.hd i hi).1, (mvV_way (hc i hi)).1, fun b hb => ?_⟩⟩, fun i hi hx => ((mvV_way (hc i hi)).2.1 hx).2, fun i hi => tchV_ne (mvV_zero (hc i hi)).2.2, ⟨hy, q1⟩, ⟨he, by rcases q3 with q | q <;> omega⟩⟩
  · obtain ⟨k, hk, rfl⟩ := strL_mem hb
    exact nb (q2 k hk) (by decide)
  · obtain ⟨k, hk, rfl⟩ := strL_mem hb
    rcases q3 with q | ⟨q, q4⟩
    · omega
    · have : k = 0 := by omega
      subst this
      exact nb q4 (by decide)
  · obtain ⟨k, hk, rfl⟩ := strL_mem hb
    obtain ⟨w1, w2, w3⟩ := mvV_way (hc i hi)
    have : k = 0 := by omega
    subst this
    by_cases hx : (d i).x = 0
    · exact (nb (w2 hx).1 (by decide)).1
    · exact (nb (w3 hx) (by decide)).1
end Go.Proofs.Tryz

namespace Go.Proofs.Tryz
open Go

/-- The parts of a string between a byte. -/
def spl (c : UInt8) : List UInt8 → List (List UInt8)
  | [] => [[]]
  | b :: l => if b = c then [] :: spl c l else
    match spl c l with
    | [] => [[b]]
    | w :: r => (b :: w) :: r
theorem spl_ne (c : UInt8) : ∀ l : List UInt8, spl c l ≠ []
  | [] => by simp [spl]
  | b :: l => by
    rw [spl]
    by_cases h : b = c
    · rw [if_pos h]; simp
    · rw [if_neg h]
      cases spl c l <;> simp
theorem spl_none {c : UInt8} : ∀ {p : List UInt8}, c ∉ p → spl c p = [p]
  | [], _ => rfl
  | b :: p, h => by
    simp only [List.mem_cons, not_or] at h
    rw [spl, if_neg (fun e => h.1 e.symm), spl_none h.2]
theorem spl_break {c : UInt8} {r : List UInt8} : ∀ {p : List UInt8}, c ∉ p → spl c (p ++ c :: r) = p :: spl c r
  | [], _ => by rw [List.nil_append, spl, if_pos rfl]
  | b :: p, h => by
    simp only [List.mem_cons, not_or] at h
    rw [List.cons_append, spl, if_neg (fun e => h.1 e.symm), spl_break h.2]
theorem spl_length (c : UInt8) : ∀ l : List UInt8, (spl c l).length = l.count c + 1
  | [] => rfl
  | b :: l => by
    rw [spl]
    by_cases h : b = c
    · subst h
      rw [if_pos rfl, List.length_cons, spl_length b l]
      simp
    · rw [if_neg h, List.count_cons_of_ne (by simpa using h)]
      have := spl_length c l
      revert this
      cases spl c l with
      | nil => intro h; simp at h
      | cons w r => intro h; simpa using h
theorem spl_nosep {c : UInt8} : ∀ {l : List UInt8} {w : List UInt8}, w ∈ spl c l → c ∉ w
  | [], w, h => by simp [spl] at h; subst h; simp
  | b :: l, w, h => by
    rw [spl] at h
    by_cases e : b = c
    · rw [if_pos e] at h
      rcases List.mem_cons.1 h with rfl | h
      · simp
      · exact spl_nosep h
    · rw [if_neg e] at h
      have ih := @spl_nosep c l
      revert h ih
      cases spl c l with
      | nil => intro h _; simp at h; subst h; simp; exact fun q => e q.symm
      | cons x r =>
        intro h ih
        rcases List.mem_cons.1 h with rfl | h
        · simp only [List.mem_cons, not_or]
          exact ⟨fun q => e q.symm, ih (by simp)⟩
        · exact ih (by simp [h])
/-- Joined again. -/
theorem spl_join (c : UInt8) : ∀ l : List UInt8, ∃ a r, spl c l = a :: r ∧ l = a ++ (r.map ([c] ++ ·)).flatten
  | [] => ⟨[], [], rfl, rfl⟩
  | b :: l => by
    obtain ⟨a, r, e, h⟩ := spl_join c l
    rw [spl, e]
    by_cases q : b = c
    · subst q
      rw [if_pos rfl]
      exact ⟨[], a :: r, rfl, by simpa using h⟩
    · rw [if_neg q]
      exact ⟨b :: a, r, rfl, by simp [h]⟩
theorem spl_of_join {c : UInt8} : ∀ {r : List (List UInt8)} {a : List UInt8}, c ∉ a → (∀ x ∈ r, c ∉ x) → spl c (a ++ (r.map ([c] ++ ·)).flatten) = a :: r
  | [], a, h, _ => by simpa using spl_none h
  | b :: r, a, h, hr => by
    have e : a ++ ((b :: r).map ([c] ++ ·)).flatten = a ++ c :: (b ++ (r.map ([c] ++ ·)).flatten) := by simp
    rw [e, spl_break h, spl_of_join (hr b (by simp)) (fun x hx => hr x (by simp [hx]))]

open Lib in
theorem splitK_spl (c : UInt8) : ∀ l : List UInt8, splitK [c] 0 (count l [c]) l = spl c l
  | [] => by rw [count_miss (by simp [index])]; rfl
  | b :: l => by
    have ih := splitK_spl c l
    rw [spl]
    by_cases h : b = c
    · subst h
      have hix : index (b :: l) [b] = ((0 : Nat) : Int) := by rw [index]; simp [List.isPrefixOf]
      rw [if_pos rfl, count_cons_eq, Nat.add_comm, splitK, hix]
      simp [ih]
    · rw [if_neg h, count_cons_ne b c l h, ← ih]
      have hp : ([c] : List UInt8).isPrefixOf (b :: l) = false := by simp [List.isPrefixOf, Ne.symm h]
      have hix : index (b :: l) [c] = if index l [c] == -1 then -1 else index l [c] + 1 := by rw [index, hp]; simp
      by_cases hm : index l [c] = -1
      · rw [count_miss hm]; rfl
      · have hge := index_ge l [c]
        obtain ⟨j, hj⟩ : ∃ j : Nat, index l [c] = j := ⟨(index l [c]).toNat, by omega⟩
        have hix' : index (b :: l) [c] = ((j + 1 : Nat) : Int) := by rw [hix, if_neg (fun e => hm (beq_iff_eq.1 e)), hj]; omega
        rw [count_hit (by simp) hj, Nat.add_comm, splitK, splitK, hix', hj, if_neg (by simp <;> omega), if_neg (by simp <;> omega)]
        have e1 : (((j + 1 : Nat) : Int)).toNat = j + 1 := by omega
        have e2 : ((j : Nat) : Int).toNat = j := by omega
        rw [e1, e2]
        simp
open Lib in
/-- What strings.Split answers. -/
theorem splitB_spl (s : ByteArray) (c : UInt8) : (splitB ⟨#[c]⟩ 0 (countB s ⟨#[c]⟩) s).map (·.data.toList) = spl c s.data.toList := by
  rw [splitB_data]
  exact splitK_spl c _

/-! ### Trim -/
theorem trim_all {l cs : List UInt8} : Lib.trimS l cs = [] ↔ ∀ b ∈ l, cs.contains b = true := by
  unfold Lib.trimS Lib.trimLeftS Lib.trimRightS
  have dw : ∀ {l : List UInt8}, l.dropWhile (cs.contains ·) = [] ↔ ∀ b ∈ l, cs.contains b = true := fun {l} => by
    induction l with
    | nil => simp
    | cons b l ih =>
      by_cases h : cs.contains b = true
      · rw [List.dropWhile_cons, if_pos h]
        simp only [h, List.mem_cons, forall_eq_or_imp, true_and]; exact ih
      · rw [List.dropWhile_cons, if_neg h]
        simp only [reduceCtorEq, List.mem_cons, forall_eq_or_imp, false_iff, not_and]
        exact fun q => absurd q h
  rw [dw]
  constructor
  · intro h b hb
    by_cases hq : ∃ x ∈ l.reverse, cs.contains x = false
    · exfalso
      have key : ∀ {m : List UInt8}, (∃ x ∈ m, cs.contains x = false) → ∃ x ∈ m.dropWhile (cs.contains ·), cs.contains x = false := fun {m} => by
        induction m with
        | nil => intro ⟨x, hx, _⟩; simp at hx
        | cons y m ih =>
          rintro ⟨x, hx, hc⟩
          by_cases hy : cs.contains y = true
          · rw [List.dropWhile_cons, if_pos hy]
            rcases List.mem_cons.1 hx with rfl | hx
            · rw [hy] at hc; cases hc
            · exact ih ⟨x, hx, hc⟩
          · rw [List.dropWhile_cons, if_neg hy]
            exact ⟨x, hx, hc⟩
      obtain ⟨x, hx, hc⟩ := key hq
      rw [h x (List.mem_reverse.2 hx)] at hc
      cases hc
    · cases hc : cs.contains b with
      | true => rfl
      | false => exact absurd ⟨b, List.mem_reverse.2 hb, hc⟩ hq
  · intro h b hb
    have : b ∈ l.reverse.dropWhile (cs.contains ·) := List.mem_reverse.1 hb
    exact h b (List.mem_reverse.1 ((List.dropWhile_sublist _).subset this))
end Go.Proofs.Tryz

namespace Go.Proofs.Tryz
open Go Go.Am Go.RowKit Go.Dr
set_option maxRecDepth 100000

/-! ### a move's word -/
def dig (b : UInt8) : Bool := decide (48 ≤ b.toNat ∧ b.toNat ≤ 57)
def digV (b : UInt8) : Int := (b.toNat : Int) - 48
/-- The byte i of a list. -/
def by' (l : List UInt8) (i : Nat) : UInt8 := (l[i]?).getD 0
/-- The head of a move's word. -/
def pmHead (l : List UInt8) : Bool := decide (4 ≤ l.length) && decide (l.length ≠ 5) && (by' l 1 == 45 || by' l 1 == 120) && decide (97 ≤ (by' l 3).toNat ∧ (by' l 3).toNat ≤ 122)
/-- The word of a move. -/
def pmOk (l : List UInt8) : Bool := pmHead l && dig (by' l 0) && dig (by' l 2) && (l.length == 4 || by' l 4 == 58) && (l.drop 5).all dig
/-- The move of a word. -/
def pmM (l : List UInt8) : MvD := ⟨digV (by' l 0), digV (by' l 2), if by' l 1 = 120 then 1 else 0, fun _ => ((by' l 3).toNat : Int), 0, 1, tl ((l.drop 5).map digV), 0, ((l.drop 5).length : Nat)⟩
theorem tchs_pmM (l : List UInt8) : tchs (pmM l) = (l.drop 5).map digV := by
  unfold tchs pmM
  simp only [Int.toNat_natCast]
  have := intsL_tl ((l.drop 5).map digV)
  rw [List.length_map] at this
  exact this

/-! ### the words of a play -/
structure PSt where
  a : List UInt8
  e : List UInt8
  lx : Bool
  L : List MvD
def p0St : PSt := ⟨[], [], false, []⟩
def pitB (b : UInt8) : Bool := [66, 67, 83, 70, 88, 72].contains b
def evB (b : UInt8) : Bool := [75, 87, 72, 73, 88, 78, 89].contains b
/-- The word n of a play. -/
def stepW (n : Nat) (w : List UInt8) (P : PSt) : Option PSt :=
  if n = 0 then (if w = [45] then some P else if w ≠ [] ∧ w.all pitB = true then some { P with a := w } else none)
  else if n = 1 then (if w = [45] then some P else if w.length = 1 ∧ w.all evB = true then some { P with e := w } else none)
  else if n = 2 ∧ w = [108, 97, 116, 101] then some { P with lx := true }
  else if pmOk w = true then some { P with L := P.L ++ [pmM w] } else none
/-- All words, from the word n on, which begins at the byte k. -/
def runW : Nat → Nat → PSt → List (List UInt8) → Nat ⊕ PSt
  | _, _, P, [] => .inr P
  | n, k, P, w :: r => match stepW n w P with
    | none => .inl k
    | some Q => runW (n + 1) (k + w.length + 1) Q r
/-- The first words. -/
def accW : Nat → PSt → List (List UInt8) → Option PSt
  | _, P, [] => some P
  | n, P, w :: r => match stepW n w P with
    | none => none
    | some Q => accW (n + 1) Q r
/-- Where the word behind the first ones begins. -/
def atW : List (List UInt8) → Nat
  | [] => 0
  | w :: r => w.length + 1 + atW r
theorem atW_snoc (w : List UInt8) : ∀ r, atW (r ++ [w]) = atW r + w.length + 1
  | [] => by simp [atW]
  | x :: r => by rw [List.cons_append, atW, atW, atW_snoc w r]; omega
theorem accW_snoc (w : List UInt8) : ∀ (r : List (List UInt8)) (n : Nat) (P : PSt), accW n P (r ++ [w]) = (accW n P r).bind (stepW (n + r.length) w)
  | [], n, P => by
    show (match stepW n w P with | none => none | some Q => some Q) = stepW (n + 0) w P
    rw [Nat.add_zero]
    cases stepW n w P <;> rfl
  | x :: r, n, P => by
    rw [List.cons_append, accW, accW]
    cases stepW n x P with
    | none => rfl
    | some Q =>
      show accW (n + 1) Q (r ++ [w]) = (accW (n + 1) Q r).bind _
      rw [accW_snoc w r (n + 1) Q, List.length_cons, show n + 1 + r.length = n + (r.length + 1) by omega]
theorem runW_stop (w : List UInt8) (z : List (List UInt8)) : ∀ (r : List (List UInt8)) (n k : Nat) (P Q : PSt), accW n P r = some Q → stepW (n + r.length) w Q = none → runW n k P (r ++ w :: z) = .inl (k + atW r)
  | [], n, k, P, Q, h, hs => by
    cases h
    show (match stepW n w P with | none => _ | some Q => _) = _
    rw [show stepW n w P = none from hs]
    rfl
  | x :: r, n, k, P, Q, h, hs => by
    rw [accW] at h
    rw [List.cons_append, runW]
    cases hx : stepW n x P with
    | none => rw [hx] at h; cases h
    | some R =>
      rw [hx] at h
      show runW (n + 1) (k + x.length + 1) R (r ++ w :: z) = _
      rw [runW_stop w z r (n + 1) _ R Q h (by rw [List.length_cons] at hs; rw [show n + 1 + r.length = n + (r.length + 1) by omega]; exact hs), atW]
      congr 1; omega
theorem runW_done : ∀ (r : List (List UInt8)) (n k : Nat) (P Q : PSt), accW n P r = some Q → runW n k P r = .inr Q
  | [], n, k, P, Q, h => by cases h; rfl
  | x :: r, n, k, P, Q, h => by
    rw [accW] at h
    rw [runW]
    cases hx : stepW n x P with
    | none => rw [hx] at h; cases h
    | some R => rw [hx] at h; exact runW_done r (n + 1) _ R Q h
theorem atW_join : ∀ (a : List UInt8) (r : List (List UInt8)), atW (a :: r) = (a ++ (r.map ([32] ++ ·)).flatten).length + 1
  | a, [] => by simp [atW]
  | a, b :: r => by rw [atW, atW_join b r]; simp; omega
theorem atW_append : ∀ r z : List (List UInt8), atW (r ++ z) = atW r + atW z
  | [], z => by simp [atW]
  | x :: r, z => by rw [List.cons_append, atW, atW, atW_append r z]; omega
/-- The places of the words lie in the string. -/
theorem atW_spl (l : List UInt8) : atW (spl 32 l) = l.length + 1 := by
  obtain ⟨a, r, e, h⟩ := spl_join 32 l
  rw [e, atW_join, ← h]
/-- The bytes of a list as integers. -/
def yB (l : List UInt8) (j : Int) : Int := ((by' l j.toNat).toNat : Int)
theorem isStr_bA (l : List UInt8) : IsStr (.string (bA l)) (yB l) 0 (l.length : Nat) := by
  refine ⟨l, rfl, rfl, fun j b h => ?_⟩
  unfold yB by'
  have e : ((0 : Int) + (j : Int)).toNat = j := by omega
  rw [e, h]
  rfl
theorem strL_yB (l : List UInt8) : strL (yB l) 0 (l.length : Nat) = l := by
  have := str_list (isStr_bA l)
  rw [bA_list] at this
  exact this.symm
/-- What CheckPlay answers. -/
def plP (P : PSt) : Int := plV (yB P.a) 0 (P.a.length : Nat) (yB P.e) 0 (P.e.length : Nat) (dOf P.L) P.L.length
def pldOf (P : PSt) : PlD := ⟨bA P.a, bA P.e, P.lx, P.L⟩
structure PRes where
  p : PlD
  k : Nat
  e : Int
/-- What Parse answers. -/
def parL (l : List UInt8) : PRes :=
  if 4096 < l.length then ⟨zeroP, 0, 26⟩ else match runW 0 0 p0St (spl 32 l) with
    | .inl k => ⟨zeroP, k, 25⟩
    | .inr P => if (spl 32 l).length < 2 then ⟨zeroP, l.length, 25⟩ else if plP P = 0 then ⟨pldOf P, 0, 0⟩ else ⟨zeroP, l.length, plP P⟩
theorem parL_stop {l : List UInt8} (h : ¬ 4096 < l.length) {r z : List (List UInt8)} {w : List UInt8} {Q : PSt} (e : spl 32 l = r ++ w :: z) (h1 : accW 0 p0St r = some Q) (h2 : stepW r.length w Q = none) : parL l = ⟨zeroP, atW r, 25⟩ := by
  unfold parL
  rw [if_neg h, e, runW_stop w z r 0 0 p0St Q h1 (by rw [Nat.zero_add]; exact h2), Nat.zero_add]
theorem parL_few {l : List UInt8} (h : ¬ 4096 < l.length) {Q : PSt} (h1 : accW 0 p0St (spl 32 l) = some Q) (h2 : (spl 32 l).length < 2) : parL l = ⟨zeroP, l.length, 25⟩ := by
  unfold parL
  rw [if_neg h, runW_done _ 0 0 p0St Q h1]
  exact if_pos h2
theorem parL_chk {l : List UInt8} (h : ¬ 4096 < l.length) {Q : PSt} (h1 : accW 0 p0St (spl 32 l) = some Q) (h2 : ¬ (spl 32 l).length < 2) (h3 : plP Q ≠ 0) : parL l = ⟨zeroP, l.length, plP Q⟩ := by
  unfold parL
  rw [if_neg h, runW_done _ 0 0 p0St Q h1]
  show (if (spl 32 l).length < 2 then _ else _) = _
  rw [if_neg h2, if_neg h3]
theorem parL_ok {l : List UInt8} (h : ¬ 4096 < l.length) {Q : PSt} (h1 : accW 0 p0St (spl 32 l) = some Q) (h2 : ¬ (spl 32 l).length < 2) (h3 : plP Q = 0) : parL l = ⟨pldOf Q, 0, 0⟩ := by
  unfold parL
  rw [if_neg h, runW_done _ 0 0 p0St Q h1]
  show (if (spl 32 l).length < 2 then _ else _) = _
  rw [if_neg h2, if_pos h3]
theorem stepW_bn {n : Nat} {w : List UInt8} {P Q : PSt} (h : stepW n w P = some Q) (hP : ∀ m ∈ P.L, 0 ≤ m.bn) : ∀ m ∈ Q.L, 0 ≤ m.bn := by
  unfold stepW at h
  split at h
  · split at h
    · cases h; exact hP
    · split at h
      · cases h; exact hP
      · cases h
  · split at h
    · split at h
      · cases h; exact hP
      · split at h
        · cases h; exact hP
        · cases h
    · split at h
      · cases h; exact hP
      · split at h
        · cases h
          intro m hm
          rcases List.mem_append.1 hm with hm | hm
          · exact hP m hm
          · rw [List.mem_singleton.1 hm]; exact Int.natCast_nonneg _
        · cases h
theorem runW_bn : ∀ (r : List (List UInt8)) {n k : Nat} {P Q : PSt}, runW n k P r = .inr Q → (∀ m ∈ P.L, 0 ≤ m.bn) → ∀ m ∈ Q.L, 0 ≤ m.bn
  | [], n, k, P, Q, h, hP => by cases h; exact hP
  | x :: r, n, k, P, Q, h, hP => by
    rw [runW] at h
    cases hx : stepW n x P with
    | none => rw [hx] at h; cases h
    | some R => rw [hx] at h; exact runW_bn r h (stepW_bn hx hP)
theorem dOf_in {L : List MvD} {i : Nat} (hi : i < L.length) : dOf L i ∈ L := by
  unfold dOf
  rw [List.getElem?_eq_getElem hi]
  exact List.getElem_mem hi
/-- The answer is a small play. -/
theorem parL_small (l : List UInt8) : (parL l).p.L.length ≤ 4 ∧ ∀ i, i < (parL l).p.L.length → (dOf (parL l).p.L i).bn ≤ 9 := by
  have hz : zeroP.L.length ≤ 4 ∧ ∀ i, i < zeroP.L.length → (dOf zeroP.L i).bn ≤ 9 := ⟨by decide, fun i hi => absurd hi (Nat.not_lt_zero _)⟩
  unfold parL
  split
  · exact hz
  · split
    · exact hz
    · rename_i P hP
      split
      · exact hz
      · split
        · rename_i h2 h3
          have hb : ∀ i, i < P.L.length → 0 ≤ (dOf P.L i).bn := fun i hi => runW_bn _ hP (fun m hm => by simp [p0St] at hm) _ (dOf_in hi)
          have hv := (valP_of h3 hb).v
          exact ⟨hv.n4, fun i hi => (hv.bn i hi).2⟩
        · exact hz
end Go.Proofs.Tryz

namespace Go.Proofs.Tryz
open Go Go.Am Go.RowKit Go.Dr
set_option maxRecDepth 100000

/-- Two moves with the same data. -/
structure EqM (m m' : MvD) : Prop where
  fr : m.fr = m'.fr
  t0 : m.to = m'.to
  x : m.x = 0 ↔ m'.x = 0
  y : m.y = m'.y
  so : m.so = m'.so
  sn : m.sn = m'.sn
  bn : m.bn = m'.bn
  t : ∀ j : Nat, (j : Int) < m.bn → m.t (m.bo + (j : Int)) = m'.t (m'.bo + (j : Int))
/-! ### the check asks no more than that -/
inductive SameD (ρ ρ' : Env) : DT → Prop
  | leaf (e : E) (h : e.val ρ = e.val ρ') : SameD ρ ρ' (.leaf e)
  | node (t : Tst) (a b : DT) (h : t.holds ρ = t.holds ρ') (h1 : SameD ρ ρ' a) (h2 : SameD ρ ρ' b) : SameD ρ ρ' (.node t a b)
theorem SameD.eval {ρ ρ' : Env} {d : DT} (h : SameD ρ ρ' d) : d.eval ρ = d.eval ρ' := by
  induction h with
  | leaf e h => rw [ev_leaf, ev_leaf, h]
  | node t a b h _ _ i1 i2 => unfold DT.eval; rw [h, i1, i2]
theorem tchV_eq {x x' o o' n : Int} {t t' : Int → Int} (hx : x = 0 ↔ x' = 0) (h : ∀ j : Nat, (j : Int) < n → t (o + (j : Int)) = t' (o' + (j : Int))) : tchV x t o n = tchV x' t' o' n := by
  have hl : ∀ m : Nat, m ≤ 9 → (tchLoop m).eval (envV [x, o, n] (fT t)) = (tchLoop m).eval (envV [x', o', n] (fT t')) := fun m => by
    induction m with
    | zero => intro _; rfl
    | succ m ih =>
      intro hm
      unfold tchLoop
      have hk8 : 8 - m ≤ 8 := by omega
      generalize 8 - m = k at hk8
      simp only [ev_le, ev_lf', val_L', tch_tn, tch_at]
      by_cases a1 : n ≤ (k : Int)
      · rw [if_pos a1, if_pos a1]
      · rw [if_neg a1, if_neg a1, h k (by omega)]
        cases k with
        | zero => simp only [ih (by omega)]
        | succ i =>
          simp only [ev_eq, ev_lf', tch_at]
          rw [h i (by omega), h (i + 1) (by omega), ih (by omega)]
  unfold tchV tchT
  simp only [ev_le, ev_eq, ev_lf', val_L', tch_tn, tch_to]
  rw [hl 9 (Nat.le_refl _)]
  by_cases q : x = 0
  · rw [if_pos q, if_pos (hx.1 q)]
  · rw [if_neg q, if_neg (fun e => q (hx.2 e))]

section
variable {fr t0 x x' so sn bo bn bo' : Int} {y t t' : Int → Int}
theorem mvV_eq (hx : x = 0 ↔ x' = 0) (ht : ∀ j : Nat, (j : Int) < bn → t (bo + (j : Int)) = t' (bo' + (j : Int))) : mvV fr t0 x y so sn t bo bn = mvV fr t0 x' y so sn t' bo' bn := by
  have hT : SameD (envV [fr, t0, x, so, sn, bo, bn] (fM y t)) (envV [fr, t0, x', so, sn, bo', bn] (fM y t')) (.leaf mTch) := .leaf _ (by rw [mv_tch, mv_tch]; exact tchV_eq hx ht)
  have hf : ∀ n, SameD (envV [fr, t0, x, so, sn, bo, bn] (fM y t)) (envV [fr, t0, x', so, sn, bo', bn] (fM y t')) (dLf n) := fun n => .leaf _ rfl
  have hg : ∀ q : Tst, q.holds (envV [fr, t0, x, so, sn, bo, bn] (fM y t)) = q.holds (envV [fr, t0, x', so, sn, bo', bn] (fM y t')) → SameD (envV [fr, t0, x, so, sn, bo, bn] (fM y t)) (envV [fr, t0, x', so, sn, bo', bn] (fM y t')) (goodD q) := fun q h => .node _ _ _ h hT (hf 15)
  have hs : ∀ c, SameD (envV [fr, t0, x, so, sn, bo, bn] (fM y t)) (envV [fr, t0, x', so, sn, bo', bn] (fM y t')) (safeR c) := fun c => by
    unfold safeR
    refine .node _ _ _ rfl (hf 15) (.node _ _ _ rfl ?_ hT)
    split
    · exact hf 15
    · exact hT
  have ho : ∀ c, SameD (envV [fr, t0, x, so, sn, bo, bn] (fM y t)) (envV [fr, t0, x', so, sn, bo', bn] (fM y t')) (outsR c) := fun c => by
    unfold outsR
    split
    · exact .node _ _ _ rfl (hf 15) (hg _ rfl)
    split
    · exact hg _ rfl
    split
    · exact .node _ _ _ rfl (hf 15) (.node _ _ _ rfl (hg _ rfl) hT)
    split
    · exact hg _ rfl
    · exact .node _ _ _ rfl (hg _ rfl) (hf 15)
  have hw : ∀ (d : Int → DT), (∀ c, SameD (envV [fr, t0, x, so, sn, bo, bn] (fM y t)) (envV [fr, t0, x', so, sn, bo', bn] (fM y t')) (d c)) → ∀ l, SameD (envV [fr, t0, x, so, sn, bo, bn] (fM y t)) (envV [fr, t0, x', so, sn, bo', bn] (fM y t')) (wayR d l) := fun d hd l => by
    induction l with
    | nil => exact hf 13
    | cons c l ih => exact .node _ _ _ rfl (hd c) ih
  unfold mvV moveR range34
  refine SameD.eval ?_
  refine .node _ _ _ rfl (.node _ _ _ rfl (.node _ _ _ rfl (.node _ _ _ rfl (.node _ _ _ rfl (.node _ _ _ ?_ (hw _ hs _) (hw _ ho _)) (hf 13)) (hf 3)) (hf 3)) (hf 3)) (hf 3)
  show (mOu.val _ == (L 0).val _) = (mOu.val _ == (L 0).val _)
  rw [mv_ou, mv_ou, val_L', val_L']
  by_cases q : x = 0
  · rw [q, hx.1 q]
  · have q' : ¬ x' = 0 := fun e => q (hx.2 e)
    rw [beq_eq_false_iff_ne.2 q, beq_eq_false_iff_ne.2 q']
end
end Go.Proofs.Tryz

namespace Go.Proofs.Tryz
open Go Go.Am Go.RowKit Go.Dr
set_option maxRecDepth 100000

/-! ### the check at another letter -/
section
variable {fr t0 x so so' sn bo bn : Int} {y y' t : Int → Int}
theorem mvV_eqy (hy : y (so + 0) = y' (so' + 0)) : mvV fr t0 x y so sn t bo bn = mvV fr t0 x y' so' sn t bo bn := by
  have hT : SameD (envV [fr, t0, x, so, sn, bo, bn] (fM y t)) (envV [fr, t0, x, so', sn, bo, bn] (fM y' t)) (.leaf mTch) := .leaf _ (by rw [mv_tch, mv_tch])
  have hf : ∀ n, SameD (envV [fr, t0, x, so, sn, bo, bn] (fM y t)) (envV [fr, t0, x, so', sn, bo, bn] (fM y' t)) (dLf n) := fun n => .leaf _ rfl
  have hg : ∀ q : Tst, q.holds (envV [fr, t0, x, so, sn, bo, bn] (fM y t)) = q.holds (envV [fr, t0, x, so', sn, bo, bn] (fM y' t)) → SameD (envV [fr, t0, x, so, sn, bo, bn] (fM y t)) (envV [fr, t0, x, so', sn, bo, bn] (fM y' t)) (goodD q) := fun q h => .node _ _ _ h hT (hf 15)
  have hs : ∀ c, SameD (envV [fr, t0, x, so, sn, bo, bn] (fM y t)) (envV [fr, t0, x, so', sn, bo, bn] (fM y' t)) (safeR c) := fun c => by
    unfold safeR
    refine .node _ _ _ rfl (hf 15) (.node _ _ _ rfl ?_ hT)
    split
    · exact hf 15
    · exact hT
  have ho : ∀ c, SameD (envV [fr, t0, x, so, sn, bo, bn] (fM y t)) (envV [fr, t0, x, so', sn, bo, bn] (fM y' t)) (outsR c) := fun c => by
    unfold outsR
    split
    · exact .node _ _ _ rfl (hf 15) (hg _ rfl)
    split
    · exact hg _ rfl
    split
    · exact .node _ _ _ rfl (hf 15) (.node _ _ _ rfl (hg _ rfl) hT)
    split
    · exact hg _ rfl
    · exact .node _ _ _ rfl (hg _ rfl) (hf 15)
  have hw : ∀ (d : Int → DT), (∀ c, SameD (envV [fr, t0, x, so, sn, bo, bn] (fM y t)) (envV [fr, t0, x, so', sn, bo, bn] (fM y' t)) (d c)) → ∀ l, SameD (envV [fr, t0, x, so, sn, bo, bn] (fM y t)) (envV [fr, t0, x, so', sn, bo, bn] (fM y' t)) (wayR d l) := fun d hd l => by
    induction l with
    | nil => exact hf 13
    | cons c l ih =>
      refine .node _ _ _ ?_ (hd c) ih
      show (mBy.val _ == (L c).val _) = (mBy.val _ == (L c).val _)
      rw [mv_by, mv_by, val_L', val_L', hy]
  unfold mvV moveR range34
  refine SameD.eval ?_
  exact .node _ _ _ rfl (.node _ _ _ rfl (.node _ _ _ rfl (.node _ _ _ rfl (.node _ _ _ rfl (.node _ _ _ rfl (hw _ hs _) (hw _ ho _)) (hf 13)) (hf 3)) (hf 3)) (hf 3)) (hf 3)
end
theorem mvsV_eq' {d d' : Nat → MvD} : ∀ (n i : Nat), (∀ j, j < i + n → (d j).check = (d' j).check ∧ (d j).fr = (d' j).fr) → mvsV d n i = mvsV d' n i
  | 0, _, _ => rfl
  | n + 1, i, h => by
    unfold mvsV
    rw [(h i (by omega)).1, (h i (by omega)).2, (h (i - 1) (by omega)).2, mvsV_eq' n (i + 1) fun j hj => h j (by omega)]
theorem plV_eq' {y0 y1 : Int → Int} {yo yn eo en : Int} {d d' : Nat → MvD} {n : Nat} (h : ∀ j, j < n → (d j).check = (d' j).check ∧ (d j).fr = (d' j).fr) : plV y0 yo yn y1 eo en d n = plV y0 yo yn y1 eo en d' n := by
  unfold plV
  rw [mvsV_eq' n 0 fun j hj => h j (by omega)]

/-! ### a move's word -/
theorem digV_dgB {a : Int} (h : 0 ≤ a ∧ a ≤ 9) : digV (dgB a) = a := by
  unfold digV dgB
  rw [UInt8.toNat_ofNat']
  omega
theorem dig_dgB {a : Int} (h : 0 ≤ a ∧ a ≤ 9) : dig (dgB a) = true := by
  unfold dig
  exact decide_eq_true (dgB_range h)
theorem dig_of {b : UInt8} (h : dig b = true) : 48 ≤ b.toNat ∧ b.toNat ≤ 57 := by
  unfold dig at h
  exact of_decide_eq_true h
theorem dgB_digV {b : UInt8} (h : dig b = true) : dgB (digV b) = b := by
  have := dig_of h
  apply UInt8.toNat_inj.1
  unfold digV dgB
  rw [UInt8.toNat_ofNat']
  omega
theorem digV_range {b : UInt8} (h : dig b = true) : 0 ≤ digV b ∧ digV b ≤ 9 := by
  have := dig_of h
  unfold digV
  omega
/-- The word of a move in its parts. -/
def mkW (f s t b : UInt8) (T : List UInt8) : List UInt8 := f :: s :: t :: b :: (if T.length = 0 then [] else 58 :: T)
theorem mkW_drop (f s t b : UInt8) (T : List UInt8) : (mkW f s t b T).drop 5 = T := by
  cases T <;> rfl
theorem pmOk_mk {f s t b : UInt8} {T : List UInt8} (hf : dig f = true) (hs : s = 45 ∨ s = 120) (ht : dig t = true) (hb : 97 ≤ b.toNat ∧ b.toNat ≤ 122) (hT : T.all dig = true) : pmOk (mkW f s t b T) = true := by
  unfold pmOk pmHead
  rw [mkW_drop, hT]
  have e0 : by' (mkW f s t b T) 0 = f := rfl
  have e1 : by' (mkW f s t b T) 1 = s := rfl
  have e2 : by' (mkW f s t b T) 2 = t := rfl
  have e3 : by' (mkW f s t b T) 3 = b := rfl
  rw [e0, e1, e2, e3, hf, ht]
  have hs' : (s == 45 || s == 120) = true := by rcases hs with rfl | rfl <;> rfl
  rw [hs', decide_eq_true hb]
  cases T with
  | nil => rfl
  | cons c T =>
    have hl : (mkW f s t b (c :: T)).length = T.length + 6 := rfl
    have e4 : by' (mkW f s t b (c :: T)) 4 = 58 := rfl
    rw [hl, e4, decide_eq_true (by omega), decide_eq_true (by omega)]
    simp
theorem pmOk_inv {w : List UInt8} (h : pmOk w = true) : ∃ f s t b T, w = mkW f s t b T ∧ dig f = true ∧ (s = 45 ∨ s = 120) ∧ dig t = true ∧ (97 ≤ b.toNat ∧ b.toNat ≤ 122) ∧ T.all dig = true := by
  unfold pmOk pmHead at h
  simp only [Bool.and_eq_true, decide_eq_true_eq, Bool.or_eq_true, beq_iff_eq] at h
  obtain ⟨⟨⟨⟨⟨⟨⟨h1, h2⟩, h3⟩, h4⟩, h5⟩, h6⟩, h7⟩, h8⟩ := h
  match w, h1 with
  | f :: s :: t :: b :: [], _ => exact ⟨f, s, t, b, [], rfl, h5, h3, h6, h4, rfl⟩
  | f :: s :: t :: b :: c :: [], _ => exact absurd rfl h2
  | f :: s :: t :: b :: c :: x :: T, _ =>
    have hc : c = 58 := by
      rcases h7 with h7 | h7
      · simp at h7
      · exact h7
    subst hc
    exact ⟨f, s, t, b, x :: T, rfl, h5, h3, h6, h4, h8⟩
theorem strL_byte (b : UInt8) : strL (fun _ => ((b.toNat : Nat) : Int)) 0 1 = [b] := by
  show [UInt8.ofNat ((b.toNat : Nat) : Int).toNat] = [b]
  rw [Int.toNat_natCast, UInt8.ofNat_toNat]
theorem pmM_mk (f s t b : UInt8) (T : List UInt8) : pmM (mkW f s t b T) = ⟨digV f, digV t, if s = 120 then 1 else 0, fun _ => ((b.toNat : Nat) : Int), 0, 1, tl (T.map digV), 0, (T.length : Nat)⟩ := by
  unfold pmM
  rw [mkW_drop]
  rfl
theorem map_dgB_digV : ∀ {T : List UInt8}, T.all dig = true → (T.map digV).map dgB = T
  | [], _ => rfl
  | c :: T, h => by
    rw [List.all_cons, Bool.and_eq_true] at h
    rw [List.map_cons, List.map_cons, dgB_digV h.1, map_dgB_digV h.2]
/-- What is parsed is printed as it was. -/
theorem moveL_pmM {w : List UInt8} (h : pmOk w = true) : moveL (pmM w) = w ∧ WordM (pmM w) := by
  obtain ⟨f, s, t, b, T, rfl, hf, hs, ht, hb, hT⟩ := pmOk_inv h
  have e5 := tchs_pmM (mkW f s t b T)
  rw [mkW_drop] at e5
  rw [pmM_mk] at e5 ⊢
  constructor
  · unfold moveL
    rw [e5]
    simp only [strL_byte]
    rw [dgB_digV hf, dgB_digV ht, map_dgB_digV hT, List.length_map]
    unfold mkW
    have es : (if (if s = 120 then (1 : Int) else 0) = 0 then (45 : UInt8) else 120) = s := by
      rcases hs with rfl | rfl <;> rfl
    rw [es]
    cases T <;> rfl
  · refine ⟨⟨digV_range hf, digV_range ht, ?_⟩, rfl, ?_⟩
    · rw [e5]
      intro z hz
      obtain ⟨c, hc, rfl⟩ := List.mem_map.1 hz
      exact digV_range (List.all_eq_true.1 hT c hc)
    · intro c hc
      rw [strL_byte, List.mem_singleton] at hc
      subst hc
      intro e
      rw [e] at hb
      exact absurd hb.1 (by decide)
/-- A valid move is parsed as it was printed. -/
theorem pmM_moveL {m : MvD} (h : WordM m) (hl : 97 ≤ m.y (m.so + 0) ∧ m.y (m.so + 0) ≤ 122) (hb : 0 ≤ m.bn) : pmOk (moveL m) = true ∧ sameMD m (pmM (moveL m)) = true ∧ m.check = (pmM (moveL m)).check ∧ m.fr = (pmM (moveL m)).fr := by
  obtain ⟨⟨d1, d2, d3⟩, s1, -⟩ := h
  have hb1 : strL m.y m.so m.sn = [UInt8.ofNat (m.y (m.so + 0)).toNat] := by rw [s1]; rfl
  obtain ⟨b, hbb⟩ : ∃ b, UInt8.ofNat (m.y (m.so + 0)).toNat = b := ⟨_, rfl⟩
  have hbn : (b.toNat : Int) = m.y (m.so + 0) := by rw [← hbb, UInt8.toNat_ofNat']; omega
  have hT : ((tchs m).map dgB).all dig = true := by
    rw [List.all_eq_true]
    intro c hc
    obtain ⟨z, hz, rfl⟩ := List.mem_map.1 hc
    exact dig_dgB (d3 z hz)
  have e : moveL m = mkW (dgB m.fr) (if m.x = 0 then 45 else 120) (dgB m.to) b ((tchs m).map dgB) := by
    unfold moveL mkW
    rw [hb1, hbb, List.length_map]
    by_cases q : (tchs m).length = 0
    · rw [if_pos q, if_pos q, List.length_eq_zero_iff.1 q]; rfl
    · rw [if_neg q, if_neg q]; rfl
  have hs : (if m.x = 0 then (45 : UInt8) else 120) = 45 ∨ (if m.x = 0 then (45 : UInt8) else 120) = 120 := by
    by_cases q : m.x = 0
    · rw [if_pos q]; exact .inl rfl
    · rw [if_neg q]; exact .inr rfl
  have hx : (if (if m.x = 0 then (45 : UInt8) else 120) = 120 then (1 : Int) else 0) = if m.x = 0 then 0 else 1 := by
    by_cases q : m.x = 0
    · rw [if_pos q, if_pos q]; rfl
    · rw [if_neg q, if_neg q]; rfl
  have hk : pmOk (moveL m) = true := by rw [e]; exact pmOk_mk (dig_dgB d1) hs (dig_dgB d2) (by omega) hT
  have hmm : ((tchs m).map dgB).map digV = tchs m := by
    rw [List.map_map]
    have : ∀ z ∈ tchs m, (digV ∘ dgB) z = z := fun z hz => digV_dgB (d3 z hz)
    rw [List.map_congr_left this, List.map_id'']
    exact fun z => rfl
  have hlen : (((tchs m).map dgB).length : Int) = m.bn := by
    rw [List.length_map]
    unfold tchs
    rw [length_intsL]
    omega
  have ep : pmM (moveL m) = ⟨m.fr, m.to, if m.x = 0 then 0 else 1, fun _ => ((b.toNat : Nat) : Int), 0, 1, tl (tchs m), 0, m.bn⟩ := by
    rw [e, pmM_mk, hx, digV_dgB d1, digV_dgB d2, hmm, hlen]
  have e5 := tchs_pmM (moveL m)
  have e6 : (moveL m).drop 5 = (tchs m).map dgB := by rw [e, mkW_drop]
  rw [e6, hmm] at e5
  refine ⟨hk, ?_, ?_, by rw [ep]⟩
  · unfold sameMD
    rw [e5, ep]
    have ex : decide (m.x ≠ 0) = decide ((if m.x = 0 then (0 : Int) else 1) ≠ 0) := by
      by_cases q : m.x = 0
      · rw [if_pos q]; simp [q]
      · rw [if_neg q]; simp [q]
    simp only [decide_true, Bool.true_and, strL_byte, hb1, hbb, beq_self_eq_true, Bool.and_true]
    rw [ex]; simp
  · unfold MvD.check
    rw [ep]
    show mvV m.fr m.to m.x m.y m.so m.sn m.t m.bo m.bn = mvV m.fr m.to (if m.x = 0 then 0 else 1) (fun _ => ((b.toNat : Nat) : Int)) 0 1 (tl (tchs m)) 0 m.bn
    rw [s1, mvV_eqy (y' := fun _ => ((b.toNat : Nat) : Int)) (so' := 0) hbn.symm]
    refine mvV_eq ?_ fun j hj => ?_
    · by_cases q : m.x = 0
      · rw [if_pos q]; simp [q]
      · rw [if_neg q]; simp [q]
    · unfold tl tchs
      rw [Int.zero_add, Int.toNat_natCast, intsL_get (by omega)]
      rfl

/-! ### the words of a play -/
theorem acc3 : ∀ (r : List (List UInt8)) (n : Nat) (P Q : PSt), 3 ≤ n → accW n P r = some Q → (∀ w ∈ r, pmOk w = true) ∧ Q = { P with L := P.L ++ r.map pmM }
  | [], n, P, Q, _, h => by
    cases h
    exact ⟨fun w hw => (List.not_mem_nil hw).elim, by simp⟩
  | w :: r, n, P, Q, hn, h => by
    rw [accW] at h
    unfold stepW at h
    rw [if_neg (by omega), if_neg (by omega), if_neg (fun q => by omega)] at h
    by_cases hw : pmOk w = true
    · rw [if_pos hw] at h
      obtain ⟨h1, h2⟩ := acc3 r (n + 1) _ Q (by omega) h
      refine ⟨fun x hx => ?_, by rw [h2]; simp⟩
      rcases List.mem_cons.1 hx with rfl | hx
      · exact hw
      · exact h1 x hx
    · rw [if_neg hw] at h; cases h
theorem acc3' : ∀ (r : List (List UInt8)) (n : Nat) (P : PSt), 3 ≤ n → (∀ w ∈ r, pmOk w = true) → accW n P r = some { P with L := P.L ++ r.map pmM }
  | [], n, P, _, _ => by simp [accW]
  | w :: r, n, P, hn, h => by
    rw [accW]
    have hs : stepW n w P = some { P with L := P.L ++ [pmM w] } := by
      unfold stepW
      rw [if_neg (by omega), if_neg (by omega), if_neg (fun q => by omega), if_pos (h w (by simp))]
    rw [hs]
    show accW (n + 1) { P with L := P.L ++ [pmM w] } r = _
    rw [acc3' r (n + 1) _ (by omega) fun x hx => h x (by simp [hx])]
    simp
theorem not_late {w : List UInt8} (h : pmOk w = true) : w ≠ [108, 97, 116, 101] := fun e => by
  subst e
  exact absurd h (by decide)
theorem acc2 {r : List (List UInt8)} {P Q : PSt} (hx : P.lx = false) (hL : P.L = []) (h : accW 2 P r = some Q) : ∃ ms, (∀ w ∈ ms, pmOk w = true) ∧ r = lateW Q.lx ++ ms ∧ Q = { P with lx := Q.lx, L := ms.map pmM } := by
  cases r with
  | nil =>
    cases h
    exact ⟨[], fun w hw => (List.not_mem_nil hw).elim, by rw [hx]; rfl, by cases P; simp_all⟩
  | cons w r =>
    rw [accW] at h
    unfold stepW at h
    rw [if_neg (by omega), if_neg (by omega)] at h
    by_cases hw : w = [108, 97, 116, 101]
    · rw [if_pos ⟨rfl, hw⟩] at h
      obtain ⟨h1, h2⟩ := acc3 r 3 _ Q (by omega) h
      refine ⟨r, h1, ?_, ?_⟩
      · rw [h2, hw]; rfl
      · rw [h2]; simp [hL]
    · rw [if_neg (fun q => hw q.2)] at h
      by_cases hk : pmOk w = true
      · rw [if_pos hk] at h
        obtain ⟨h1, h2⟩ := acc3 r 3 _ Q (by omega) h
        refine ⟨w :: r, fun x hx => ?_, ?_, ?_⟩
        · rcases List.mem_cons.1 hx with rfl | hx
          · exact hk
          · exact h1 x hx
        · rw [h2]
          show w :: r = lateW P.lx ++ (w :: r)
          rw [hx]; rfl
        · rw [h2]; simp [hL]
      · rw [if_neg hk] at h; cases h
theorem acc2' {P : PSt} (lx : Bool) (ms : List (List UInt8)) (hx : P.lx = false) (hL : P.L = []) (h : ∀ w ∈ ms, pmOk w = true) : accW 2 P (lateW lx ++ ms) = some { P with lx := lx, L := ms.map pmM } := by
  cases lx with
  | true =>
    show accW 2 P ([108, 97, 116, 101] :: ms) = _
    rw [accW]
    have hs : stepW 2 [108, 97, 116, 101] P = some { P with lx := true } := by
      unfold stepW
      rw [if_neg (by omega), if_neg (by omega), if_pos ⟨rfl, rfl⟩]
    rw [hs]
    show accW 3 { P with lx := true } ms = _
    rw [acc3' ms 3 _ (by omega) h]
    simp [hL]
  | false =>
    show accW 2 P ms = _
    cases ms with
    | nil => cases P; simp_all [accW]
    | cons w r =>
      rw [accW]
      have hs : stepW 2 w P = some { P with L := P.L ++ [pmM w] } := by
        unfold stepW
        rw [if_neg (by omega), if_neg (by omega), if_neg (fun q => not_late (h w (by simp)) q.2), if_pos (h w (by simp))]
      rw [hs]
      show accW 3 { P with L := P.L ++ [pmM w] } r = _
      rw [acc3' r 3 _ (by omega) fun x hx => h x (by simp [hx])]
      cases P; simp_all
theorem dashL_nil : dashL [] = [45] := rfl
theorem dashL_cons {l : List UInt8} (h : l ≠ []) : dashL l = l := if_neg (fun e => h (List.length_eq_zero_iff.1 e))
theorem step0 {l : List UInt8} (h : l.all pitB = true) (P : PSt) (hP : P.a = []) : stepW 0 (dashL l) P = some { P with a := l } := by
  unfold stepW
  rw [if_pos rfl]
  by_cases hl : l = []
  · subst hl
    rw [dashL_nil, if_pos rfl]
    cases P; simp_all
  · rw [dashL_cons hl, if_neg (fun e => by rw [e] at h; exact absurd h (by decide)), if_pos ⟨hl, h⟩]
theorem step0_inv {w : List UInt8} {P Q : PSt} (hP : P.a = []) (h : stepW 0 w P = some Q) : ∃ l, w = dashL l ∧ l.all pitB = true ∧ Q = { P with a := l } := by
  unfold stepW at h
  rw [if_pos rfl] at h
  by_cases h1 : w = [45]
  · rw [if_pos h1] at h
    cases h
    exact ⟨[], h1, rfl, by cases P; simp_all⟩
  · rw [if_neg h1] at h
    by_cases h2 : w ≠ [] ∧ w.all pitB = true
    · rw [if_pos h2] at h
      cases h
      exact ⟨w, (dashL_cons h2.1).symm, h2.2, rfl⟩
    · rw [if_neg h2] at h; cases h
theorem step1 {l : List UInt8} (hl : l = [] ∨ l.length = 1) (h : l.all evB = true) (P : PSt) (hP : P.e = []) : stepW 1 (dashL l) P = some { P with e := l } := by
  unfold stepW
  rw [if_neg (by omega), if_pos rfl]
  rcases hl with rfl | hl
  · rw [dashL_nil, if_pos rfl]
    cases P; simp_all
  · have hn : l ≠ [] := fun e => by rw [e] at hl; cases hl
    rw [dashL_cons hn, if_neg (fun e => by rw [e] at h; exact absurd h (by decide)), if_pos ⟨hl, h⟩]
theorem step1_inv {w : List UInt8} {P Q : PSt} (hP : P.e = []) (h : stepW 1 w P = some Q) : ∃ l, w = dashL l ∧ l.all evB = true ∧ Q = { P with e := l } := by
  unfold stepW at h
  rw [if_neg (by omega), if_pos rfl] at h
  by_cases h1 : w = [45]
  · rw [if_pos h1] at h
    cases h
    exact ⟨[], h1, rfl, by cases P; simp_all⟩
  · rw [if_neg h1] at h
    by_cases h2 : w.length = 1 ∧ w.all evB = true
    · rw [if_pos h2] at h
      cases h
      have hn : w ≠ [] := fun e => by rw [e] at h2; cases h2.1
      exact ⟨w, (dashL_cons hn).symm, h2.2, rfl⟩
    · rw [if_neg h2] at h; cases h
/-- All words of a play. -/
def wordsP (l1 l2 : List UInt8) (lx : Bool) (ms : List (List UInt8)) : List (List UInt8) := dashL l1 :: dashL l2 :: (lateW lx ++ ms)
theorem acc_words {l1 l2 : List UInt8} {lx : Bool} {ms : List (List UInt8)} (h1 : l1.all pitB = true) (h2 : l2 = [] ∨ l2.length = 1) (h3 : l2.all evB = true) (h : ∀ w ∈ ms, pmOk w = true) : accW 0 p0St (wordsP l1 l2 lx ms) = some ⟨l1, l2, lx, ms.map pmM⟩ := by
  unfold wordsP
  rw [accW, step0 h1 p0St rfl]
  show accW 1 { p0St with a := l1 } (dashL l2 :: (lateW lx ++ ms)) = _
  rw [accW, step1 h2 h3 _ rfl]
  show accW 2 { p0St with a := l1, e := l2 } (lateW lx ++ ms) = _
  rw [acc2' lx ms rfl rfl h]
theorem acc_inv {ws : List (List UInt8)} {Q : PSt} (hn : 2 ≤ ws.length) (h : accW 0 p0St ws = some Q) : ∃ ms, (∀ w ∈ ms, pmOk w = true) ∧ ws = wordsP Q.a Q.e Q.lx ms ∧ Q.L = ms.map pmM := by
  match ws, hn with
  | w0 :: w1 :: r, _ =>
    rw [accW] at h
    cases e0 : stepW 0 w0 p0St with
    | none => rw [e0] at h; cases h
    | some Q0 =>
      rw [e0] at h
      obtain ⟨l1, rfl, -, rfl⟩ := step0_inv rfl e0
      replace h : accW 1 { p0St with a := l1 } (w1 :: r) = some Q := h
      rw [accW] at h
      cases e1 : stepW 1 w1 { p0St with a := l1 } with
      | none => rw [e1] at h; cases h
      | some Q1 =>
        rw [e1] at h
        obtain ⟨l2, rfl, -, rfl⟩ := step1_inv rfl e1
        replace h : accW 2 { p0St with a := l1, e := l2 } r = some Q := h
        obtain ⟨ms, h1, h2, h3⟩ := acc2 rfl rfl h
        refine ⟨ms, h1, ?_, by rw [h3]⟩
        have ha : Q.a = l1 := by rw [h3]
        have he : Q.e = l2 := by rw [h3]
        unfold wordsP
        rw [ha, he, ← h2]
theorem mvW_dOf (L : List MvD) : mvW (dOf L) L.length = L.map moveL := by
  unfold mvW
  apply List.ext_getElem?
  intro i
  rw [List.getElem?_map, List.getElem?_map]
  by_cases hi : i < L.length
  · rw [List.getElem?_range hi, List.getElem?_eq_getElem hi]
    unfold dOf
    simp only [Option.map_some]
    rw [List.getElem?_eq_getElem hi]; rfl
  · rw [List.getElem?_eq_none (by rw [List.length_range]; omega), List.getElem?_eq_none (by omega)]
    rfl
theorem map_moveL_pmM : ∀ {ms : List (List UInt8)}, (∀ w ∈ ms, pmOk w = true) → (ms.map pmM).map moveL = ms
  | [], _ => rfl
  | w :: ms, h => by rw [List.map_cons, List.map_cons, (moveL_pmM (h w (by simp))).1, map_moveL_pmM fun x hx => h x (by simp [hx])]
theorem bA_inv (l : List UInt8) : (bA l).data.toList = l := rfl
/-- **What is parsed is printed as it was.** -/
theorem playL_parL {l : List UInt8} (h : (parL l).e = 0) : playL (parL l).p.s1.data.toList (parL l).p.s2.data.toList (parL l).p.lx (dOf (parL l).p.L) (parL l).p.L.length = l := by
  unfold parL at h ⊢
  by_cases h1 : 4096 < l.length
  · rw [if_pos h1] at h; cases h
  rw [if_neg h1] at h ⊢
  cases hr : runW 0 0 p0St (spl 32 l) with
  | inl k => rw [hr] at h; cases h
  | inr P =>
    rw [hr] at h
    simp only at h ⊢
    by_cases h2 : (spl 32 l).length < 2
    · rw [if_pos h2] at h; cases h
    rw [if_neg h2] at h ⊢
    by_cases h3 : plP P = 0
    · rw [if_pos h3]
      have ha : accW 0 p0St (spl 32 l) = some P := by
        cases hq : accW 0 p0St (spl 32 l) with
        | some Q => have := runW_done _ 0 0 p0St Q hq; rw [hr] at this; cases this; rfl
        | none =>
          exfalso
          have key : ∀ (r : List (List UInt8)) (n k : Nat) (P0 : PSt), accW n P0 r = none → ∃ j, runW n k P0 r = .inl j := fun r => by
            induction r with
            | nil => intro n k P0 q; cases q
            | cons w r ih =>
              intro n k P0 q
              rw [accW] at q
              rw [runW]
              cases hx : stepW n w P0 with
              | none => exact ⟨k, rfl⟩
              | some R =>
                rw [hx] at q
                exact ih (n + 1) _ R q
          obtain ⟨j, hj⟩ := key _ 0 0 p0St hq
          rw [hr] at hj; cases hj
      obtain ⟨ms, hm, hw, hL⟩ := acc_inv (by omega) ha
      unfold pldOf
      show playL (bA P.a).data.toList (bA P.e).data.toList P.lx (dOf P.L) P.L.length = l
      rw [bA_inv, bA_inv, playL_join, mvW_dOf, hL, map_moveL_pmM hm]
      obtain ⟨a, r, e, hj⟩ := spl_join 32 l
      rw [e] at hw
      unfold wordsP at hw
      simp only [List.cons.injEq] at hw
      rw [← hw.1, ← hw.2]
      exact hj.symm
    · rw [if_neg h3] at h; exact absurd h h3

/-! ### a valid play -/
theorem plV_zero {y0 y1 : Int → Int} {yo yn eo en : Int} {d : Nat → MvD} {n : Nat} (h : plV y0 yo yn y1 eo en d n = 0) : pitV y0 yo yn = 0 ∧ evOk y1 eo en = true ∧ n ≤ 4 ∧ mvsV d n 0 = 0 := by
  unfold plV at h
  by_cases p1 : pitV y0 yo yn = 0
  case neg => rw [if_neg p1] at h; exact absurd h p1
  rw [if_pos p1] at h
  by_cases p2 : evOk y1 eo en = true
  case neg => rw [if_neg p2] at h; cases h
  rw [if_pos p2] at h
  by_cases p3 : n ≤ 4
  case neg => rw [if_neg p3] at h; cases h
  rw [if_pos p3] at h
  exact ⟨p1, p2, p3, h⟩
theorem yB_at {l : List UInt8} {k : Nat} {b : UInt8} (h : l[k]? = some b) : yB l (0 + (k : Int)) = (b.toNat : Int) := by
  unfold yB by'
  rw [Int.zero_add, Int.toNat_natCast, h]
  rfl
theorem pit_all {l : List UInt8} (h : pitV (yB l) 0 (l.length : Nat) = 0) : l.all pitB = true := by
  obtain ⟨-, h2⟩ := pit_bytes (Int.natCast_nonneg _) h
  rw [List.all_eq_true]
  intro b hb
  obtain ⟨k, hk⟩ := List.getElem?_of_mem hb
  have hlt := (List.getElem?_eq_some_iff.1 hk).1
  have := h2 k (by omega)
  rw [yB_at hk] at this
  simp only [List.mem_cons, List.not_mem_nil, or_false] at this
  have hb' : b.toNat = 66 ∨ b.toNat = 67 ∨ b.toNat = 83 ∨ b.toNat = 70 ∨ b.toNat = 88 ∨ b.toNat = 72 := by omega
  rcases hb' with e | e | e | e | e | e <;>
  · have := UInt8.ofNat_toNat (x := b)
    rw [e] at this
    rw [← this]; rfl
theorem ev_all {l : List UInt8} (h : evOk (yB l) 0 (l.length : Nat) = true) : (l = [] ∨ l.length = 1) ∧ l.all evB = true := by
  rcases ev_bytes h with h1 | ⟨h1, h2⟩
  · have : l = [] := List.length_eq_zero_iff.1 (by omega)
    subst this
    exact ⟨.inl rfl, rfl⟩
  · match l, h1 with
    | [b], _ =>
      refine ⟨.inr rfl, ?_⟩
      have e0 := yB_at (l := [b]) (k := 0) rfl
      rw [show ((0 : Int) + ((0 : Nat) : Int)) = 0 + 0 from rfl] at e0
      rw [e0] at h2
      simp only [List.mem_cons, List.not_mem_nil, or_false] at h2
      have hb' : b.toNat = 75 ∨ b.toNat = 87 ∨ b.toNat = 72 ∨ b.toNat = 73 ∨ b.toNat = 88 ∨ b.toNat = 78 ∨ b.toNat = 89 := by omega
      rcases hb' with e | e | e | e | e | e | e <;>
      · have := UInt8.ofNat_toNat (x := b)
        rw [e] at this
        rw [← this]; rfl
theorem letter_of {d : Nat → MvD} {n i : Nat} (h : mvsV d n 0 = 0) (hi : i < n) : 97 ≤ (d i).y ((d i).so + 0) ∧ (d i).y ((d i).so + 0) ≤ 122 := by
  have hc : (d i).check = 0 := mvs_zero d n 0 h i (Nat.zero_le _) (by omega)
  obtain ⟨-, w2, w3⟩ := mvV_way hc
  by_cases hx : (d i).x = 0
  · have := (w2 hx).1
    simp only [List.mem_cons, List.not_mem_nil, or_false] at this
    omega
  · have := w3 hx
    simp only [List.mem_cons, List.not_mem_nil, or_false] at this
    omega
theorem moveL_len {m : MvD} (h : WordM m) (hb : m.bn ≤ 9) : (moveL m).length ≤ 14 := by
  obtain ⟨b, hb1⟩ := strL_one (y := m.y) (o := m.so) h.2.1
  unfold moveL
  rw [hb1]
  have : (tchs m).length ≤ 9 := by unfold tchs; rw [length_intsL]; omega
  by_cases q : (tchs m).length = 0
  · rw [if_pos q]; simp; omega
  · rw [if_neg q]; simp; omega
theorem mvsL_len9 {d : Nat → MvD} {n : Nat} (h : ∀ i, i < n → (moveL (d i)).length ≤ 14) : ∀ i, i ≤ n → (mvsL d i).length ≤ 15 * i
  | 0, _ => Nat.zero_le _
  | i + 1, hi => by
    have h1 := mvsL_len9 h i (by omega)
    have h2 := h i (by omega)
    rw [mvsL, List.length_append, List.length_append]
    simp only [List.length_cons, List.length_nil]
    omega
/-- All that PlayBack asks of a valid play. -/
structure BackP (l1 l2 : List UInt8) (lx : Bool) (d : Nat → MvD) (n : Nat) : Prop where
  len : (playL l1 l2 lx d n).length ≤ 100
  words : spl 32 (playL l1 l2 lx d n) = wordsP l1 l2 lx (mvW d n)
  nolf : (10 : UInt8) ∉ playL l1 l2 lx d n
  wp : WordP l1 l2 d n
  par : ∃ L : List MvD, parL (playL l1 l2 lx d n) = ⟨⟨bA l1, bA l2, lx, L⟩, 0, 0⟩ ∧ L.length = n ∧ ∀ i, i < n → sameMD (d i) (dOf L i) = true
theorem dashL_all {l : List UInt8} {p : UInt8 → Prop} (h0 : p 45) (h : ∀ b ∈ l, p b) : ∀ b ∈ dashL l, p b := fun b hb => by
  unfold dashL at hb
  split at hb
  · rw [List.mem_singleton.1 hb]; exact h0
  · exact h b hb
theorem back_of {l1 l2 : List UInt8} {lx : Bool} {d : Nat → MvD} {n : Nat} (h : plV (yB l1) 0 (l1.length : Nat) (yB l2) 0 (l2.length : Nat) d n = 0) (hb : ∀ i, i < n → 0 ≤ (d i).bn) : BackP l1 l2 lx d n := by
  have hF := full_of h hb (Int.natCast_nonneg _) (Int.natCast_nonneg _)
  obtain ⟨p1, p2, p3, p4⟩ := plV_zero h
  have hw := hF.w
  rw [strL_yB, strL_yB] at hw
  have hpit := pit_all p1
  obtain ⟨hev, hev2⟩ := ev_all p2
  have hmv : ∀ i, i < n → pmOk (moveL (d i)) = true ∧ sameMD (d i) (pmM (moveL (d i))) = true ∧ (d i).check = (pmM (moveL (d i))).check ∧ (d i).fr = (pmM (moveL (d i))).fr := fun i hi =>
    pmM_moveL (hw.hd i hi) (letter_of p4 hi) (hb i hi)
  have hms : ∀ w ∈ mvW d n, pmOk w = true := fun w hw' => by
    unfold mvW at hw'
    obtain ⟨i, hi, rfl⟩ := List.mem_map.1 hw'
    exact (hmv i (List.mem_range.1 hi)).1
  have hlen : (playL l1 l2 lx d n).length ≤ 100 := by
    have h2 := mvsL_len9 (d := d) (n := n) (fun j hj => moveL_len (hw.hd j hj) (hF.v.v.bn j hj).2) n (Nat.le_refl _)
    have h3 := length_dashL l1
    have h4 := length_dashL l2
    have h5 : (lateL lx).length ≤ 5 := by cases lx <;> simp [lateL]
    have h6 := hF.yn.2
    have h7 := hF.en.2
    unfold playL
    simp only [List.length_append, List.length_cons, List.length_nil]
    omega
  have hspl : spl 32 (playL l1 l2 lx d n) = wordsP l1 l2 lx (mvW d n) := by
    rw [playL_join]
    refine spl_of_join (dashL_nosp hw.h1) fun x hx => ?_
    simp only [List.mem_cons, List.mem_append] at hx
    rcases hx with rfl | hx | hx
    · exact dashL_nosp hw.h2
    · cases lx <;> simp [lateW] at hx
      subst hx; decide
    · unfold mvW at hx
      obtain ⟨i, hi, rfl⟩ := List.mem_map.1 hx
      exact moveL_nosp (hw.hd i (List.mem_range.1 hi))
  refine ⟨hlen, hspl, ?_, hw, ?_⟩
  · intro hm
    rw [playL_join] at hm
    simp only [List.mem_append, List.mem_flatten, List.mem_map] at hm
    have nopit : ∀ b ∈ dashL l1, b ≠ 10 := dashL_all (by decide) fun b hb' e => by
      subst e
      exact absurd (List.all_eq_true.1 hpit 10 hb') (by decide)
    have noev : ∀ b ∈ dashL l2, b ≠ 10 := dashL_all (by decide) fun b hb' e => by
      subst e
      exact absurd (List.all_eq_true.1 hev2 10 hb') (by decide)
    have nomv : ∀ w, pmOk w = true → (10 : UInt8) ∉ w := fun w hk hm => by
      obtain ⟨f, s, t, b, T, rfl, hf, hs, ht, hb', hT⟩ := pmOk_inv hk
      have nd : ∀ c : UInt8, dig c = true → c ≠ 10 := fun c hc e => by subst e; exact absurd hc (by decide)
      unfold mkW at hm
      simp only [List.mem_cons] at hm
      rcases hm with hm | hm | hm | hm | hm
      · exact nd _ hf hm.symm
      · rcases hs with rfl | rfl <;> exact absurd hm (by decide)
      · exact nd _ ht hm.symm
      · rw [← hm] at hb'; exact absurd hb'.1 (by decide)
      · split at hm
        · exact List.not_mem_nil hm
        · rcases List.mem_cons.1 hm with hm | hm
          · exact absurd hm (by decide)
          · exact nd _ (List.all_eq_true.1 hT _ hm) rfl
    rcases hm with hm | ⟨x, ⟨w, hw', rfl⟩, hm⟩
    · exact nopit _ hm rfl
    · rcases List.mem_append.1 hm with hm | hm
      · simp at hm
      · simp only [List.mem_cons, List.mem_append] at hw'
        rcases hw' with rfl | hw' | hw'
        · exact noev _ hm rfl
        · cases lx <;> simp [lateW] at hw'
          subst hw'
          exact absurd hm (by decide)
        · exact nomv _ (hms w hw') hm
  · refine ⟨(mvW d n).map pmM, ?_, by simp [mvW], fun i hi => ?_⟩
    · have hL : ((mvW d n).map pmM).length = n := by simp [mvW]
      have hdo : ∀ i, i < n → dOf ((mvW d n).map pmM) i = pmM (moveL (d i)) := fun i hi => by
        unfold dOf mvW
        simp [hi]
      refine parL_ok (Q := ⟨l1, l2, lx, (mvW d n).map pmM⟩) (by omega) (by rw [hspl]; exact acc_words hpit hev hev2 hms) (by rw [hspl]; unfold wordsP; simp) ?_
      unfold plP
      simp only [hL]
      rw [← plV_eq' (d := d) fun j hj => by rw [hdo j hj]; exact (hmv j hj).2.2]
      exact h
    · have hdo : dOf ((mvW d n).map pmM) i = pmM (moveL (d i)) := by
        unfold dOf mvW
        simp [hi]
      rw [hdo]
      exact (hmv i hi).2.1
theorem BackP.nwords {l1 l2 : List UInt8} {lx : Bool} {d : Nat → MvD} {n : Nat} (h : BackP l1 l2 lx d n) : (spl 32 (playL l1 l2 lx d n)).length = 2 + n + (if lx = true then 1 else 0) := by
  rw [h.words]
  unfold wordsP
  cases lx <;> simp [lateW, mvW] <;> omega
theorem sameN_of {d d' : Nat → MvD} {n n' : Nat} (hn : n = n') (h : ∀ i, i < n → sameMD (d i) (d' i) = true) : sameN d n d' n' = true := by
  subst hn
  rw [allK_same]
  have hk : ∀ k, k ≤ n → allK (fun i => sameMD (d i) (d' i)) k = true := fun k => by
    induction k with
    | zero => intro _; rfl
    | succ k ih =>
      intro hk
      rw [allK, ih (by omega), Bool.true_and]
      exact h k (by omega)
  exact hk n (Nat.le_refl _)
theorem sameN_get {d d' : Nat → MvD} {n n' : Nat} (h : sameN d n d' n' = true) : n = n' ∧ ∀ i, i < n → sameMD (d i) (d' i) = true := by
  unfold sameN at h
  rw [Bool.and_eq_true, decide_eq_true_eq] at h
  obtain ⟨rfl, h⟩ := h
  refine ⟨rfl, fun i hi => ?_⟩
  have key : ∀ k, allK (fun i => sameMD (d i) (d' i)) k = true → ∀ i, i < k → sameMD (d i) (d' i) = true := fun k => by
    induction k with
    | zero => intro _ i hi; exact absurd hi (Nat.not_lt_zero _)
    | succ k ih =>
      intro hk i hi
      rw [allK, Bool.and_eq_true] at hk
      rcases Nat.lt_succ_iff_lt_or_eq.1 hi with q | rfl
      · exact ih hk.1 i q
      · exact hk.2
  exact key n h i hi
theorem mvsL_same {d d' : Nat → MvD} : ∀ {n : Nat}, (∀ i, i < n → sameMD (d i) (d' i) = true) → mvsL d n = mvsL d' n
  | 0, _ => rfl
  | n + 1, h => by rw [mvsL, mvsL, mvsL_same fun i hi => h i (by omega), moveL_same (h n (by omega))]
theorem playL_same {l1 l2 : List UInt8} {lx : Bool} {d d' : Nat → MvD} {n n' : Nat} (h : sameN d n d' n' = true) : playL l1 l2 lx d n = playL l1 l2 lx d' n' := by
  obtain ⟨rfl, h2⟩ := sameN_get h
  unfold playL
  rw [mvsL_same h2]
/-- What is parsed is valid. -/
theorem parL_valid {l : List UInt8} (h : (parL l).e = 0) : plV (yB (parL l).p.s1.data.toList) 0 ((parL l).p.s1.data.toList.length : Nat) (yB (parL l).p.s2.data.toList) 0 ((parL l).p.s2.data.toList.length : Nat) (dOf (parL l).p.L) (parL l).p.L.length = 0 := by
  unfold parL at h ⊢
  by_cases h1 : 4096 < l.length
  · rw [if_pos h1] at h; cases h
  rw [if_neg h1] at h ⊢
  cases hr : runW 0 0 p0St (spl 32 l) with
  | inl k => rw [hr] at h; cases h
  | inr P =>
    rw [hr] at h
    simp only at h ⊢
    by_cases h2 : (spl 32 l).length < 2
    · rw [if_pos h2] at h; cases h
    rw [if_neg h2] at h ⊢
    by_cases h3 : plP P = 0
    · rw [if_pos h3]
      exact h3
    · rw [if_neg h3] at h; exact absurd h h3

end Go.Proofs.Tryz
