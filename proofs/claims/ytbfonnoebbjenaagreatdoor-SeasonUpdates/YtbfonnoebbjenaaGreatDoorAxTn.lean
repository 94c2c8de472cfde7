/- Totals and differences by the season: by the kit's walk. Totals brought up to date by the season (Update): by the kit's walk. -/
import Derived.Test.YtbfonnoebbjenaaGreatDoorAxTm
import Derived.Test.YtbfonnoebbjenaaGreatDoorAxTj
import Derived.Test.YtbfonnoebbjenaaGreatDoorAxUc
import Derived.Test.YtbfonnoebbjenaaGreatDoorAxTc
namespace Go.Proofs.Tryz
open Go Go.Am Go.RowKit Go.Op Go.Maps Go.WideMaps
set_option maxRecDepth 100000

theorem made_map (w : World) : MapK (w.alloc (.map #[] 0)) w.heap.size 0 [] := ⟨_, World.ownsMap_made w prog 9 HeldV, SpecD.nil⟩
set_option maxHeartbeats 3200000 in
theorem totals17_w (HSort : SortsT) {g : Nat → GmD} {n : Nat} {v : Value} {w : World} (h : IsGames w v g n) (hn : n ≤ 66) (hk : ∀ i, i < n → (g i).k ≤ 62 ∧ (g i).nm.length ≤ 60) :
    Calls prog 17 #[.agg #[v]] w fun e w' => (∃ u, e = .returned (.tuple #[u, .int .i64 (bookE g n)]) ∧ OwnTots w' w.heap.size 66 u (if bookE g n = 0 then gamT 1 g 0 n [] else [])) ∧ Below w.heap.size w w' := by
  have h0 := h
  obtain ⟨lv, hr, -⟩ := h0
  obtain ⟨ad, c, rfl, hnc⟩ := hr.slice
  clear hr
  have hB : Below w.heap.size w (w.alloc (.cells #[.slice ad n c] 31)) := (Below.refl _ _).alloc (Nat.le_refl _) _
  have hx := at_new w #[.slice ad n c] 31
  obtain ⟨W1, hW⟩ : ∃ W1, w.alloc (.cells #[.slice ad n c] 31) = W1 := ⟨_, rfl⟩
  rw [hW] at hB hx
  have cB := book_w (h.below hB) (Nat.le_trans hn (by decide)) (fun i hi => ⟨Nat.le_trans (hk i hi).1 (by decide), Nat.le_trans (hk i hi).2 (by decide)⟩)
  have hE := @bookE_ok g n
  obtain ⟨E, hEq⟩ : ∃ E, bookE g n = E := ⟨_, rfl⟩
  rw [hEq] at cB hE ⊢
  have HE := Lib.hid hE
  have HK := Lib.hid hk
  have HH := Lib.hid h
  have x0 := (box1 hx).1
  have hmm := @run_makeMap prog
  clear hEq hE hk h
  go_enter func17, ntmps17
  go_wp2_with fail
  try rw [hW]
  clear hW
  go_at_call 54
  refine cB.mono ?_
  rintro e W2 ⟨rfl, hb⟩
  have hB2 := hB.trans (hb.mono hB.size)
  have hx2 := hx.below hb hx.lt
  have x0 := (box1 hx2).1
  clear cB hb hB hx
  by_cases h0 : E = 0
  · subst h0
    have hok : GamesOk g n := ⟨hn, fun i hi => ⟨(HK.out i hi).1, gmE_ok ((HE.out rfl).2 i hi)⟩⟩
    have hm := made_map W2
    have hal : Below W2.heap.size W2 (W2.alloc (.map #[] 0)) := (Below.refl _ _).alloc (Nat.le_refl _) _
    have hx3 := hx2.below hal hx2.lt
    have hB3 := hB2.trans (hal.mono hB2.size)
    have hg3 := HH.out.below hB3
    have hszb := hB2.size
    obtain ⟨W3, hW3⟩ : ∃ W3, W2.alloc (.map #[] 0) = W3 := ⟨_, rfl⟩
    rw [hW3] at hm hx3 hB3 hg3
    have x1 := (box1 hx3).1
    have cA := addGames_w hg3 hok.1 hok.2 hm (Nat.le_refl _) InvT.nil (by decide) 1 (.inl rfl)
    have hnn : n * 62 ≤ 66 * 62 := Nat.mul_le_mul_right _ hn
    clear HE HK HH hal hm hx3 hg3 hok x0 hx2
    go_wp2_with fail
    try rw [hW3]
    go_at_call 86
    refine cA.mono ?_
    rintro e W4 ⟨rfl, ⟨k', hk', hM, hI⟩, hgr⟩
    have hB4 : Below w.heap.size w W4 := hB3.grown hgr hB3.size (fun q hq => by cases hq; exact hszb)
    have cL := list_w HSort hM hI.1 (Nat.le_trans hI.2.1 (by omega))
    rw [clean_pos (gamT_posT g n 0 [] (fun t ht => absurd ht List.not_mem_nil))] at cL
    clear cA hM hI hgr hB3 hB2 x1
    go_wp2_with fail
    go_at_call 87
    refine cL.mono ?_
    rintro e W5 ⟨⟨u, rfl, hu⟩, hb5⟩
    have hu5 := hu.mono hB4.size
    have hB5 := hB4.trans (hb5.mono hB4.size)
    clear cL hu hb5 hB4
    go_wp2_with fail
    go_ret2
    exact ⟨⟨_, rfl, by first | exact hu5 | (rw [if_pos rfl]; exact hu5) | simpa using hu5⟩, hB5⟩
  · have h0' : (E != 0) = true := by simpa using h0
    have hs0 : OwnTots W2 w.heap.size 66 (.slice none 0 0) [] := OwnTots.start _ _ _
    clear HE HK HH
    go_wp2_with fail
    go_ret2
    exact ⟨⟨_, rfl, by first | exact hs0 | (rw [if_neg h0]; exact hs0) | simpa [h0] using hs0⟩, hB2⟩

set_option maxHeartbeats 3200000 in
theorem diff19_w (HSort : SortsT) {g g2 : Nat → GmD} {n n2 : Nat} {v v2 : Value} {w : World} (h : IsGames w v g n) (hn : n ≤ 66) (hk : ∀ i, i < n → (g i).k ≤ 62) (h2 : IsGames w v2 g2 n2) (hn2 : n2 ≤ 66) (hk2 : ∀ i, i < n2 → (g2 i).k ≤ 62) :
    Calls prog 19 #[v, v2] w fun e w' => (∃ u, e = .returned (.tuple #[u, .int .i64 (fstE [gmsE g n, gmsE g2 n2])]) ∧ OwnTots w' w.heap.size 66 u (if fstE [gmsE g n, gmsE g2 n2] = 0 then cleanT (gamT 1 g2 0 n2 (gamT (-1) g 0 n [])) else [])) ∧ Below w.heap.size w w' := by
  have c1 := games_w h (fun i hi => Nat.le_trans (hk i hi) (by decide))
  have HH := Lib.hid (And.intro h h2)
  have HK := Lib.hid (And.intro hk hk2)
  have c2 : ∀ W, Below w.heap.size w W → Calls prog 89 #[v2] W fun e w' => e = .returned (.int .i64 (gmsE g2 n2)) ∧ Below W.heap.size W w' := fun W hW => games_w (h2.below hW) (fun i hi => Nat.le_trans (hk2 i hi) (by decide))
  have hE1 := @gmsE_ok g n
  have hE2 := @gmsE_ok g2 n2
  obtain ⟨E1, hEq1⟩ : ∃ E, gmsE g n = E := ⟨_, rfl⟩
  obtain ⟨E2, hEq2⟩ : ∃ E, gmsE g2 n2 = E := ⟨_, rfl⟩
  rw [hEq1] at c1 hE1 ⊢
  rw [hEq2] at c2 hE2 ⊢
  have HE := Lib.hid (And.intro hE1 hE2)
  have cF := first2_w E1 E2
  have hz : fstE [E1, E2] = 0 → E1 = 0 ∧ E2 = 0 := fun h => by
    unfold fstE fstE fstE at h
    by_cases q : E1 = 0
    · rw [if_pos q] at h
      by_cases q2 : E2 = 0
      · exact ⟨q, q2⟩
      · rw [if_neg q2] at h; exact absurd h q2
    · rw [if_neg q] at h; exact absurd h q
  have HZ := Lib.hid hz
  obtain ⟨E, hEq⟩ : ∃ E, fstE [E1, E2] = E := ⟨_, rfl⟩
  rw [hEq] at cF ⊢
  have HQ := Lib.hid hEq
  have hmm := @run_makeMap prog
  clear hEq1 hEq2 hE1 hE2 hz hEq h h2 hk hk2
  go_enter func19, ntmps19
  go_wp2_with fail
  go_at_call 89
  refine c1.mono ?_
  rintro e W1 ⟨rfl, hb1⟩
  clear c1
  go_wp2_with fail
  go_at_call 89
  refine (c2 _ hb1).mono ?_
  rintro e W2 ⟨rfl, hb2⟩
  have hB2 := hb1.trans (hb2.mono hb1.size)
  clear c2 hb1 hb2
  go_wp2_with fail
  go_at_call 88
  refine (cF _ _ (by simp) (by simp)).mono ?_
  rintro e W3 ⟨rfl, rfl⟩
  have hB3 := hB2.alloc hB2.size (.cells #[.int .i64 E1, .int .i64 E2] 26)
  clear cF hB2
  generalize W2.alloc (.cells #[.int .i64 E1, .int .i64 E2] 26) = W3 at hB3 ⊢
  by_cases h0 : E = 0
  · subst h0
    obtain ⟨q1, q2⟩ := HZ.out HQ.out
    have hok : GamesOk g n := ⟨hn, fun i hi => ⟨HK.out.1 i hi, gmE_ok ((HE.out.1 q1).2 i hi)⟩⟩
    have hok2 : GamesOk g2 n2 := ⟨hn2, fun i hi => ⟨HK.out.2 i hi, gmE_ok ((HE.out.2 q2).2 i hi)⟩⟩
    have hm := made_map W3
    have hal : Below W3.heap.size W3 (W3.alloc (.map #[] 0)) := (Below.refl _ _).alloc (Nat.le_refl _) _
    have hB4 := hB3.trans (hal.mono hB3.size)
    have hszb := hB3.size
    obtain ⟨W4, hW4⟩ : ∃ W4, W3.alloc (.map #[] 0) = W4 := ⟨_, rfl⟩
    rw [hW4] at hm hB4
    have cA := addGames_w (HH.out.1.below hB4) hok.1 hok.2 hm (Nat.le_refl _) InvT.nil (by decide) (-1) (.inr rfl)
    have hnn : n * 62 ≤ 66 * 62 := Nat.mul_le_mul_right _ hn
    have hnn2 : n2 * 62 ≤ 66 * 62 := Nat.mul_le_mul_right _ hn2
    have HO := Lib.hid hok2
    clear HE HK hal hm hok hok2 HZ HQ q1 q2 hB3
    go_wp2_with fail
    try rw [hW4]
    clear hW4
    go_at_call 86
    refine cA.mono ?_
    rintro e W5 ⟨rfl, ⟨k', hk', hM, hI⟩, hgr⟩
    have hB5 : Below w.heap.size w W5 := hB4.grown hgr hB4.size (fun q hq => by cases hq; exact hszb)
    have cA2 := addGames_w (HH.out.2.below hB5) HO.out.1 HO.out.2 hM hk' hI (by omega) 1 (.inl rfl)
    clear cA hM hI hgr hB4 HH
    go_wp2_with fail
    go_at_call 86
    refine cA2.mono ?_
    rintro e W6 ⟨rfl, ⟨k2, hk2, hM2, hI2⟩, hgr2⟩
    have hB6 : Below w.heap.size w W6 := hB5.grown hgr2 hB5.size (fun q hq => by cases hq; exact hszb)
    have cL := list_w HSort hM2 hI2.1 (Nat.le_trans hI2.2.1 (by omega))
    clear cA2 hM2 hI2 hgr2 hB5 HO
    go_wp2_with fail
    go_at_call 87
    refine cL.mono ?_
    rintro e W7 ⟨⟨u, rfl, hu⟩, hb7⟩
    have hu7 := hu.mono hB6.size
    have hB7 := hB6.trans (hb7.mono hB6.size)
    clear cL hu hb7 hB6
    go_wp2_with fail
    go_ret2
    exact ⟨⟨_, rfl, by first | exact hu7 | (rw [if_pos rfl]; exact hu7) | simpa using hu7⟩, hB7⟩
  · have h0' : (E != 0) = true := by simpa using h0
    have hs0 : OwnTots W3 w.heap.size 66 (.slice none 0 0) [] := OwnTots.start _ _ _
    clear HE HK HH HZ HQ
    go_wp2_with fail
    go_ret2
    exact ⟨⟨_, rfl, by first | exact hs0 | (rw [if_neg h0]; exact hs0) | simpa [h0] using hs0⟩, hB3⟩
end Go.Proofs.Tryz

namespace Go.Proofs.Tryz
open Go Go.Am Go.RowKit Go.Op Go.Maps Go.WideMaps
set_option maxRecDepth 100000

/-- What an update answers. -/
def updA (l d : List Tot) : Int := if fstE [totsE l, totsE d] = 0 then updE (cleanT (sumT l d)) else fstE [totsE l, totsE d]
def UpdOk (w' : World) (base : Nat) (u : Value) (x : Int) (l d : List Tot) : Prop := x = updA l d ∧ OwnTots w' base 66 u (if x = 0 then cleanT (sumT l d) else [])

theorem sum_inv {l d : List Tot} (hs : SortT l) (hl : ∀ t ∈ l, NumK t 12) (hd : ∀ t ∈ d, NumK t 12) (i : Nat) : InB (1 + (i - l.length)) (sumT [] ((l ++ d).take i)) := by
  by_cases h : i ≤ l.length
  · rw [List.take_append_of_le_length h, sumT_self hs i h]
    exact (InB.of fun t ht => hl t (List.mem_of_mem_take ht)).mono (by omega)
  · obtain ⟨k, rfl⟩ : ∃ k, i = l.length + k := ⟨i - l.length, by omega⟩
    rw [List.take_length_add_append, sumT_append]
    have e := sumT_self hs l.length (Nat.le_refl _)
    rw [List.take_length] at e
    rw [e]
    exact (sumT_in (InB.of hl) fun t ht => hd t (List.mem_of_mem_take ht)).mono (by rw [List.length_take]; omega)
theorem sum_all {l d : List Tot} (hs : SortT l) : sumT [] (l ++ d) = sumT l d := by
  have e := sumT_self hs l.length (Nat.le_refl _)
  rw [List.take_length] at e
  rw [sumT_append, e]

set_option maxHeartbeats 6400000 in
theorem update_w {l d : List Tot} {v vd : Value} {w : World} (hl : IsTots w v l) (hd : IsTots w vd d) (hn : l.length ≤ 5000) (hnd : d.length ≤ 100) :
    Calls prog 69 #[v, vd] w fun e w' => (∃ u x, e = .returned (.tuple #[u, .int .i64 x]) ∧ UpdOk w' w.heap.size u x l d) ∧ Below w.heap.size w w' := by
  have c1 := checkTots_w hl (Nat.le_trans hn (by decide))
  have c2 := fun W (hb : Below w.heap.size w W) => checkTots_w (hd.below hb) (Nat.le_trans hnd (by decide))
  have HZ1 := Lib.hid (@totsE_zero l)
  have HZ2 := Lib.hid (@totsE_zero d)
  have HU : Hid (updA l d = if fstE [totsE l, totsE d] = 0 then updE (cleanT (sumT l d)) else fstE [totsE l, totsE d]) := Lib.hid rfl
  have HF : Hid (fstE [totsE l, totsE d] = 0 → totsE l = 0 ∧ totsE d = 0) := Lib.hid (by
    intro h
    unfold fstE at h
    by_cases h0 : totsE l = 0
    · rw [if_pos h0] at h
      unfold fstE at h
      by_cases h1 : totsE d = 0
      · exact ⟨h0, h1⟩
      · rw [if_neg h1] at h; exact absurd h h1
    · rw [if_neg h0] at h; exact absurd h h0)
  obtain ⟨x, hx⟩ : ∃ x, totsE l = x := ⟨_, rfl⟩
  obtain ⟨y, hy⟩ : ∃ y, totsE d = y := ⟨_, rfl⟩
  rw [hx] at c1 HZ1 HU HF
  rw [hy] at HZ2 HU HF
  simp only [hy] at c2
  have cF := first2_w x y
  obtain ⟨z, hz⟩ : ∃ z, fstE [x, y] = z := ⟨_, rfl⟩
  rw [hz] at cF HU HF
  clear hx hy hz
  have HL := Lib.hid hl
  have HD := Lib.hid hd
  obtain ⟨a1, k1, rfl, hk1⟩ := hl.slice
  obtain ⟨a2, k2, rfl, hk2⟩ := hd.slice
  have hmm := @run_makeMap prog
  clear hl hd
  go_enter func69, ntmps69
  go_wp2_with fail
  go_at_call 72
  refine c1.mono ?_
  rintro e W1 ⟨rfl, hb1⟩
  clear c1
  go_wp2_with fail
  go_at_call 72
  refine (c2 W1 hb1).mono ?_
  rintro e W2 ⟨rfl, hb2⟩
  have hb3 := hb1.trans (hb2.mono hb1.size)
  have hb4 := fun o => hb3.alloc hb3.size o
  clear c2
  go_wp2_with fail
  go_at_call 88
  refine (cF _ _ (by simp) (by simp)).mono ?_
  rintro e W3 ⟨rfl, rfl⟩
  have hb5 := hb4 (.cells #[.int .i64 x, .int .i64 y] 26)
  clear cF hb1 hb2 hb3 hb4
  obtain ⟨W3, hW3⟩ : ∃ W3, W2.alloc (.cells #[.int .i64 x, .int .i64 y] 26) = W3 := ⟨_, rfl⟩
  rw [hW3] at hb5 ⊢
  clear hW3
  by_cases hz0 : z = 0
  · obtain ⟨hx0, hy0⟩ := HF.out hz0
    obtain ⟨q1, q2, q3⟩ := HZ1.out hx0
    obtain ⟨-, -, q4⟩ := HZ2.out hy0
    have HQ := Lib.hid (And.intro q1 (And.intro q2 (And.intro q3 q4)))
    subst hz0
    have HU2 : Hid (updA l d = updE (cleanT (sumT l d))) := Lib.hid (by rw [HU.out, if_pos rfl])
    clear HU HF HZ1 HZ2 hx0 hy0 q1 q2 q3 q4
    have hm := made_map W3
    have hal : Below W3.heap.size W3 (W3.alloc (.map #[] 0)) := (Below.refl _ _).alloc (Nat.le_refl _) _
    have hbm := hb5.trans (hal.mono hb5.size)
    obtain ⟨W4, hW4⟩ : ∃ W4, W3.alloc (.map #[] 0) = W4 := ⟨_, rfl⟩
    rw [hW4] at hm hbm
    have hx5 := at_new W4 #[.slice a1 l.length k1, .slice a2 d.length k2] 25
    have hal5 : Below W4.heap.size W4 (W4.alloc (.cells #[.slice a1 l.length k1, .slice a2 d.length k2] 25)) := (Below.refl _ _).alloc (Nat.le_refl _) _
    have hbn := hbm.trans (hal5.mono hbm.size)
    have hm5 := hm.below hal5
    obtain ⟨W5, hW5⟩ : ∃ W5, W4.alloc (.cells #[.slice a1 l.length k1, .slice a2 d.length k2] 25) = W5 := ⟨_, rfl⟩
    rw [hW5] at hx5 hbn hm5
    have cC := concat_w hx5 (HL.out.below hbn) (HD.out.below hbn) (Nat.le_trans hn (by decide)) (Nat.le_trans hnd (by decide))
    have hszb := hb5.size
    clear hm hal hbm hal5 hx5 hb5
    go_wp2_with fail
    try rw [hW4]
    try rw [hW5]
    clear hW4 hW5
    go_at_call 129
    refine cC.mono ?_
    rintro e W6 ⟨⟨u, rfl, hu⟩, hb6⟩
    have hm6 := hm5.below hb6
    have hb7 := hbn.trans (hb6.mono hbn.size)
    clear cC hm5 hb6 hbn
    have hI := hu.is
    obtain ⟨a9, c9, rfl, hk9⟩ := hI.slice
    obtain ⟨N, hN⟩ : ∃ N, (l ++ d).length = N := ⟨_, rfl⟩
    have HNN := Lib.hid hN
    have hN2 : N ≤ 5100 := by rw [← hN, List.length_append]; omega
    rw [hN] at hI hk9 ⊢
    have HI := Lib.hid hI
    have HM6 := Lib.hid hm6
    have hm0 : MapK W6 W3.heap.size 0 (sumT [] ((l ++ d).take 0)) := hm6
    have HALL := Lib.hid (show ∀ t ∈ l ++ d, isNm t.p = true ∧ NumK t 12 from fun t ht => by
      rcases List.mem_append.1 ht with q | q
      · exact HQ.out.2.2.1 t q
      · exact HQ.out.2.2.2 t q)
    clear hu hm6 hN hI
    go_wp2_with fail
    go_loopw [27] (fun s wr => ∃ i : Nat, i ≤ N ∧ s = .int .i64 i ∧ MapK wr W3.heap.size i (sumT [] ((l ++ d).take i)) ∧ W6.grownBy wr (some W3.heap.size)) (fun s _ => N - (numOf' s).toNat)
    case atStart => exact ⟨0, Nat.zero_le _, rfl, hm0, World.grownBy.refl _ _⟩
    case round =>
      clear hm0
      obtain ⟨i, hi, rfl, hM, hgr⟩ := hrel
      by_cases hin : i < N
      · obtain ⟨t, ht⟩ : ∃ t, (l ++ d)[i]? = some t := ⟨_, List.getElem?_eq_getElem (by rw [HNN.out]; exact hin)⟩
        have hI := HI.out
        rw [← HNN.out] at hI
        obtain ⟨b, off, c1, e, -, p0, p1, pc⟩ := (show IsTots _ _ _ from Row.grownM HM6.out hgr hI).at ht
        simp only [HNN.out, Value.slice.injEq, true_and] at e
        obtain ⟨rfl, rfl⟩ := e
        have hc0 := pc 0 (by omega)
        have hc1 := pc 1 (by omega)
        have hc2 := pc 2 (by omega)
        have hc3 := pc 3 (by omega)
        have hc4 := pc 4 (by omega)
        have hc5 := pc 5 (by omega)
        have hc6 := pc 6 (by omega)
        have hc7 := pc 7 (by omega)
        have hc8 := pc 8 (by omega)
        have hc9 := pc 9 (by omega)
        have hc10 := pc 10 (by omega)
        have hc11 := pc 11 (by omega)
        simp only [Nat.reduceAdd] at hc0 hc1 hc2 hc3 hc4 hc5 hc6 hc7 hc8 hc9 hc10 hc11
        have hii : (i : Int) < (N : Int) := by omega
        have hb9 : Below wr.heap.size wr (wr.alloc (.cells t.arr 66)) := (Below.refl _ _).alloc (Nat.le_refl _) _
        have hy := at_new wr t.arr 66
        obtain ⟨W9, hW9⟩ : ∃ W9, wr.alloc (.cells t.arr 66) = W9 := ⟨_, rfl⟩
        rw [hW9] at hb9 hy
        unfold Tot.arr at hW9
        obtain ⟨z0, z1, z2, z3, z4, z5, z6, z7, z8, z9, z10, z11, z12, z13⟩ := box14t hy
        have hM9 := hM.below hb9
        have hgr9 := grown_below hgr hb9
        have hok := HALL.out t (List.mem_of_getElem? ht)
        have hin1 := sum_inv HQ.out.2.1 (fun t ht => (HQ.out.2.2.1 t ht).2) (fun t ht => (HQ.out.2.2.2 t ht).2) i
        have hNl : N = l.length + d.length := by rw [← HNN.out, List.length_append]
        have cA := add_w hM9 (by omega) (sumT_sort (List.Pairwise.nil)) t.p (Nat.le_trans (isNm_iff.1 hok.1).2.1 (by decide)) t.gm t.c 1 (.inl rfl) hok.2.small (hin1.small (by omega))
        have HTk := Lib.hid (show sumT [] ((l ++ d).take (i + 1)) = insT 1 ⟨t.p, t.gm, t.c⟩ (sumT [] ((l ++ d).take i)) by rw [take_snoc ht, sumT_snoc])
        clear hb9 hy hM hgr hok hin1 hNl pc ht hI hM9
        go_wp2_with fail
        try rw [hW9]
        go_at_call 130
        refine cA.mono ?_
        rintro e W10 ⟨rfl, hM10, hg10⟩
        have hgr10 := grown_trans hgr9 hg10
        rw [← HTk.out] at hM10
        clear cA hg10 hgr9 HTk hW9 p0 p1 hc0 hc1 hc2 hc3 hc4 hc5 hc6 hc7 hc8 hc9 hc10 hc11 z0 z1 z2 z3 z4 z5 z6 z7 z8 z9 z10 z11 z12 z13
        go_wp2_with fail
        go_roundw
        case rel => exact ⟨i + 1, by omega, by go_num, hM10, hgr10⟩
        case measure => simp [numOf'] <;> omega
      · obtain rfl : i = N := by omega
        rw [List.take_of_length_le (by rw [HNN.out]; exact Nat.le_refl _), sum_all HQ.out.2.1] at hM
        have hb8 : Below w.heap.size w wr := hb7.grown hgr hb7.size (fun q hq => by cases hq; exact hszb)
        have hlen := sumT_len (L := l) (ds := d)
        have cL := list_w sortsT hM (sumT_sort HQ.out.2.1) (by omega)
        clear hM hgr hb7
        go_wp2_with fail
        go_at_call 87
        refine cL.mono ?_
        rintro e W10 ⟨⟨u, rfl, hu⟩, hb9⟩
        have hb10 := hb8.trans (hb9.mono hb8.size)
        have hu10 := hu.mono hb8.size
        have hlen2 : (cleanT (sumT l d)).length ≤ 5100 := Nat.le_trans (List.length_filter_le _ _) (by omega)
        obtain ⟨L, hL⟩ : ∃ L, cleanT (sumT l d) = L := ⟨_, rfl⟩
        have HLL := Lib.hid hL
        rw [hL] at hu10 hlen2 HU2
        clear cL hu hb9 hb8 hL hlen
        obtain ⟨n, hn9⟩ : ∃ n, L.length = n := ⟨_, rfl⟩
        rw [hn9] at hlen2
        have hI9 := hu10.is
        obtain ⟨ad, cc, rfl, hkc⟩ := hI9.slice
        rw [hn9] at hkc hI9 hu10 ⊢
        have cWh := when_w (decide (4096 < (n : Int))) 5
        have cM := mapT_w hI9 (by omega)
        have hE9 : updE L = fstE [(if decide (4096 < (n : Int)) = true then 5 else 0), fstE (L.map numE)] := by
          unfold updE
          rw [hn9]
          by_cases q : 4096 < n
          · have q' : (4096 : Int) < (n : Int) := by omega
            rw [if_pos q, decide_eq_true q', if_pos rfl]; rfl
          · have q' : ¬ (4096 : Int) < (n : Int) := by omega
            rw [if_neg q, decide_eq_false q', if_neg (by decide)]
            generalize fstE (L.map numE) = f
            by_cases h : f = 0 <;> simp [h, fstE]
        obtain ⟨lt, hlt⟩ : ∃ lt : Int, (if decide (4096 < (n : Int)) = true then 5 else 0) = lt := ⟨_, rfl⟩
        obtain ⟨f, hf⟩ : ∃ f, fstE (L.map numE) = f := ⟨_, rfl⟩
        have HF9 := Lib.hid hf
        rw [hlt] at cWh hE9
        rw [hf] at hE9
        have cF2 := first2_w lt f
        obtain ⟨X, hX⟩ : ∃ X, fstE [lt, f] = X := ⟨_, rfl⟩
        rw [hX] at cF2 hE9
        have HX : Hid (X = updA l d) := Lib.hid (by rw [HU2.out, hE9])
        have HLn := Lib.hid hn9
        have HW10 := Lib.hid hu10
        clear hlt hf hX hE9 HU2 hn9 hI9 hu10
        go_wp2_with fail
        go_at_call 113
        refine (cWh _).mono ?_
        rintro e W11 ⟨rfl, rfl⟩
        clear cWh
        go_wp2_with fail
        go_at_call 131
        refine cM.mono ?_
        rintro e W12 ⟨⟨u2, rfl, hu2⟩, hb12⟩
        have hb13 := hb10.trans (hb12.mono hb10.size)
        have hu13 := HW10.out.below hb12
        have cF1 := first_ownB hu2 (by rw [List.length_map, HLn.out]; omega)
        rw [HF9.out] at cF1
        clear cM hu2 hb12 hb10 HW10
        go_wp2_with fail
        go_at_call 88
        refine cF1.mono ?_
        rintro e W13 ⟨rfl, rfl⟩
        clear cF1
        have hal := fun o => (Below.refl W13.heap.size W13).alloc (Nat.le_refl _) o
        have hu14 := fun o => hu13.below (hal o)
        have hb14 := fun o => hb13.alloc hb13.size o
        clear hal hu13 hb13
        go_wp2_with fail
        go_at_call 88
        refine (cF2 _ _ (by simp) (by simp)).mono ?_
        rintro e W14 ⟨rfl, rfl⟩
        have hu15 := hu14 (.cells #[.int .i64 lt, .int .i64 f] 26)
        have hb15 := hb14 (.cells #[.int .i64 lt, .int .i64 f] 26)
        obtain ⟨W15, hW15⟩ : ∃ W15, W13.alloc (.cells #[.int .i64 lt, .int .i64 f] 26) = W15 := ⟨_, rfl⟩
        rw [hW15] at hu15 hb15 ⊢
        clear hu14 hb14 cF2 hW15
        by_cases hX0 : X = 0
        · have HO : Hid (UpdOk W15 w.heap.size (.slice ad n cc) X l d) := Lib.hid ⟨HX.out, by rw [if_pos hX0, HLL.out]; exact hu15⟩
          subst hX0
          clear HX hu15
          go_wp2_with fail
          go_ret2
          exact ⟨⟨_, _, rfl, HO.out⟩, hb15⟩
        · have hzz : (X != 0) = true := by simpa using hX0
          have HO : Hid (UpdOk W15 w.heap.size (.slice none 0 0) X l d) := Lib.hid ⟨HX.out, by rw [if_neg hX0]; exact OwnTots.start _ _ _⟩
          clear HX hu15
          go_wp2_with fail
          go_ret2
          exact ⟨⟨_, _, rfl, HO.out⟩, hb15⟩
  · have hzz : (z != 0) = true := by simpa using hz0
    have HO : Hid (UpdOk W3 w.heap.size (.slice none 0 0) z l d) := Lib.hid ⟨by rw [HU.out, if_neg hz0], by rw [if_neg hz0]; exact OwnTots.start _ _ _⟩
    clear HU HF
    go_wp2_with fail
    go_ret2
    exact ⟨⟨_, _, rfl, HO.out⟩, hb5⟩
end Go.Proofs.Tryz
