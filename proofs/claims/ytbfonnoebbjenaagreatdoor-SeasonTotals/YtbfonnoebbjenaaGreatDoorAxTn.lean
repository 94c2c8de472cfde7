/- Totals and differences by the season: by the kit's walk. SeasonTotals: the law returns true. DERIVED: THE SHELF's CONTRACTS AT THIS DUMP, IN PLAIN WORDS (tools/lay-plain.mjs out of 'AxShelf.lean', which tools/lay-shelf.mjs wrote): THE SAME DECLARATIONS UNDER THE SAME NAMES: 'import', 'namespace', 'open', 'def', 'theorem' AND NOTHING ELSE: no command of the shelf's: FOR A HAND-IN. Each laying: the table of numbers ('.._ren') and one theorem, a field a fact of the dump's own or the kernel's comparison; each contract: ONE APPLICATION. The sort of a row of totals by player: the library's contract at this program's instance, and what it leaves of the row. -/
import Derived.Test.YtbfonnoebbjenaaGreatDoorAxTm
import Derived.Test.YtbfonnoebbjenaaGreatDoorAxU
import Derived.Shelf.SlGeneric
import Derived.Shelf.SlSortCmp.WholeK
import Derived.Ground.SlsfProg
import Derived.Ground.NamesProg
import Derived.Test.YtbfonnoebbjenaaGreatDoorProg
import Derived.Shelf.SlSortCmp.NoneTotal
namespace Go.Proofs.Tryz
open Go Go.Am Go.RowKit Go.Op Go.Maps Go.WideMaps
set_option maxRecDepth 100000

theorem made_map (w : World) : MapK (w.alloc (.map #[] 0)) w.heap.size 0 [] := ⟨_, World.ownsMap_made w prog 9 HeldV, SpecD.nil⟩
set_option maxHeartbeats 3200000 in
theorem totals17_w (HSort : SortsT) {g : Nat → GmD} {n : Nat} {v : Value} {w : World} (h : IsGames w v g n) (hn : n ≤ 66) (hk : ∀ i, i < n → (g i).k ≤ 62 ∧ (g i).nm.length ≤ 60) :
    Calls prog 17 #[.agg #[v]] w fun e w' => (∃ u, e = .returned (.tuple #[u, .int .i64 (bookE g n)]) ∧ OwnTots w' w.heap.size 66 u (if bookE g n = 0 then gamT 1 g 0 n [] else [])) ∧ Below w.heap.size w w' := by
  have h0 := h
  obtain ⟨lv, hr, -⟩ := h0
  obtain ⟨ad, c, rfl, hnc⟩ := hr.slice
  clear hr
  have hB : Below w.heap.size w (w.alloc (.cells #[.slice ad n c] 31)) := (Below.refl _ _).alloc (Nat.le_refl _) _
  have hx := at_new w #[.slice ad n c] 31
  obtain ⟨W1, hW⟩ : ∃ W1, w.alloc (.cells #[.slice ad n c] 31) = W1 := ⟨_, rfl⟩
  rw [hW] at hB hx
  have cB := book_w (h.below hB) (Nat.le_trans hn (by decide)) (fun i hi => ⟨Nat.le_trans (hk i hi).1 (by decide), Nat.le_trans (hk i hi).2 (by decide)⟩)
  have hE := @bookE_ok g n
  obtain ⟨E, hEq⟩ : ∃ E, bookE g n = E := ⟨_, rfl⟩
  rw [hEq] at cB hE ⊢
  have HE := Lib.hid hE
  have HK := Lib.hid hk
  have HH := Lib.hid h
  have x0 := (box1 hx).1
  have hmm := @run_makeMap prog
  clear hEq hE hk h
  go_enter func17, ntmps17
  go_wp2_with fail
  try rw [hW]
  clear hW
  go_at_call 54
  refine cB.mono ?_
  rintro e W2 ⟨rfl, hb⟩
  have hB2 := hB.trans (hb.mono hB.size)
  have hx2 := hx.below hb hx.lt
  have x0 := (box1 hx2).1
  clear cB hb hB hx
  by_cases h0 : E = 0
  · subst h0
    have hok : GamesOk g n := ⟨hn, fun i hi => ⟨(HK.out i hi).1, gmE_ok ((HE.out rfl).2 i hi)⟩⟩
    have hm := made_map W2
    have hal : Below W2.heap.size W2 (W2.alloc (.map #[] 0)) := (Below.refl _ _).alloc (Nat.le_refl _) _
    have hx3 := hx2.below hal hx2.lt
    have hB3 := hB2.trans (hal.mono hB2.size)
    have hg3 := HH.out.below hB3
    have hszb := hB2.size
    obtain ⟨W3, hW3⟩ : ∃ W3, W2.alloc (.map #[] 0) = W3 := ⟨_, rfl⟩
    rw [hW3] at hm hx3 hB3 hg3
    have x1 := (box1 hx3).1
    have cA := addGames_w hg3 hok.1 hok.2 hm (Nat.le_refl _) InvT.nil (by decide) 1 (.inl rfl)
    have hnn : n * 62 ≤ 66 * 62 := Nat.mul_le_mul_right _ hn
    clear HE HK HH hal hm hx3 hg3 hok x0 hx2
    go_wp2_with fail
    try rw [hW3]
    go_at_call 86
    refine cA.mono ?_
    rintro e W4 ⟨rfl, ⟨k', hk', hM, hI⟩, hgr⟩
    have hB4 : Below w.heap.size w W4 := hB3.grown hgr hB3.size (fun q hq => by cases hq; exact hszb)
    have cL := list_w HSort hM hI.1 (Nat.le_trans hI.2.1 (by omega))
    rw [clean_pos (gamT_posT g n 0 [] (fun t ht => absurd ht List.not_mem_nil))] at cL
    clear cA hM hI hgr hB3 hB2 x1
    go_wp2_with fail
    go_at_call 87
    refine cL.mono ?_
    rintro e W5 ⟨⟨u, rfl, hu⟩, hb5⟩
    have hu5 := hu.mono hB4.size
    have hB5 := hB4.trans (hb5.mono hB4.size)
    clear cL hu hb5 hB4
    go_wp2_with fail
    go_ret2
    exact ⟨⟨_, rfl, by first | exact hu5 | (rw [if_pos rfl]; exact hu5) | simpa using hu5⟩, hB5⟩
  · have h0' : (E != 0) = true := by simpa using h0
    have hs0 : OwnTots W2 w.heap.size 66 (.slice none 0 0) [] := OwnTots.start _ _ _
    clear HE HK HH
    go_wp2_with fail
    go_ret2
    exact ⟨⟨_, rfl, by first | exact hs0 | (rw [if_neg h0]; exact hs0) | simpa [h0] using hs0⟩, hB2⟩

set_option maxHeartbeats 3200000 in
theorem diff19_w (HSort : SortsT) {g g2 : Nat → GmD} {n n2 : Nat} {v v2 : Value} {w : World} (h : IsGames w v g n) (hn : n ≤ 66) (hk : ∀ i, i < n → (g i).k ≤ 62) (h2 : IsGames w v2 g2 n2) (hn2 : n2 ≤ 66) (hk2 : ∀ i, i < n2 → (g2 i).k ≤ 62) :
    Calls prog 19 #[v, v2] w fun e w' => (∃ u, e = .returned (.tuple #[u, .int .i64 (fstE [gmsE g n, gmsE g2 n2])]) ∧ OwnTots w' w.heap.size 66 u (if fstE [gmsE g n, gmsE g2 n2] = 0 then cleanT (gamT 1 g2 0 n2 (gamT (-1) g 0 n [])) else [])) ∧ Below w.heap.size w w' := by
  have c1 := games_w h (fun i hi => Nat.le_trans (hk i hi) (by decide))
  have HH := Lib.hid (And.intro h h2)
  have HK := Lib.hid (And.intro hk hk2)
  have c2 : ∀ W, Below w.heap.size w W → Calls prog 89 #[v2] W fun e w' => e = .returned (.int .i64 (gmsE g2 n2)) ∧ Below W.heap.size W w' := fun W hW => games_w (h2.below hW) (fun i hi => Nat.le_trans (hk2 i hi) (by decide))
  have hE1 := @gmsE_ok g n
  have hE2 := @gmsE_ok g2 n2
  obtain ⟨E1, hEq1⟩ : ∃ E, gmsE g n = E := ⟨_, rfl⟩
  obtain ⟨E2, hEq2⟩ : ∃ E, gmsE g2 n2 = E := ⟨_, rfl⟩
  rw [hEq1] at c1 hE1 ⊢
  rw [hEq2] at c2 hE2 ⊢
  have HE := Lib.hid (And.intro hE1 hE2)
  have cF := first2_w E1 E2
  have hz : fstE [E1, E2] = 0 → E1 = 0 ∧ E2 = 0 := fun h => by
    unfold fstE fstE fstE at h
    by_cases q : E1 = 0
    · rw [if_pos q] at h
      by_cases q2 : E2 = 0
      · exact ⟨q, q2⟩
      · rw [if_neg q2] at h; exact absurd h q2
    · rw [if_neg q] at h; exact absurd h q
  have HZ := Lib.hid hz
  obtain ⟨E, hEq⟩ : ∃ E, fstE [E1, E2] = E := ⟨_, rfl⟩
  rw [hEq] at cF ⊢
  have HQ := Lib.hid hEq
  have hmm := @run_makeMap prog
  clear hEq1 hEq2 hE1 hE2 hz hEq h h2 hk hk2
  go_enter func19, ntmps19
  go_wp2_with fail
  go_at_call 89
  refine c1.mono ?_
  rintro e W1 ⟨rfl, hb1⟩
  clear c1
  go_wp2_with fail
  go_at_call 89
  refine (c2 _ hb1).mono ?_
  rintro e W2 ⟨rfl, hb2⟩
  have hB2 := hb1.trans (hb2.mono hb1.size)
  clear c2 hb1 hb2
  go_wp2_with fail
  go_at_call 88
  refine (cF _ _ (by simp) (by simp)).mono ?_
  rintro e W3 ⟨rfl, rfl⟩
  have hB3 := hB2.alloc hB2.size (.cells #[.int .i64 E1, .int .i64 E2] 26)
  clear cF hB2
  generalize W2.alloc (.cells #[.int .i64 E1, .int .i64 E2] 26) = W3 at hB3 ⊢
  by_cases h0 : E = 0
  · subst h0
    obtain ⟨q1, q2⟩ := HZ.out HQ.out
    have hok : GamesOk g n := ⟨hn, fun i hi => ⟨HK.out.1 i hi, gmE_ok ((HE.out.1 q1).2 i hi)⟩⟩
    have hok2 : GamesOk g2 n2 := ⟨hn2, fun i hi => ⟨HK.out.2 i hi, gmE_ok ((HE.out.2 q2).2 i hi)⟩⟩
    have hm := made_map W3
    have hal : Below W3.heap.size W3 (W3.alloc (.map #[] 0)) := (Below.refl _ _).alloc (Nat.le_refl _) _
    have hB4 := hB3.trans (hal.mono hB3.size)
    have hszb := hB3.size
    obtain ⟨W4, hW4⟩ : ∃ W4, W3.alloc (.map #[] 0) = W4 := ⟨_, rfl⟩
    rw [hW4] at hm hB4
    have cA := addGames_w (HH.out.1.below hB4) hok.1 hok.2 hm (Nat.le_refl _) InvT.nil (by decide) (-1) (.inr rfl)
    have hnn : n * 62 ≤ 66 * 62 := Nat.mul_le_mul_right _ hn
    have hnn2 : n2 * 62 ≤ 66 * 62 := Nat.mul_le_mul_right _ hn2
    have HO := Lib.hid hok2
    clear HE HK hal hm hok hok2 HZ HQ q1 q2 hB3
    go_wp2_with fail
    try rw [hW4]
    clear hW4
    go_at_call 86
    refine cA.mono ?_
    rintro e W5 ⟨rfl, ⟨k', hk', hM, hI⟩, hgr⟩
    have hB5 : Below w.heap.size w W5 := hB4.grown hgr hB4.size (fun q hq => by cases hq; exact hszb)
    have cA2 := addGames_w (HH.out.2.below hB5) HO.out.1 HO.out.2 hM hk' hI (by omega) 1 (.inl rfl)
    clear cA hM hI hgr hB4 HH
    go_wp2_with fail
    go_at_call 86
    refine cA2.mono ?_
    rintro e W6 ⟨rfl, ⟨k2, hk2, hM2, hI2⟩, hgr2⟩
    have hB6 : Below w.heap.size w W6 := hB5.grown hgr2 hB5.size (fun q hq => by cases hq; exact hszb)
    have cL := list_w HSort hM2 hI2.1 (Nat.le_trans hI2.2.1 (by omega))
    clear cA2 hM2 hI2 hgr2 hB5 HO
    go_wp2_with fail
    go_at_call 87
    refine cL.mono ?_
    rintro e W7 ⟨⟨u, rfl, hu⟩, hb7⟩
    have hu7 := hu.mono hB6.size
    have hB7 := hB6.trans (hb7.mono hB6.size)
    clear cL hu hb7 hB6
    go_wp2_with fail
    go_ret2
    exact ⟨⟨_, rfl, by first | exact hu7 | (rw [if_pos rfl]; exact hu7) | simpa using hu7⟩, hB7⟩
  · have h0' : (E != 0) = true := by simpa using h0
    have hs0 : OwnTots W3 w.heap.size 66 (.slice none 0 0) [] := OwnTots.start _ _ _
    clear HE HK HH HZ HQ
    go_wp2_with fail
    go_ret2
    exact ⟨⟨_, rfl, by first | exact hs0 | (rw [if_neg h0]; exact hs0) | simpa [h0] using hs0⟩, hB3⟩
end Go.Proofs.Tryz

namespace Go.Proofs.Tryz
open Go Go.Am Go.RowKit Go.Op
set_option maxRecDepth 100000

theorem isTots_nil (w : World) : IsTots w (.slice none 0 0) [] := Row.nil _ _ _
/-- Short lists of games are within bounds. -/
theorem ShortOk.le {N : Nat} {g : Nat → GmD} {n : Nat} (h : ShortOk N g n) : n ≤ 66 ∧ ∀ i, i < n → (g i).k ≤ 62 ∧ (g i).nm.length ≤ 60 := ⟨h.2.1, fun i hi => ⟨(h.2.2 i hi).1.2.2.2.2, (h.2.2 i hi).1.1⟩⟩
theorem fst2_zero {a b : Int} (h : fstE [a, b] = 0) : a = 0 ∧ b = 0 := by
  unfold fstE fstE fstE at h
  by_cases q : a = 0
  · rw [if_pos q] at h
    by_cases q2 : b = 0
    · exact ⟨q, q2⟩
    · rw [if_neg q2] at h; exact absurd h q2
  · rw [if_neg q] at h; exact absurd h q
set_option maxHeartbeats 6400000 in
theorem totals_law (HSort : SortsT) {w : World} (hlaid : Laid w) {v v2 : Value} {g g2 : Nat → GmD} {n n2 : Nat} (hv : IsGames w v g n) (hv2 : IsGames w v2 g2 n2) :
    Calls prog 3 #[v, v2] w fun e w' => e = .returned (.bool true) ∧ Below w.heap.size w w' := by
  have c15 := awake_w hlaid
  have HV := Lib.hid (And.intro hlaid (And.intro hv hv2))
  have c16 : ∀ W, Below w.heap.size w W → Calls prog 16 #[v, .int .i64 6] W fun e w' => AnsB e (ShortOk 6 g n) ∧ w' = W := fun W h => short_w (hv.below h) 6
  have c16b : ∀ W, Below w.heap.size w W → Calls prog 16 #[v2, .int .i64 6] W fun e w' => AnsB e (ShortOk 6 g2 n2) ∧ w' = W := fun W h => short_w (hv2.below h) 6
  clear hlaid hv hv2
  go_enter func3, ntmps3
  go_wp2_with fail
  go_at_call 15
  refine c15.mono ?_
  rintro e W1 ⟨rfl, hb⟩
  clear c15
  have c15 := awake_w (HV.out.1.below hb)
  go_wp2_with fail
  go_at_call 16
  refine (c16 _ hb).mono ?_
  rintro e W2 ⟨⟨b1, rfl, h1⟩, rfl⟩
  cases b1 with
  | false =>
    clear c16 c16b h1
    go_wp2_with fail
    go_at_call 15
    refine c15.mono ?_
    rintro e W4 ⟨rfl, hk⟩
    have hb4 := hb.trans (hk.mono hb.size)
    clear c15 hk hb
    go_wp2_with fail
    go_ret
    exact ⟨rfl, hb4⟩
  | true =>
    have hsh := h1 rfl
    clear c16 h1
    go_wp2_with fail
    go_at_call 16
    refine (c16b _ hb).mono ?_
    rintro e W3 ⟨⟨b2, rfl, h2⟩, rfl⟩
    cases b2 with
    | false =>
      clear c16b h2
      go_wp2_with fail
      go_at_call 15
      refine c15.mono ?_
      rintro e W4 ⟨rfl, hk⟩
      have hb4 := hb.trans (hk.mono hb.size)
      clear c15 hk hb
      go_wp2_with fail
      go_ret
      exact ⟨rfl, hb4⟩
    | true =>
      have hsh2 := h2 rfl
      obtain ⟨hn, hk⟩ := hsh.le
      obtain ⟨hn2, hk2⟩ := hsh2.le
      have HK := Lib.hid (And.intro hk hk2)
      have hki : ∀ i, i < n → (g i).k ≤ 1000 := fun i hi => Nat.le_trans (hk i hi).1 (by decide)
      have hki2 : ∀ i, i < n2 → (g2 i).k ≤ 1000 := fun i hi => Nat.le_trans (hk2 i hi).1 (by decide)
      have HK2 := Lib.hid (And.intro hki hki2)
      have c18 := book_of (HV.out.2.1.below hb) (Nat.le_trans hn (by decide)) hki
      clear c15 c16b h2 hsh hsh2 hk hk2 hki hki2
      go_wp2_with fail
      go_at_call 18
      refine c18.mono ?_
      rintro e W4 ⟨⟨u4, rfl, hu4⟩, hb4⟩
      have hB4 := hb.trans (hb4.mono hb.size)
      have c17 := totals17_w HSort hu4.is hn HK.out.1
      obtain ⟨T1, hT1⟩ : ∃ T, (if bookE g n = 0 then gamT 1 g 0 n [] else []) = T := ⟨_, rfl⟩
      rw [hT1] at c17
      have HT1 : Hid ((bookE g n = 0 → T1 = gamT 1 g 0 n []) ∧ (bookE g n ≠ 0 → T1 = [])) := Lib.hid ⟨fun h => by rw [← hT1, if_pos h], fun h => by rw [← hT1, if_neg h]⟩
      obtain ⟨E, hE⟩ : ∃ E, bookE g n = E := ⟨_, rfl⟩
      have HE := Lib.hid hE
      rw [hE] at c17
      clear c18 hb hb4 hu4 hT1 hE
      go_wp2_with fail
      go_at_call 17
      refine c17.mono ?_
      rintro e W5 ⟨⟨u5, rfl, hu5⟩, hb5⟩
      have hB5 := hB4.trans (hb5.mono hB4.size)
      have hu5 := hu5.is
      have c20 := own_w (HV.out.2.1.below hB5) (Nat.le_trans hn (by decide)) HK2.out.1
      clear c17 hb5 hB4
      go_wp2_with fail
      go_at_call 20
      refine c20.mono ?_
      rintro e W6 ⟨⟨u6, rfl, hu6⟩, hb6⟩
      have hB6 := hB5.trans (hb6.mono hB5.size)
      have hu5 := hu5.below hb6
      have hu6 := hu6.is
      have c20 := own_w (HV.out.2.2.below hB6) (Nat.le_trans hn2 (by decide)) HK2.out.2
      clear hb6 hB5
      go_wp2_with fail
      go_at_call 20
      refine c20.mono ?_
      rintro e W7 ⟨⟨u7, rfl, hu7⟩, hb7⟩
      have hB7 := hB6.trans (hb7.mono hB6.size)
      have hu5 := hu5.below hb7
      have hu6 := hu6.below hb7
      have hu7 := hu7.is
      have c19 := diff19_w HSort hu6 hn (fun i hi => (HK.out.1 i hi).1) hu7 hn2 (fun i hi => (HK.out.2 i hi).1)
      obtain ⟨T2, hT2⟩ : ∃ T, (if fstE [gmsE g n, gmsE g2 n2] = 0 then cleanT (gamT 1 g2 0 n2 (gamT (-1) g 0 n [])) else []) = T := ⟨_, rfl⟩
      rw [hT2] at c19
      have HT2 : Hid ((fstE [gmsE g n, gmsE g2 n2] = 0 → T2 = cleanT (gamT 1 g2 0 n2 (gamT (-1) g 0 n []))) ∧ (fstE [gmsE g n, gmsE g2 n2] ≠ 0 → T2 = [])) := Lib.hid ⟨fun h => by rw [← hT2, if_pos h], fun h => by rw [← hT2, if_neg h]⟩
      obtain ⟨F, hF⟩ : ∃ E, fstE [gmsE g n, gmsE g2 n2] = E := ⟨_, rfl⟩
      have HF := Lib.hid hF
      rw [hF] at c19
      clear c20 hb7 hB6 hT2 hF hu6 hu7
      go_wp2_with fail
      go_at_call 19
      refine c19.mono ?_
      rintro e W8 ⟨⟨u8, rfl, hu8⟩, hb8⟩
      have hB8 := hB7.trans (hb8.mono hB7.size)
      have hu5 := hu5.below hb8
      have hu8 := hu8.is
      have c21 := bookR_w (HV.out.2.1.below hB8) HK2.out.1
      rw [HE.out] at c21
      clear c19 hb8 hB7
      go_wp2_with fail
      go_at_call 21
      refine c21.mono ?_
      rintro e W9 ⟨rfl, hb9⟩
      have hB9 := hB8.trans (hb9.mono hB8.size)
      have hu5 := hu5.below hb9
      have hu8 := hu8.below hb9
      have c23 := gamesR_w (HV.out.2.1.below hB9) HK2.out.1
      obtain ⟨F1, hF1⟩ : ∃ E, gmsE g n = E := ⟨_, rfl⟩
      rw [hF1] at c23
      clear c21 hb9 hB8
      go_wp2_with fail
      go_at_call 23
      refine c23.mono ?_
      rintro e W10 ⟨rfl, hb10⟩
      have hB10 := hB9.trans (hb10.mono hB9.size)
      have hu5 := hu5.below hb10
      have hu8 := hu8.below hb10
      have c23 := gamesR_w (HV.out.2.2.below hB10) HK2.out.2
      obtain ⟨F2, hF2⟩ : ∃ E, gmsE g2 n2 = E := ⟨_, rfl⟩
      rw [hF2] at c23
      clear hb10 hB9
      go_wp2_with fail
      go_at_call 23
      refine c23.mono ?_
      rintro e W11 ⟨rfl, hb11⟩
      have hB11 := hB10.trans (hb11.mono hB10.size)
      have hu5 := hu5.below hb11
      have hu8 := hu8.below hb11
      have cF := firstR2_w F1 F2
      have hFF : fstE [F1, F2] = F := by rw [← hF1, ← hF2]; exact HF.out
      rw [hFF] at cF
      have hal : Below W11.heap.size W11 (W11.alloc (.cells #[.int .i64 F1, .int .i64 F2] 3)) := (Below.refl _ _).alloc (Nat.le_refl _) _
      have hu5 := hu5.below hal
      have hu8 := hu8.below hal
      have hB12 := hB11.trans (hal.mono hB11.size)
      clear c23 hb11 hB10 hFF hal hF1 hF2
      go_wp2_with fail
      go_at_call 22
      refine (cF _ _ (by simp) (by simp)).mono ?_
      rintro e W12 ⟨rfl, rfl⟩
      generalize W11.alloc (.cells #[.int .i64 F1, .int .i64 F2] 3) = W12 at hu5 hu8 hB12 ⊢
      clear cF hB11
      have hnn : n * 62 ≤ 66 * 62 := Nat.mul_le_mul_right _ hn
      have hnn2 : n2 * 62 ≤ 66 * 62 := Nat.mul_le_mul_right _ hn2
      have hok1 : bookE g n = 0 → GamesOk g n := fun h => ⟨hn, fun i hi => ⟨(HK.out.1 i hi).1, gmE_ok ((bookE_ok h).2 i hi)⟩⟩
      have hokg : gmsE g n = 0 → GamesOk g n := fun h => ⟨hn, fun i hi => ⟨(HK.out.1 i hi).1, gmE_ok ((gmsE_ok h).2 i hi)⟩⟩
      have hokg2 : gmsE g2 n2 = 0 → GamesOk g2 n2 := fun h => ⟨hn2, fun i hi => ⟨(HK.out.2 i hi).1, gmE_ok ((gmsE_ok h).2 i hi)⟩⟩
      have hlen1 : T1.length ≤ 10000 := by
        by_cases h0 : bookE g n = 0
        · rw [HT1.out.1 h0]
          have := (gamT_inv (s := 1) (.inl rfl) (k := n) (i := 0) (fun j _ hj => (hok1 h0).lines j (by omega)) InvT.nil).2.1
          omega
        · rw [HT1.out.2 h0]; simp
      have HL := Lib.hid (And.intro hok1 (And.intro hokg hokg2))
      have hlen2 : T2.length ≤ 10000 := by
        by_cases h0 : fstE [gmsE g n, gmsE g2 n2] = 0
        · rw [HT2.out.1 h0]
          obtain ⟨q1, q2⟩ := fst2_zero h0
          have hI := gamT_inv (s := -1) (.inr rfl) (k := n) (i := 0) (fun j _ hj => (hokg q1).lines j (by omega)) InvT.nil
          have hI2 := (gamT_inv (s := 1) (.inl rfl) (k := n2) (i := 0) (fun j _ hj => (hokg2 q2).lines j (by omega)) hI).2.1
          exact Nat.le_trans (List.length_filter_le _ _) (by omega)
        · rw [HT2.out.2 h0]; simp
      clear hok1 hokg hokg2 hnn hnn2
      go_upto_if 49 with fail
      go_cut [11] (fun s wx => IsTots wx s T1 ∧ Below W12.heap.size W12 wx)
      case first =>
        by_cases h0 : E = 0
        · subst h0
          have hT := HT1.out.1 HE.out
          have c24 := totalsR_w (HV.out.2.1.below hB12) (HL.out.1 HE.out)
          rw [← hT] at c24
          clear hT
          go_wp2_with fail
          go_at_call 24
          refine c24.mono ?_
          rintro e W13 ⟨⟨u, rfl, hu⟩, hb⟩
          have hu := hu.is
          clear c24
          go_wp2_with fail
          go_meet
          exact ⟨hu, hb⟩
        · have h0' : (E == 0) = false := by simpa using h0
          have hT : T1 = [] := HT1.out.2 (by rw [HE.out]; exact h0)
          have hn0 : IsTots W12 (.slice none 0 0) T1 := by rw [hT]; exact isTots_nil _
          clear hT
          go_wp2_with fail
          go_meet
          exact ⟨hn0, Below.refl _ _⟩
      case rest =>
        obtain ⟨hs11, hbA⟩ := hcut
        have hu5 := hu5.below hbA
        have hu8 := hu8.below hbA
        have hB13 := hB12.trans (hbA.mono hB12.size)
        clear hB12 hbA
        generalize wc = W13 at hs11 hu5 hu8 hB13 ⊢
        go_upto_if 53 with fail
        go_cut [12] (fun s wx => IsTots wx s T2 ∧ Below W13.heap.size W13 wx)
        case first =>
          by_cases h0 : F = 0
          · subst h0
            have hT := HT2.out.1 HF.out
            obtain ⟨q1, q2⟩ := fst2_zero HF.out
            have c25 := diffR_w (HV.out.2.1.below hB13) (HL.out.2.1 q1) (HV.out.2.2.below hB13) (HL.out.2.2 q2)
            rw [← hT] at c25
            clear hT q1 q2
            go_wp2_with fail
            go_at_call 25
            refine c25.mono ?_
            rintro e W14 ⟨⟨u, rfl, hu⟩, hb⟩
            have hu := hu.is
            clear c25
            go_wp2_with fail
            go_meet
            exact ⟨hu, hb⟩
          · have h0' : (F == 0) = false := by simpa using h0
            have hT : T2 = [] := HT2.out.2 (by rw [HF.out]; exact h0)
            have hn0 : IsTots W13 (.slice none 0 0) T2 := by rw [hT]; exact isTots_nil _
            clear hT
            go_wp2_with fail
            go_meet
            exact ⟨hn0, Below.refl _ _⟩
        case rest =>
          obtain ⟨hs12, hbA⟩ := hcut
          have hu5 := hu5.below hbA
          have hu8 := hu8.below hbA
          have hs11 := hs11.below hbA
          have hB14 := hB13.trans (hbA.mono hB13.size)
          clear hB13 hbA
          generalize wc = W14 at hs11 hs12 hu5 hu8 hB14 ⊢
          have c27 := sums_w hu5 hlen1
          clear hu5
          go_wp2_with fail
          go_at_call 27
          refine c27.mono ?_
          rintro e W15 ⟨⟨u, rfl, hu⟩, hb⟩
          have c26 := sameTots_w hu.is (hs11.below hb) hlen1
          have hu8 := hu8.below hb
          have hs12 := hs12.below hb
          have hB15 := hB14.trans (hb.mono hB14.size)
          clear c27 hu hs11 hb hB14
          go_wp2_with fail
          go_at_call 26
          refine c26.mono ?_
          rintro e W16 ⟨rfl, hb⟩
          have hu8 := hu8.below hb
          have hs12 := hs12.below hb
          have hB16 := hB15.trans (hb.mono hB15.size)
          have c27 := sums_w hu8 hlen2
          clear c26 hb hB15 hu8
          go_wp2_with fail
          go_at_call 27
          refine c27.mono ?_
          rintro e W17 ⟨⟨u2, rfl, hu2⟩, hb⟩
          have c26 := sameTots_w hu2.is (hs12.below hb) hlen2
          have hB17 := hB16.trans (hb.mono hB16.size)
          clear c27 hu2 hs12 hb hB16
          go_wp2_with fail
          go_at_call 26
          refine c26.mono ?_
          rintro e W18 ⟨rfl, hb⟩
          have hB18 := hB17.trans (hb.mono hB17.size)
          clear c26 hb hB17
          go_wp2_with fail
          go_ret
          exact ⟨rfl, hB18⟩
end Go.Proofs.Tryz

namespace Go.Proofs
open Go.Shelf
def Tryz.sortTSL_ren : Go.Shelf.Ren := ⟨fun | 6 => 102 | 15 => 149 | 14 => 148 | 28 => 188 | 29 => 189 | 20 => 180 | 21 => 181 | 22 => 182 | 23 => 183 | 24 => 184 | 25 => 185 | 26 => 186 | 27 => 187 | 46 => 208 | 47 => 209 | 48 => 210 | 49 => 211 | 50 => 212 | 57 => 233 | n => n, fun | 22 => 25 | 24 => 66 | 25 => 166 | 3 => 3 | 39 => 224 | 0 => 0 | 53 => 264 | 55 => 266 | 4 => 4 | 46 => 257 | 45 => 256 | 50 => 261 | 5 => 5 | 9 => 9 | 66 => 278 | 70 => 282 | 76 => 297 | 77 => 298 | n => n, fun | n => n⟩
theorem Tryz.sortTSL : Go.Proofs.SlLaysF0.n6 Tryz.prog Tryz.sortTSL_ren := {
  mixed := by kernel_rfl
  f6 := ⟨Tryz.f102.name, by decide, Tryz.func102.trans (congrArg some (by kernel_rfl))⟩
  f14 := ⟨Tryz.f148.name, by decide, Tryz.func148.trans (congrArg some (by kernel_rfl))⟩
  f15 := Tryz.func149.trans (congrArg some (by kernel_rfl))
  f20 := ⟨Tryz.f180.name, by decide, Tryz.func180.trans (congrArg some (by kernel_rfl))⟩
  f21 := ⟨Tryz.f181.name, by decide, Tryz.func181.trans (congrArg some (by kernel_rfl))⟩
  f22 := ⟨Tryz.f182.name, by decide, Tryz.func182.trans (congrArg some (by kernel_rfl))⟩
  f23 := ⟨Tryz.f183.name, by decide, Tryz.func183.trans (congrArg some (by kernel_rfl))⟩
  f24 := ⟨Tryz.f184.name, by decide, Tryz.func184.trans (congrArg some (by kernel_rfl))⟩
  f25 := ⟨Tryz.f185.name, by decide, Tryz.func185.trans (congrArg some (by kernel_rfl))⟩
  f26 := ⟨Tryz.f186.name, by decide, Tryz.func186.trans (congrArg some (by kernel_rfl))⟩
  f27 := ⟨Tryz.f187.name, by decide, Tryz.func187.trans (congrArg some (by kernel_rfl))⟩
  f28 := Tryz.func188.trans (congrArg some (by kernel_rfl))
  f29 := Tryz.func189.trans (congrArg some (by kernel_rfl))
  f46 := ⟨Tryz.f208.name, by decide, Tryz.func208.trans (congrArg some (by kernel_rfl))⟩
  f47 := Tryz.func209.trans (congrArg some (by kernel_rfl))
  f48 := Tryz.func210.trans (congrArg some (by kernel_rfl))
  f49 := ⟨Tryz.f211.name, by decide, Tryz.func211.trans (congrArg some (by kernel_rfl))⟩
  f50 := ⟨Tryz.f212.name, by decide, Tryz.func212.trans (congrArg some (by kernel_rfl))⟩
  f57 := ⟨Tryz.f233.name, by decide, Tryz.func233.trans (congrArg some (by kernel_rfl))⟩
  t0 := Tryz.underlying0
  a0 := Tryz.isAgg0
  z0 := Tryz.sizeOf0
  v0 := Tryz.zeroValue0
  t3 := Tryz.underlying3
  a3 := Tryz.isAgg3
  z3 := Tryz.sizeOf3
  v3 := Tryz.zeroValue3
  t4 := Tryz.underlying4
  a4 := Tryz.isAgg4
  z4 := Tryz.sizeOf4
  v4 := Tryz.zeroValue4
  t5 := Tryz.underlying5
  a5 := Tryz.isAgg5
  z5 := Tryz.sizeOf5
  v5 := Tryz.zeroValue5
  t9 := Tryz.underlying9
  a9 := Tryz.isAgg9
  z9 := Tryz.sizeOf9
  v9 := Tryz.zeroValue9
  t22 := Tryz.underlying25
  a22 := Tryz.isAgg25
  z22 := Tryz.sizeOf25
  v22 := Tryz.zeroValue25
  t25 := Tryz.underlying166
  a25 := Tryz.isAgg166
  z25 := Tryz.sizeOf166
  v25 := Tryz.zeroValue166
  t39 := Tryz.underlying224
  a39 := Tryz.isAgg224
  z39 := Tryz.sizeOf224
  v39 := Tryz.zeroValue224
  t45 := Tryz.underlying256
  a45 := Tryz.isAgg256
  z45 := Tryz.sizeOf256
  v45 := Tryz.zeroValue256
  t46 := Tryz.underlying257
  a46 := Tryz.isAgg257
  z46 := Tryz.sizeOf257
  v46 := Tryz.zeroValue257
  t50 := Tryz.underlying261
  a50 := Tryz.isAgg261
  z50 := Tryz.sizeOf261
  v50 := Tryz.zeroValue261
  t53 := Tryz.underlying264
  a53 := Tryz.isAgg264
  z53 := Tryz.sizeOf264
  v53 := Tryz.zeroValue264
  t55 := Tryz.underlying266
  a55 := Tryz.isAgg266
  z55 := Tryz.sizeOf266
  v55 := Tryz.zeroValue266
  t66 := Tryz.underlying278
  a66 := Tryz.isAgg278
  z66 := Tryz.sizeOf278
  v66 := Tryz.zeroValue278
  t70 := Tryz.underlying282
  a70 := Tryz.isAgg282
  z70 := Tryz.sizeOf282
  v70 := Tryz.zeroValue282
  t76 := Tryz.underlying297
  a76 := Tryz.isAgg297
  z76 := Tryz.sizeOf297
  v76 := Tryz.zeroValue297
  t77 := Tryz.underlying298
  a77 := Tryz.isAgg298
  z77 := Tryz.sizeOf298
  v77 := Tryz.zeroValue298 }
end Go.Proofs

namespace Go.Proofs.Tryz
open Go Go.Am Go.RowKit Go.Op
set_option maxRecDepth 100000

instance : Inhabited Tot := ⟨tot0⟩
def cfT (x y : Tot) : Int := cmpS x.p y.p
theorem ltT (x y : Tot) : ltOf cfT x y = bytesLess x.p y.p := by
  unfold ltOf cfT cmpS
  cases h : bytesLess x.p y.p
  · by_cases h2 : (x.p == y.p) = true <;> simp [h2]
  · simp
theorem swoT : Go.Sort.SWO (ltOf cfT) := by
  refine ⟨fun x => by rw [ltT, bl_irrefl], fun x y z h1 h2 => ?_, fun x y z h1 h2 => ?_⟩
  · rw [ltT] at *; exact bl_trans h1 h2
  · rw [ltT] at *
    cases h : bytesLess x.p z.p with
    | false => rfl
    | true =>
      cases h3 : bytesLess y.p x.p with
      | true => have := bl_trans h3 h; rw [h2] at this; cases this
      | false => have e := bl_tri h1 h3; rw [← e, h] at h2; cases h2

set_option maxHeartbeats 1600000 in
theorem closure143 (x y : Tot) (W : World) : Calls prog 143 #[.agg x.cells.toArray, .agg y.cells.toArray] W fun e w' => e = .returned (.int .i64 (cfT x y)) ∧ ∃ q os', w' = Go.Sort.grow (W.drewN q) os' := by
  have hcon := fun W' => cmpS_w x.p y.p W'
  unfold cfT
  generalize cmpS x.p y.p = r at hcon ⊢
  rw [Tot.arr_eq, Tot.arr_eq]
  unfold Tot.arr
  go_enter func143, ntmps143
  go_wp2_with (go_at_call 105; refine (hcon _).mono ?_; rintro e w' ⟨rfl, rfl⟩)
  go_ret
  exact ⟨rfl, 0, _, by rw [Go.Sort.alloc_eq_grow, Go.Sort.alloc_eq_grow, Go.Sort.grow_grow]; rfl⟩

theorem flatR_length {m : Nat} : ∀ {l : List (List Value)}, (∀ y ∈ l, y.length = m) → (flatR l).length = l.length * m
  | [], _ => by simp [flatR]
  | y :: l, h => by
    have ih := flatR_length (l := l) fun z hz => h z (by simp [hz])
    have hy := h y (by simp)
    show (y ++ flatR l).length = _
    rw [List.length_append, ih, hy, List.length_cons, Nat.add_mul]; omega
theorem cells_len (l : List Tot) : ∀ y ∈ l.map Tot.cells, y.length = 14 := fun y hy => by
  obtain ⟨t, -, rfl⟩ := List.mem_map.1 hy
  exact Tot.len t
/-- The flat row, place by place. -/
theorem flat_at (l : List Tot) {j : Nat} (hj : j < l.length * 14) : (flatR (l.map Tot.cells))[j]? = some (Go.Sort.flatK Tot.cells 14 l.toArray)[j]! := by
  have h1 : j / 14 < l.length := by omega
  have h2 : j % 14 < 14 := Nat.mod_lt _ (by decide)
  rw [Go.Sort.get_flatK _ _ _ _ (by simpa using hj)]
  have hx : (l.map Tot.cells)[j / 14]? = some l[j / 14].cells := by rw [List.getElem?_map, List.getElem?_eq_getElem h1]; rfl
  have hl : j % 14 < l[j / 14].cells.length := by rw [Tot.len]; exact h2
  have hu : l[j / 14].cells[j % 14]? = some l[j / 14].cells[j % 14] := List.getElem?_eq_getElem hl
  have h3 := flatR_get (cells_len l) hx hu
  have e : j / 14 * 14 + j % 14 = j := Nat.div_add_mod' j 14
  rw [e] at h3
  rw [h3]
  have e2 : (l.toArray)[j / 14]! = l[j / 14] := by rw [getElem!_pos l.toArray (j / 14) (by simpa using h1)]; simp
  rw [e2, getElem!_pos l[j / 14].cells (j % 14) hl]
theorem holdsT {W : World} {base g cap : Nat} {l : List Tot} (h : OwnTots W base 66 (.slice (some ⟨g, 0, none⟩) l.length cap) l) : Go.Sort.HoldsK Tot.cells 14 W g 0 l.toArray := by
  intro j hj
  have hj' : j < l.length * 14 := by simpa using hj
  have h1 : j / 14 < l.length := by omega
  have h2 : j % 14 < 14 := Nat.mod_lt _ (by decide)
  have hx : (l.map Tot.cells)[j / 14]? = some l[j / 14].cells := by rw [List.getElem?_map, List.getElem?_eq_getElem h1]; rfl
  have hl : j % 14 < l[j / 14].cells.length := by rw [Tot.len]; exact h2
  have hu : l[j / 14].cells[j % 14]? = some l[j / 14].cells[j % 14] := List.getElem?_eq_getElem hl
  have hc := OwnRow.cell h hx hu
  have h3 := flatR_get (cells_len l) hx hu
  have e : j / 14 * 14 + j % 14 = j := Nat.div_add_mod' j 14
  rw [e] at hc h3
  rw [flat_at l hj'] at h3
  rw [Nat.zero_add, Option.some.inj h3]
  exact hc
theorem put_block {W : World} {g n : Nat} {cur : Array Value} {l : List Tot} {os : Array Obj} (h : W.heap[g]? = some (.cells cur 66 (0, 0))) :
    (Go.Sort.grow (Go.Sort.putRowK Tot.cells 14 (Go.Sort.ahead W n) g 0 l.toArray) os).heap[g]? = some (.cells (Go.Sort.putCells id 0 (Go.Sort.flatK Tot.cells 14 l.toArray) cur) 66 (0, 0)) := by
  have hlt := (Array.getElem?_eq_some_iff.1 h).1
  show ((W.heap.modify g _) ++ os)[g]? = _
  rw [Array.getElem?_append_left (by simpa using hlt), Array.getElem?_modify, h]
  simp [Go.Sort.onCells]
theorem put_other {W : World} {g n i : Nat} {d : Array Tot} {os : Array Obj} (hi : i < W.heap.size) (hne : i ≠ g) :
    (Go.Sort.grow (Go.Sort.putRowK Tot.cells 14 (Go.Sort.ahead W n) g 0 d) os).heap[i]? = W.heap[i]? := by
  show ((W.heap.modify g _) ++ os)[i]? = _
  rw [Array.getElem?_append_left (by simpa using hi), Array.getElem?_modify, if_neg (fun e => hne e.symm)]
theorem putT {W : World} {base g cap n : Nat} {l l' : List Tot} {os : Array Obj} (h : OwnTots W base 66 (.slice (some ⟨g, 0, none⟩) l.length cap) l) (hl : l'.length = l.length) :
    OwnTots (Go.Sort.grow (Go.Sort.putRowK Tot.cells 14 (Go.Sort.ahead W n) g 0 l'.toArray) os) base 66 (.slice (some ⟨g, 0, none⟩) l.length cap) l' := by
  rcases h.1.2 with ⟨e0, h0⟩ | ⟨g', cap', cur, e0, h1, h2, h3, h4, h5, h6⟩
  · cases e0
  · simp only [Value.slice.injEq, Option.some.injEq, Addr.mk.injEq, and_true] at e0
    obtain ⟨rfl, -, rfl⟩ := e0
    rw [List.length_map] at h3
    have hlen := flatR_length (cells_len l')
    rw [List.length_map] at hlen
    refine ⟨⟨by rw [List.length_map]; exact hlen, .inr ⟨g, cap, Go.Sort.putCells id 0 (Go.Sort.flatK Tot.cells 14 l'.toArray) cur, by rw [List.length_map, hl], h1, put_block h2, by rw [List.length_map, hl]; exact h3, h4, by simpa [Go.Sort.putCells] using h5, ?_⟩⟩, cells_len l'⟩
    rw [List.length_map]
    apply List.ext_getElem?
    intro k
    have hcs : l'.length * 14 ≤ cur.size := by rw [h5, hl]; exact Nat.mul_le_mul_right _ h3
    by_cases hk : k < l'.length * 14
    · rw [flat_at l' hk, List.getElem?_take_of_lt hk, Array.getElem?_toList]
      have hkc : k < cur.size := Nat.lt_of_lt_of_le hk hcs
      simp only [Go.Sort.putCells, Array.getElem?_mapIdx, Array.getElem?_eq_getElem hkc, Option.map_some]
      rw [if_pos ⟨Nat.zero_le _, by simpa using hk⟩]
      simp
    · have hz : (flatR (l'.map Tot.cells))[k]? = none := List.getElem?_eq_none (by rw [hlen]; omega)
      rw [hz, List.getElem?_eq_none (by rw [List.length_take]; omega)]
theorem keepsT {W : World} {base g n : Nat} {d : Array Tot} {os : Array Obj} (hg : base ≤ g) : Keeps base W (Go.Sort.grow (Go.Sort.putRowK Tot.cells 14 (Go.Sort.ahead W n) g 0 d) os) := fun w0 h0 hb => by
  refine ⟨h0.os, h0.tape, h0.output, ?_, fun i hi => ?_⟩
  · have := h0.size
    rw [Go.Sort.size_grow]
    show w0.heap.size ≤ (Go.Sort.putRow id (Go.Sort.ahead W n) g 0 _).heap.size + _
    rw [Go.Sort.size_putRow]
    exact Nat.le_trans this (Nat.le_add_right _ _)
  · rw [put_other (Nat.lt_of_lt_of_le hi h0.size) (by omega)]
    exact h0.block i hi
theorem sorted_list {d' : Array Tot} {l : List Tot} (hp : Go.Sort.PermIn 0 l.toArray.size l.toArray d') (hs : Go.Sort.SortedIn (ltOf cfT) 0 l.toArray.size d') (hn : l.Pairwise fun a b => a.p ≠ b.p) : d'.toList.Perm l ∧ SortT d'.toList ∧ d'.toList.length = l.length := by
  obtain ⟨h1, -, h3⟩ := hp
  have e0 : d'.size = l.length := by simpa using h1
  have e1 : d'.extract 0 l.toArray.size = d' := by rw [← h1]; simp
  have e2 : l.toArray.extract 0 l.toArray.size = l.toArray := by simp
  rw [e1, e2] at h3
  have hpm : d'.toList.Perm l := h3
  refine ⟨hpm, ?_, by simpa using e0⟩
  have hn' : d'.toList.Pairwise fun a b => a.p ≠ b.p := (List.Perm.pairwise_iff (fun {a b} h => Ne.symm h) hpm).2 hn
  unfold SortT
  rw [List.pairwise_iff_getElem] at hn' ⊢
  intro i j hi hj hij
  have hd := hn' i j hi hj hij
  have hi' : i < d'.size := by simpa using hi
  have hj' : j < d'.size := by simpa using hj
  have := hs i j (Nat.zero_le _) hij (by rw [← h1]; exact hj')
  rw [ltT, getElem!_pos d' i hi', getElem!_pos d' j hj'] at this
  simp only [Array.getElem_toList] at hd ⊢
  cases h : bytesLess d'[i].p d'[j].p with
  | true => rfl
  | false => exact absurd (bl_tri h this) hd

theorem sortsT : SortsT := fun W base v l h hn hd => by
  rcases h.1.2 with ⟨rfl, h0⟩ | ⟨g, cap, cur, rfl, h1, h2, h3, h4, h5, h6⟩
  · have hl : l = [] := by simpa using h0
    subst hl
    have hcon := AnyF.slices_SortFunc_none sortTSL none 0 (.func (.func 143) #[] #[]) W
    change Calls prog 102 _ _ _ at hcon
    refine hcon.mono ?_
    rintro e w' ⟨rfl, rfl⟩
    exact ⟨rfl, [], List.Perm.refl _, List.Pairwise.nil, h, Keeps.refl _ _⟩
  · rw [List.length_map] at h h3 ⊢
    have hlt : g < W.heap.size := (Array.getElem?_eq_some_iff.1 h2).1
    have eg : ∀ args w, (callFunc 143 args).run prog w = .ok (.enter 143 args) w := enters_of func143 (by kernel_rfl) rfl
    have hcon := AnyQ.slices_SortFunc sortTSL 14 isAgg66 sizeOf66 Tot.cells Tot.len Tot.one cfT swoT 143 #[] g 0 cap l.toArray W eg (fun _ _ _ _ x y => closure143 x y _) (holdsT h) hlt (by simp; omega)
    change Calls prog 102 _ _ _ at hcon
    rw [List.size_toArray] at hcon
    refine hcon.mono ?_
    rintro e w' ⟨rfl, d', n, os, hp, hs, rfl⟩
    obtain ⟨q1, q2, q3⟩ := sorted_list hp hs hd
    exact ⟨rfl, d'.toList, q1, q2, putT (n := n) (os := os) h q3, keepsT h1⟩
#print axioms sortsT
end Go.Proofs.Tryz
