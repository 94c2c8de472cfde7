/- Short lists of totals, as the reference sees them: by the kit's walk. SeasonTotals: the law returns true. The law of SeasonUpdates: by the kit's walk. On the season seat: totals that are handed, opened. -/
import Derived.Test.YtbfonnoebbjenaaGreatDoorAxUa
import Derived.Test.YtbfonnoebbjenaaGreatDoorAxTm
import Derived.Test.YtbfonnoebbjenaaGreatDoorAxTn
import Derived.Test.YtbfonnoebbjenaaGreatDoorAxG
import Derived.Test.YtbfonnoebbjenaaGreatDoorAxTb
namespace Go.Proofs.Tryz
open Go Go.Am Go.RowKit Go.Op
set_option maxRecDepth 100000

/-- What ShortTotals lets pass. -/
def ShortT (N : Nat) (l : List Tot) : Prop := ¬ (N < l.length ∧ l.length ≤ 4096) ∧ l.length ≤ 4098
set_option maxHeartbeats 3200000 in
theorem shortT_w {l : List Tot} {v : Value} {w : World} (h : IsTots w v l) (N : Nat) :
    Calls prog 28 #[v, .int .i64 (N : Int)] w fun e w' => AnsB e (ShortT N l) ∧ w' = w := by
  have h0 := h
  obtain ⟨ad, c, rfl, hnc⟩ := h0.slice
  obtain ⟨n, hln⟩ : ∃ n, l.length = n := ⟨_, rfl⟩
  have HL := Lib.hid hln
  have HP : Hid (∀ p, AnsB p (ShortT N l) = AnsB p (¬ (N < n ∧ n ≤ 4096) ∧ n ≤ 4098)) := Lib.hid fun p => by unfold ShortT; rw [hln]
  rw [hln] at hnc ⊢
  have HP2 : (fun (e : Ending) (w' : World) => AnsB e (ShortT N l) ∧ w' = w) = fun e w' => AnsB e (¬ (N < n ∧ n ≤ 4096) ∧ n ≤ 4098) ∧ w' = w := by funext e w'; rw [HP.out]
  rw [HP2]
  clear hln HP HP2 h0
  go_enter func28, ntmps28
  obtain ⟨bad, hbad⟩ : ∃ b, decide ((N < n ∧ n ≤ 4096) ∨ 4098 < n) = b := ⟨_, rfl⟩
  go_upto_region 1 with fail
  go_cut [19] (fun s wx => s = .bool bad ∧ wx = w)
  case first =>
    by_cases q1 : N < n
    · have q1' : (N : Int) < (n : Int) := by omega
      by_cases q2 : n ≤ 4096
      · have q2' : (n : Int) ≤ 4096 := by omega
        obtain rfl : true = bad := by rw [← hbad]; symm; rw [decide_eq_true_eq]; omega
        clear q1 q2 hbad
        go_wp2_with fail
        go_meet
        exact ⟨rfl, rfl⟩
      · have q2' : ¬ (n : Int) ≤ 4096 := by omega
        by_cases q3 : n ≤ 4098
        · have q3' : ¬ (4098 : Int) < (n : Int) := by omega
          obtain rfl : false = bad := by rw [← hbad]; symm; rw [decide_eq_false_iff_not]; omega
          clear q1 q2 q3 hbad
          go_wp2_with fail
          go_meet
          exact ⟨rfl, rfl⟩
        · have q3' : (4098 : Int) < (n : Int) := by omega
          obtain rfl : true = bad := by rw [← hbad]; symm; rw [decide_eq_true_eq]; omega
          clear q1 q2 q3 hbad
          go_wp2_with fail
          go_meet
          exact ⟨rfl, rfl⟩
    · have q1' : ¬ (N : Int) < (n : Int) := by omega
      by_cases q3 : n ≤ 4098
      · have q3' : ¬ (4098 : Int) < (n : Int) := by omega
        obtain rfl : false = bad := by rw [← hbad]; symm; rw [decide_eq_false_iff_not]; omega
        clear q1 q3 hbad
        go_wp2_with fail
        go_meet
        exact ⟨rfl, rfl⟩
      · have q3' : (4098 : Int) < (n : Int) := by omega
        obtain rfl : true = bad := by rw [← hbad]; symm; rw [decide_eq_true_eq]; omega
        clear q1 q3 hbad
        go_wp2_with fail
        go_meet
        exact ⟨rfl, rfl⟩
  case rest =>
    obtain ⟨rfl, rfl⟩ := hcut
    cases bad with
    | true =>
      clear hbad
      go_wp2_with fail
      go_ret
      exact ⟨⟨_, rfl, fun h => by cases h⟩, rfl⟩
    | false =>
    rw [decide_eq_false_iff_not] at hbad
    have hn66 : n ≤ 4098 := by omega
    have HQ : Hid (¬ (N < n ∧ n ≤ 4096) ∧ n ≤ 4098) := Lib.hid ⟨fun h => hbad (.inl h), hn66⟩
    clear hbad
    go_wp2_with fail
    go_loopw [5] (fun s wr => ∃ i : Nat, i ≤ n ∧ s = .int .i64 i ∧ wr = wc) (fun s _ => n - (numOf' s).toNat)
    case atStart => exact ⟨0, Nat.zero_le _, rfl, rfl⟩
    case round =>
      obtain ⟨i, hi, rfl, rfl⟩ := hrel
      by_cases hin : i < n
      · have hii : (i : Int) < (n : Int) := by omega
        by_cases h100 : i < 100
        · have h100' : (i : Int) < 100 := by omega
          obtain ⟨t, ht⟩ : ∃ t, l[i]? = some t := ⟨_, List.getElem?_eq_getElem (by rw [HL.out]; exact hin)⟩
          obtain ⟨b, off, c1, e, -, p0, -, -⟩ := h.at ht
          simp only [HL.out, Value.slice.injEq, true_and] at e
          obtain ⟨rfl, rfl⟩ := e
          have s0 : (bA t.p).size = t.p.length := bA_size _
          clear ht
          by_cases q1 : 60 < t.p.length
          · have q1' : (60 : Int) < (t.p.length : Int) := by omega
            clear q1
            go_wp2_with fail
            go_ret
            exact ⟨⟨_, rfl, fun h => by cases h⟩, rfl⟩
          · have q1' : ¬ (60 : Int) < (t.p.length : Int) := by omega
            clear q1
            go_wp2_with fail
            go_roundw
            case rel => exact ⟨i + 1, by omega, by go_num, by first | trivial | rfl | assumption⟩
            case measure => simp [numOf'] <;> omega
        · have h100' : ¬ (i : Int) < 100 := by omega
          go_wp2_with fail
          go_ret
          exact ⟨⟨_, rfl, fun _ => by have := HQ.out; first | exact this | (intros; omega)⟩, rfl⟩
      · obtain rfl : i = n := by omega
        go_wp2_with fail
        go_ret
        exact ⟨⟨_, rfl, fun _ => by have := HQ.out; first | exact this | (intros; omega)⟩, rfl⟩
end Go.Proofs.Tryz

namespace Go.Proofs.Tryz
open Go Go.Am Go.RowKit Go.Op
set_option maxRecDepth 100000

theorem isTots_nil (w : World) : IsTots w (.slice none 0 0) [] := Row.nil _ _ _
/-- Short lists of games are within bounds. -/
theorem ShortOk.le {N : Nat} {g : Nat → GmD} {n : Nat} (h : ShortOk N g n) : n ≤ 66 ∧ ∀ i, i < n → (g i).k ≤ 62 ∧ (g i).nm.length ≤ 60 := ⟨h.2.1, fun i hi => ⟨(h.2.2 i hi).1.2.2.2.2, (h.2.2 i hi).1.1⟩⟩
theorem fst2_zero {a b : Int} (h : fstE [a, b] = 0) : a = 0 ∧ b = 0 := by
  unfold fstE fstE fstE at h
  by_cases q : a = 0
  · rw [if_pos q] at h
    by_cases q2 : b = 0
    · exact ⟨q, q2⟩
    · rw [if_neg q2] at h; exact absurd h q2
  · rw [if_neg q] at h; exact absurd h q
set_option maxHeartbeats 6400000 in
theorem totals_law (HSort : SortsT) {w : World} (hlaid : Laid w) {v v2 : Value} {g g2 : Nat → GmD} {n n2 : Nat} (hv : IsGames w v g n) (hv2 : IsGames w v2 g2 n2) :
    Calls prog 3 #[v, v2] w fun e w' => e = .returned (.bool true) ∧ Below w.heap.size w w' := by
  have c15 := awake_w hlaid
  have HV := Lib.hid (And.intro hlaid (And.intro hv hv2))
  have c16 : ∀ W, Below w.heap.size w W → Calls prog 16 #[v, .int .i64 6] W fun e w' => AnsB e (ShortOk 6 g n) ∧ w' = W := fun W h => short_w (hv.below h) 6
  have c16b : ∀ W, Below w.heap.size w W → Calls prog 16 #[v2, .int .i64 6] W fun e w' => AnsB e (ShortOk 6 g2 n2) ∧ w' = W := fun W h => short_w (hv2.below h) 6
  clear hlaid hv hv2
  go_enter func3, ntmps3
  go_wp2_with fail
  go_at_call 15
  refine c15.mono ?_
  rintro e W1 ⟨rfl, hb⟩
  clear c15
  have c15 := awake_w (HV.out.1.below hb)
  go_wp2_with fail
  go_at_call 16
  refine (c16 _ hb).mono ?_
  rintro e W2 ⟨⟨b1, rfl, h1⟩, rfl⟩
  cases b1 with
  | false =>
    clear c16 c16b h1
    go_wp2_with fail
    go_at_call 15
    refine c15.mono ?_
    rintro e W4 ⟨rfl, hk⟩
    have hb4 := hb.trans (hk.mono hb.size)
    clear c15 hk hb
    go_wp2_with fail
    go_ret
    exact ⟨rfl, hb4⟩
  | true =>
    have hsh := h1 rfl
    clear c16 h1
    go_wp2_with fail
    go_at_call 16
    refine (c16b _ hb).mono ?_
    rintro e W3 ⟨⟨b2, rfl, h2⟩, rfl⟩
    cases b2 with
    | false =>
      clear c16b h2
      go_wp2_with fail
      go_at_call 15
      refine c15.mono ?_
      rintro e W4 ⟨rfl, hk⟩
      have hb4 := hb.trans (hk.mono hb.size)
      clear c15 hk hb
      go_wp2_with fail
      go_ret
      exact ⟨rfl, hb4⟩
    | true =>
      have hsh2 := h2 rfl
      obtain ⟨hn, hk⟩ := hsh.le
      obtain ⟨hn2, hk2⟩ := hsh2.le
      have HK := Lib.hid (And.intro hk hk2)
      have hki : ∀ i, i < n → (g i).k ≤ 1000 := fun i hi => Nat.le_trans (hk i hi).1 (by decide)
      have hki2 : ∀ i, i < n2 → (g2 i).k ≤ 1000 := fun i hi => Nat.le_trans (hk2 i hi).1 (by decide)
      have HK2 := Lib.hid (And.intro hki hki2)
      have c18 := book_of (HV.out.2.1.below hb) (Nat.le_trans hn (by decide)) hki
      clear c15 c16b h2 hsh hsh2 hk hk2 hki hki2
      go_wp2_with fail
      go_at_call 18
      refine c18.mono ?_
      rintro e W4 ⟨⟨u4, rfl, hu4⟩, hb4⟩
      have hB4 := hb.trans (hb4.mono hb.size)
      have c17 := totals17_w HSort hu4.is hn HK.out.1
      obtain ⟨T1, hT1⟩ : ∃ T, (if bookE g n = 0 then gamT 1 g 0 n [] else []) = T := ⟨_, rfl⟩
      rw [hT1] at c17
      have HT1 : Hid ((bookE g n = 0 → T1 = gamT 1 g 0 n []) ∧ (bookE g n ≠ 0 → T1 = [])) := Lib.hid ⟨fun h => by rw [← hT1, if_pos h], fun h => by rw [← hT1, if_neg h]⟩
      obtain ⟨E, hE⟩ : ∃ E, bookE g n = E := ⟨_, rfl⟩
      have HE := Lib.hid hE
      rw [hE] at c17
      clear c18 hb hb4 hu4 hT1 hE
      go_wp2_with fail
      go_at_call 17
      refine c17.mono ?_
      rintro e W5 ⟨⟨u5, rfl, hu5⟩, hb5⟩
      have hB5 := hB4.trans (hb5.mono hB4.size)
      have hu5 := hu5.is
      have c20 := own_w (HV.out.2.1.below hB5) (Nat.le_trans hn (by decide)) HK2.out.1
      clear c17 hb5 hB4
      go_wp2_with fail
      go_at_call 20
      refine c20.mono ?_
      rintro e W6 ⟨⟨u6, rfl, hu6⟩, hb6⟩
      have hB6 := hB5.trans (hb6.mono hB5.size)
      have hu5 := hu5.below hb6
      have hu6 := hu6.is
      have c20 := own_w (HV.out.2.2.below hB6) (Nat.le_trans hn2 (by decide)) HK2.out.2
      clear hb6 hB5
      go_wp2_with fail
      go_at_call 20
      refine c20.mono ?_
      rintro e W7 ⟨⟨u7, rfl, hu7⟩, hb7⟩
      have hB7 := hB6.trans (hb7.mono hB6.size)
      have hu5 := hu5.below hb7
      have hu6 := hu6.below hb7
      have hu7 := hu7.is
      have c19 := diff19_w HSort hu6 hn (fun i hi => (HK.out.1 i hi).1) hu7 hn2 (fun i hi => (HK.out.2 i hi).1)
      obtain ⟨T2, hT2⟩ : ∃ T, (if fstE [gmsE g n, gmsE g2 n2] = 0 then cleanT (gamT 1 g2 0 n2 (gamT (-1) g 0 n [])) else []) = T := ⟨_, rfl⟩
      rw [hT2] at c19
      have HT2 : Hid ((fstE [gmsE g n, gmsE g2 n2] = 0 → T2 = cleanT (gamT 1 g2 0 n2 (gamT (-1) g 0 n []))) ∧ (fstE [gmsE g n, gmsE g2 n2] ≠ 0 → T2 = [])) := Lib.hid ⟨fun h => by rw [← hT2, if_pos h], fun h => by rw [← hT2, if_neg h]⟩
      obtain ⟨F, hF⟩ : ∃ E, fstE [gmsE g n, gmsE g2 n2] = E := ⟨_, rfl⟩
      have HF := Lib.hid hF
      rw [hF] at c19
      clear c20 hb7 hB6 hT2 hF hu6 hu7
      go_wp2_with fail
      go_at_call 19
      refine c19.mono ?_
      rintro e W8 ⟨⟨u8, rfl, hu8⟩, hb8⟩
      have hB8 := hB7.trans (hb8.mono hB7.size)
      have hu5 := hu5.below hb8
      have hu8 := hu8.is
      have c21 := bookR_w (HV.out.2.1.below hB8) HK2.out.1
      rw [HE.out] at c21
      clear c19 hb8 hB7
      go_wp2_with fail
      go_at_call 21
      refine c21.mono ?_
      rintro e W9 ⟨rfl, hb9⟩
      have hB9 := hB8.trans (hb9.mono hB8.size)
      have hu5 := hu5.below hb9
      have hu8 := hu8.below hb9
      have c23 := gamesR_w (HV.out.2.1.below hB9) HK2.out.1
      obtain ⟨F1, hF1⟩ : ∃ E, gmsE g n = E := ⟨_, rfl⟩
      rw [hF1] at c23
      clear c21 hb9 hB8
      go_wp2_with fail
      go_at_call 23
      refine c23.mono ?_
      rintro e W10 ⟨rfl, hb10⟩
      have hB10 := hB9.trans (hb10.mono hB9.size)
      have hu5 := hu5.below hb10
      have hu8 := hu8.below hb10
      have c23 := gamesR_w (HV.out.2.2.below hB10) HK2.out.2
      obtain ⟨F2, hF2⟩ : ∃ E, gmsE g2 n2 = E := ⟨_, rfl⟩
      rw [hF2] at c23
      clear hb10 hB9
      go_wp2_with fail
      go_at_call 23
      refine c23.mono ?_
      rintro e W11 ⟨rfl, hb11⟩
      have hB11 := hB10.trans (hb11.mono hB10.size)
      have hu5 := hu5.below hb11
      have hu8 := hu8.below hb11
      have cF := firstR2_w F1 F2
      have hFF : fstE [F1, F2] = F := by rw [← hF1, ← hF2]; exact HF.out
      rw [hFF] at cF
      have hal : Below W11.heap.size W11 (W11.alloc (.cells #[.int .i64 F1, .int .i64 F2] 3)) := (Below.refl _ _).alloc (Nat.le_refl _) _
      have hu5 := hu5.below hal
      have hu8 := hu8.below hal
      have hB12 := hB11.trans (hal.mono hB11.size)
      clear c23 hb11 hB10 hFF hal hF1 hF2
      go_wp2_with fail
      go_at_call 22
      refine (cF _ _ (by simp) (by simp)).mono ?_
      rintro e W12 ⟨rfl, rfl⟩
      generalize W11.alloc (.cells #[.int .i64 F1, .int .i64 F2] 3) = W12 at hu5 hu8 hB12 ⊢
      clear cF hB11
      have hnn : n * 62 ≤ 66 * 62 := Nat.mul_le_mul_right _ hn
      have hnn2 : n2 * 62 ≤ 66 * 62 := Nat.mul_le_mul_right _ hn2
      have hok1 : bookE g n = 0 → GamesOk g n := fun h => ⟨hn, fun i hi => ⟨(HK.out.1 i hi).1, gmE_ok ((bookE_ok h).2 i hi)⟩⟩
      have hokg : gmsE g n = 0 → GamesOk g n := fun h => ⟨hn, fun i hi => ⟨(HK.out.1 i hi).1, gmE_ok ((gmsE_ok h).2 i hi)⟩⟩
      have hokg2 : gmsE g2 n2 = 0 → GamesOk g2 n2 := fun h => ⟨hn2, fun i hi => ⟨(HK.out.2 i hi).1, gmE_ok ((gmsE_ok h).2 i hi)⟩⟩
      have hlen1 : T1.length ≤ 10000 := by
        by_cases h0 : bookE g n = 0
        · rw [HT1.out.1 h0]
          have := (gamT_inv (s := 1) (.inl rfl) (k := n) (i := 0) (fun j _ hj => (hok1 h0).lines j (by omega)) InvT.nil).2.1
          omega
        · rw [HT1.out.2 h0]; simp
      have HL := Lib.hid (And.intro hok1 (And.intro hokg hokg2))
      have hlen2 : T2.length ≤ 10000 := by
        by_cases h0 : fstE [gmsE g n, gmsE g2 n2] = 0
        · rw [HT2.out.1 h0]
          obtain ⟨q1, q2⟩ := fst2_zero h0
          have hI := gamT_inv (s := -1) (.inr rfl) (k := n) (i := 0) (fun j _ hj => (hokg q1).lines j (by omega)) InvT.nil
          have hI2 := (gamT_inv (s := 1) (.inl rfl) (k := n2) (i := 0) (fun j _ hj => (hokg2 q2).lines j (by omega)) hI).2.1
          exact Nat.le_trans (List.length_filter_le _ _) (by omega)
        · rw [HT2.out.2 h0]; simp
      clear hok1 hokg hokg2 hnn hnn2
      go_upto_if 49 with fail
      go_cut [11] (fun s wx => IsTots wx s T1 ∧ Below W12.heap.size W12 wx)
      case first =>
        by_cases h0 : E = 0
        · subst h0
          have hT := HT1.out.1 HE.out
          have c24 := totalsR_w (HV.out.2.1.below hB12) (HL.out.1 HE.out)
          rw [← hT] at c24
          clear hT
          go_wp2_with fail
          go_at_call 24
          refine c24.mono ?_
          rintro e W13 ⟨⟨u, rfl, hu⟩, hb⟩
          have hu := hu.is
          clear c24
          go_wp2_with fail
          go_meet
          exact ⟨hu, hb⟩
        · have h0' : (E == 0) = false := by simpa using h0
          have hT : T1 = [] := HT1.out.2 (by rw [HE.out]; exact h0)
          have hn0 : IsTots W12 (.slice none 0 0) T1 := by rw [hT]; exact isTots_nil _
          clear hT
          go_wp2_with fail
          go_meet
          exact ⟨hn0, Below.refl _ _⟩
      case rest =>
        obtain ⟨hs11, hbA⟩ := hcut
        have hu5 := hu5.below hbA
        have hu8 := hu8.below hbA
        have hB13 := hB12.trans (hbA.mono hB12.size)
        clear hB12 hbA
        generalize wc = W13 at hs11 hu5 hu8 hB13 ⊢
        go_upto_if 53 with fail
        go_cut [12] (fun s wx => IsTots wx s T2 ∧ Below W13.heap.size W13 wx)
        case first =>
          by_cases h0 : F = 0
          · subst h0
            have hT := HT2.out.1 HF.out
            obtain ⟨q1, q2⟩ := fst2_zero HF.out
            have c25 := diffR_w (HV.out.2.1.below hB13) (HL.out.2.1 q1) (HV.out.2.2.below hB13) (HL.out.2.2 q2)
            rw [← hT] at c25
            clear hT q1 q2
            go_wp2_with fail
            go_at_call 25
            refine c25.mono ?_
            rintro e W14 ⟨⟨u, rfl, hu⟩, hb⟩
            have hu := hu.is
            clear c25
            go_wp2_with fail
            go_meet
            exact ⟨hu, hb⟩
          · have h0' : (F == 0) = false := by simpa using h0
            have hT : T2 = [] := HT2.out.2 (by rw [HF.out]; exact h0)
            have hn0 : IsTots W13 (.slice none 0 0) T2 := by rw [hT]; exact isTots_nil _
            clear hT
            go_wp2_with fail
            go_meet
            exact ⟨hn0, Below.refl _ _⟩
        case rest =>
          obtain ⟨hs12, hbA⟩ := hcut
          have hu5 := hu5.below hbA
          have hu8 := hu8.below hbA
          have hs11 := hs11.below hbA
          have hB14 := hB13.trans (hbA.mono hB13.size)
          clear hB13 hbA
          generalize wc = W14 at hs11 hs12 hu5 hu8 hB14 ⊢
          have c27 := sums_w hu5 hlen1
          clear hu5
          go_wp2_with fail
          go_at_call 27
          refine c27.mono ?_
          rintro e W15 ⟨⟨u, rfl, hu⟩, hb⟩
          have c26 := sameTots_w hu.is (hs11.below hb) hlen1
          have hu8 := hu8.below hb
          have hs12 := hs12.below hb
          have hB15 := hB14.trans (hb.mono hB14.size)
          clear c27 hu hs11 hb hB14
          go_wp2_with fail
          go_at_call 26
          refine c26.mono ?_
          rintro e W16 ⟨rfl, hb⟩
          have hu8 := hu8.below hb
          have hs12 := hs12.below hb
          have hB16 := hB15.trans (hb.mono hB15.size)
          have c27 := sums_w hu8 hlen2
          clear c26 hb hB15 hu8
          go_wp2_with fail
          go_at_call 27
          refine c27.mono ?_
          rintro e W17 ⟨⟨u2, rfl, hu2⟩, hb⟩
          have c26 := sameTots_w hu2.is (hs12.below hb) hlen2
          have hB17 := hB16.trans (hb.mono hB16.size)
          clear c27 hu2 hs12 hb hB16
          go_wp2_with fail
          go_at_call 26
          refine c26.mono ?_
          rintro e W18 ⟨rfl, hb⟩
          have hB18 := hB17.trans (hb.mono hB17.size)
          clear c26 hb hB17
          go_wp2_with fail
          go_ret
          exact ⟨rfl, hB18⟩
end Go.Proofs.Tryz

namespace Go.Proofs.Tryz
open Go Go.Am Go.RowKit Go.Op
set_option maxRecDepth 100000

set_option maxHeartbeats 6400000 in
theorem updates_law {w : World} (hlaid : Laid w) {v v2 : Value} {l d : List Tot} (hv : IsTots w v l) (hv2 : IsTots w v2 d) :
    Calls prog 11 #[v, v2] w fun e w' => e = .returned (.bool true) ∧ Below w.heap.size w w' := by
  have c15 := awake_w hlaid
  have HV := Lib.hid (And.intro hlaid (And.intro hv hv2))
  have c28 : ∀ W, Below w.heap.size w W → Calls prog 28 #[v, .int .i64 8] W fun e w' => AnsB e (ShortT 8 l) ∧ w' = W := fun W h => shortT_w (hv.below h) 8
  have c28b : ∀ W, Below w.heap.size w W → Calls prog 28 #[v2, .int .i64 8] W fun e w' => AnsB e (ShortT 8 d) ∧ w' = W := fun W h => shortT_w (hv2.below h) 8
  obtain ⟨ad2, cc2, rfl, hcc2⟩ := hv2.slice
  clear hlaid hv hv2
  go_enter func11, ntmps11
  go_wp2_with fail
  go_at_call 15
  refine c15.mono ?_
  rintro e W1 ⟨rfl, hb⟩
  clear c15
  have c15 := awake_w (HV.out.1.below hb)
  go_wp2_with fail
  go_at_call 28
  refine (c28 _ hb).mono ?_
  rintro e W2 ⟨⟨b1, rfl, h1⟩, rfl⟩
  cases b1 with
  | false =>
    clear c28 c28b h1
    go_wp2_with fail
    go_at_call 15
    refine c15.mono ?_
    rintro e W4 ⟨rfl, hk⟩
    have hb4 := hb.trans (hk.mono hb.size)
    clear c15 hk hb
    go_wp2_with fail
    go_ret
    exact ⟨rfl, hb4⟩
  | true =>
    have hsh := h1 rfl
    clear c28 h1
    go_wp2_with fail
    go_at_call 28
    refine (c28b _ hb).mono ?_
    rintro e W3 ⟨⟨b2, rfl, h2⟩, rfl⟩
    cases b2 with
    | false =>
      clear c28b h2
      go_wp2_with fail
      go_at_call 15
      refine c15.mono ?_
      rintro e W4 ⟨rfl, hk⟩
      have hb4 := hb.trans (hk.mono hb.size)
      clear c15 hk hb
      go_wp2_with fail
      go_ret
      exact ⟨rfl, hb4⟩
    | true =>
      clear c28b h2
      by_cases h8 : 8 < d.length
      · have h8' : (8 : Int) < (d.length : Int) := by omega
        go_wp2_with fail
        go_at_call 15
        refine c15.mono ?_
        rintro e W4 ⟨rfl, hk⟩
        have hb4 := hb.trans (hk.mono hb.size)
        clear c15 hk hb
        go_wp2_with fail
        go_ret
        exact ⟨rfl, hb4⟩
      have h8' : ¬ (8 : Int) < (d.length : Int) := by omega
      have hn1 : l.length ≤ 4098 := hsh.2
      have hn2 : d.length ≤ 8 := by omega
      have c30 := totals_w (HV.out.2.1.below hb) (Nat.le_trans hn1 (by decide))
      clear c15 hsh
      go_wp2_with fail
      go_at_call 30
      refine c30.mono ?_
      rintro e W4 ⟨⟨u4, rfl, hu4⟩, hb4⟩
      have hB4 := hb.trans (hb4.mono hb.size)
      have c30 := totals_w (HV.out.2.2.below hB4) (Nat.le_trans hn2 (by decide))
      clear hb hb4
      go_wp2_with fail
      go_at_call 30
      refine c30.mono ?_
      rintro e W5 ⟨⟨u5, rfl, hu5⟩, hb5⟩
      have hB5 := hB4.trans (hb5.mono hB4.size)
      have c69 := update_w (hu4.below hb5).is hu5.is (Nat.le_trans hn1 (by decide)) (Nat.le_trans hn2 (by decide))
      clear c30 hb5 hB4 hu4 hu5
      go_wp2_with fail
      go_at_call 69
      refine c69.mono ?_
      rintro e W6 ⟨⟨u6, x6, rfl, hu6⟩, hb6⟩
      have hB6 := hB5.trans (hb6.mono hB5.size)
      obtain ⟨T, hT⟩ : ∃ T, (if x6 = 0 then cleanT (sumT l d) else []) = T := ⟨_, rfl⟩
      have hu6 := hu6
      unfold UpdOk at hu6
      rw [hT] at hu6
      have hlenT : T.length ≤ 10000 := by
        rw [← hT]
        split
        · exact Nat.le_trans (List.length_filter_le _ _) (Nat.le_trans (sumT_len (L := l) (ds := d)) (by omega))
        · exact Nat.zero_le _
      have HT : Hid ((x6 = 0 → T = cleanT (sumT l d)) ∧ (x6 ≠ 0 → T = [])) := Lib.hid ⟨fun h => by rw [← hT, if_pos h], fun h => by rw [← hT, if_neg h]⟩
      have HX : Hid (x6 = updA l d) := Lib.hid hu6.1
      have HU6 := Lib.hid hu6.2.is
      obtain ⟨X, hX⟩ : ∃ X, totsE l = X := ⟨_, rfl⟩
      obtain ⟨Y, hY⟩ : ∃ Y, totsE d = Y := ⟨_, rfl⟩
      obtain ⟨F, hF⟩ : ∃ F, fstE [X, Y] = F := ⟨_, rfl⟩
      have HXY : Hid (totsE l = X ∧ totsE d = Y ∧ fstE [totsE l, totsE d] = F) := Lib.hid ⟨hX, hY, by rw [hX, hY, hF]⟩
      have c31 := checkTotsR_w (HV.out.2.1.below hB6) (Nat.le_trans hn1 (by decide))
      rw [hX] at c31
      have cF := firstR2_w X Y
      rw [hF] at cF
      clear c69 hb6 hB5 hu6 hT hX hF
      go_wp2_with fail
      go_at_call 31
      refine c31.mono ?_
      rintro e W7 ⟨rfl, hb7⟩
      have hB7 := hB6.trans (hb7.mono hB6.size)
      have HU7 := Lib.hid (HU6.out.below hb7)
      have c31 := checkTotsR_w (HV.out.2.2.below hB7) (Nat.le_trans hn2 (by decide))
      rw [hY] at c31
      clear hb7 hB6 HU6 hY
      go_wp2_with fail
      go_at_call 31
      refine c31.mono ?_
      rintro e W8 ⟨rfl, hb8⟩
      have hB8 := hB7.trans (hb8.mono hB7.size)
      have HU8 := HU7.out.below hb8
      have hal : Below W8.heap.size W8 (W8.alloc (.cells #[.int .i64 X, .int .i64 Y] 3)) := (Below.refl _ _).alloc (Nat.le_refl _) _
      have HU9 := Lib.hid (HU8.below hal)
      have hB9 := hB8.trans (hal.mono hB8.size)
      clear c31 hb8 hB7 HU7 HU8 hB8 hal
      go_wp2_with fail
      go_at_call 22
      refine (cF _ _ (by simp) (by simp)).mono ?_
      rintro e W9 ⟨rfl, rfl⟩
      generalize W8.alloc (.cells #[.int .i64 X, .int .i64 Y] 3) = W9 at HU9 hB9 ⊢
      clear cF
      go_upto_if 44 with fail
      go_cut [8, 9] (fun a s wx => a = .int .i64 x6 ∧ IsTots wx s T ∧ Below W9.heap.size W9 wx)
      case first =>
        by_cases h0 : F = 0
        · subst h0
          obtain ⟨q1, q2⟩ := fst2_zero HXY.out.2.2
          obtain ⟨z1, z2, z3⟩ := totsE_zero q1
          obtain ⟨-, -, y3⟩ := totsE_zero q2
          have c70 := checkUpdR_w (HV.out.2.1.below hB9) (HV.out.2.2.below hB9) (Nat.le_trans hn1 (by decide)) (Nat.le_trans hn2 (by decide)) z2 z3 y3
          have c71 : ∀ W, Below W9.heap.size W9 W → _ := fun W hb => updateR_w (HV.out.2.1.below (hB9.trans (hb.mono hB9.size))) (HV.out.2.2.below (hB9.trans (hb.mono hB9.size))) (Nat.le_trans hn1 (by decide)) (Nat.le_trans hn2 (by decide)) z2 (fun t ht => (z3 t ht).2) (fun t ht => (y3 t ht).2)
          have hE : updE (cleanT (sumT l d)) = x6 := by rw [HX.out, updA, if_pos HXY.out.2.2]
          rw [hE] at c70
          clear q1 q2 z1 z2 z3 y3 hE
          go_wp2_with fail
          go_at_call 70
          refine c70.mono ?_
          rintro e W10 ⟨rfl, hb10⟩
          have c71 := c71 _ hb10
          clear c70
          by_cases h6 : x6 = 0
          · subst h6
            have hTT := HT.out.1 rfl
            rw [← hTT] at c71
            clear hTT
            go_wp2_with fail
            go_at_call 71
            refine c71.mono ?_
            rintro e W11 ⟨⟨u, rfl, hu⟩, hb⟩
            have hu := hu.is
            have hb11 := hb10.trans (hb.mono hb10.size)
            clear c71 hb hb10
            go_wp2_with fail
            go_meet
            exact ⟨rfl, hu, hb11⟩
          · have h6' : (x6 == 0) = false := by simpa using h6
            have hTT := HT.out.2 h6
            have hn0 : IsTots W10 (.slice none 0 0) T := by rw [hTT]; exact isTots_nil _
            clear hTT c71
            go_wp2_with fail
            go_meet
            exact ⟨rfl, hn0, hb10⟩
        · have h0' : (F == 0) = false := by simpa using h0
          have hxF : x6 = F := by rw [HX.out, updA, HXY.out.2.2, if_neg h0]
          subst hxF
          have hTT := HT.out.2 h0
          have hn0 : IsTots W9 (.slice none 0 0) T := by rw [hTT]; exact isTots_nil _
          clear hTT
          go_wp2_with fail
          go_meet
          exact ⟨rfl, hn0, Below.refl _ _⟩
      case rest =>
        obtain ⟨rfl, hs9, hbA⟩ := hcut
        have HU10 := Lib.hid (HU9.out.below hbA)
        have HS10 := Lib.hid hs9
        have hB10 := hB9.trans (hbA.mono hB9.size)
        have c30 := totals_w (HV.out.2.1.below hB10) (Nat.le_trans hn1 (by decide))
        have hX := HXY.out.1
        clear hB9 hbA HU9 hs9
        generalize wc = W10 at HU10 HS10 hB10 c30 ⊢
        go_wp2_with fail
        go_at_call 30
        refine c30.mono ?_
        rintro e W11 ⟨⟨u, rfl, hu⟩, hb⟩
        have c72 := checkTots_w hu.is (Nat.le_trans hn1 (by decide))
        rw [hX] at c72
        have hB11 := hB10.trans (hb.mono hB10.size)
        have HU11 := Lib.hid (HU10.out.below hb)
        have HS11 := Lib.hid (HS10.out.below hb)
        clear c30 hu hb hB10 HU10 HS10 hX
        go_wp2_with fail
        go_at_call 72
        refine c72.mono ?_
        rintro e W12 ⟨rfl, hb⟩
        have hB12 := hB11.trans (hb.mono hB11.size)
        have HS12 := Lib.hid (HS11.out.below hb)
        have c27 := sums_w (HU11.out.below hb) hlenT
        clear c72 hb hB11 HU11 HS11
        go_wp2_with fail
        go_at_call 27
        refine c27.mono ?_
        rintro e W13 ⟨⟨u, rfl, hu⟩, hb⟩
        have c26 := sameTots_w hu.is (HS12.out.below hb) hlenT
        have hB13 := hB12.trans (hb.mono hB12.size)
        clear c27 hu hb hB12 HS12
        go_wp2_with fail
        go_at_call 26
        refine c26.mono ?_
        rintro e W14 ⟨rfl, hb⟩
        have hB14 := hB13.trans (hb.mono hB13.size)
        clear c26 hb hB13
        go_wp2_with fail
        go_ret
        exact ⟨rfl, hB14⟩
end Go.Proofs.Tryz

namespace Go.Proofs.Tryz
open Go Go.Am Go.ChangeShapes Go.WideShapes Go.ChangeAt Go.RowKit
set_option maxRecDepth 100000

noncomputable def fs56 : Array Field := match prog.underlying 56 with | some (.struct fs) => fs | _ => #[]
theorem x38 : prog.underlying 38 = some (.slice 56) := by kernel_rfl
theorem x56 : prog.underlying 56 = some (.struct fs56) := by kernel_rfl
theorem xn56 : fs56.size = 3 := by kernel_rfl
theorem xt56 : (fs56.toList.map fun f => (f.type, f.offset)) = [(9, 0), (3, 1), (54, 2)] := by kernel_rfl
theorem xc56 : prog.cellsOf 56 = 14 := by kernel_rfl
section
variable {H : Type} {enc : TypeId × Value → H} {w : World} {base : Nat} {spare : Nat → Bool} {held : Bool}
theorem total_open {fuel : Nat} {cs : List Value} {x : DataW H × List MemPlace} (h : DataW.trod enc prog w base spare held fuel 56 cs = some x) : ∃ d : Tot, cs = d.cells := by
  obtain ⟨ys, n, _, _, hl, hn, hf⟩ := DataW.trod_struct x56 h
  rw [xc56] at hl
  rw [xn56] at hn
  match cs, hl with
  | v0 :: v1 :: r, hl =>
    match ys, hn with
    | [z0, z1, z2], _ =>
      obtain ⟨f0, a0, b0, d0⟩ := field_at xt56 (i := 0) (t := 9) (o := 0) rfl
      obtain ⟨f1, a1, b1, d1⟩ := field_at xt56 (i := 1) (t := 3) (o := 1) rfl
      obtain ⟨f2, a2, b2, d2⟩ := field_at xt56 (i := 2) (t := 54) (o := 2) rfl
      have k0 := hf 0 f0 a0
      have k1 := hf 1 f1 a1
      have k2 := hf 2 f2 a2
      rw [b0, d0, xc9] at k0
      rw [b1, d1, xc3] at k1
      rw [b2, d2, xc54] at k2
      obtain ⟨p0, e0, _⟩ := DataW.trod_string x9 (show _ = some z0 from k0)
      obtain ⟨p1, e1, _⟩ := DataW.trod_int x3 (show _ = some z1 from k1)
      obtain ⟨c, e2⟩ := arr_int x54 x3 xc3 xc54 (show _ = some z2 from k2)
      simp only [List.length_cons] at hl
      have hr : List.take 12 r = r := List.take_of_length_le (by omega)
      simp only [List.drop_succ_cons, List.drop_zero, List.take_succ_cons, List.take_zero, List.cons.injEq, and_true] at e0 e1 e2
      rw [hr] at e2
      subst e0 e1 e2
      exact ⟨⟨p0.data.toList, p1, c⟩, by simp only [Tot.cells, bA_data]⟩
theorem totals_open {fuel : Nat} {v : Value} {x : DataW H × List MemPlace} (h : DataW.trod enc prog w base spare held fuel 38 [v] = some x) : ∃ l : List Tot, IsTots w v l := by
  obtain ⟨k, d, f, h1, h2⟩ := row_open x38 xc56 (by decide) tot0 (fun d cs => cs = d.cells) (fun d cs e => by rw [e, Tot.len]) (fun h => total_open h) h
  refine ⟨(List.range k).map d, ?_⟩
  unfold IsTots
  rw [List.length_map, List.length_range]
  refine h1.congr fun i hi => ?_
  rw [h2 i hi, List.getElem?_map, List.getElem?_range hi]
  rfl
variable {d : DataW H} {ps : List MemPlace}
theorem totals_arg {r : Reach} {b0 : Nat} {v : Value} (hval : Value.okWide prog w r b0 38 v) (h : DataW.Trod enc prog w base spare held 38 v d ps) : ∃ (_ : Nat) (l : List Tot), IsTots w v l := by
  simp only [Value.okWide, Cell.okWide, x38] at hval
  obtain ⟨fuel, hf⟩ := h
  cases v with
  | agg cs => simp_all [Cell.ok]
  | _ => exact ⟨0, totals_open (show DataW.trod enc prog w base spare held fuel 38 [_] = some _ from hf)⟩
end
end Go.Proofs.Tryz
