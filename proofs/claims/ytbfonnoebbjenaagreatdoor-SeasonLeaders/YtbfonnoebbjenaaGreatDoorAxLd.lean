/- Rates of the play package, and their comparison: by the kit's walk. -/
import Derived.Test.YtbfonnoebbjenaaGreatDoorAxS
namespace Go.Proofs.Tryz
open Go Go.Am Go.RowKit Go.Gcx Go.Op
set_option maxRecDepth 100000

theorem pwhen_w (b : Bool) (e : Int) (w : World) : Calls prog 153 #[.bool b, .int .i64 e] w fun x w' => x = .returned (.int .i64 (if b = true then e else 0)) ∧ w' = w := by
  cases b with
  | true =>
    go_enter func153, ntmps153
    go_wp2
    go_ret
    exact ⟨rfl, rfl⟩
  | false =>
    go_enter func153, ntmps153
    go_wp2
    go_ret
    exact ⟨rfl, rfl⟩
theorem pwithin_w (n lo hi : Int) (w : World) : Calls prog 152 #[.int .i64 n, .int .i64 lo, .int .i64 hi] w fun e w' => e = .returned (.int .i64 (inE n lo hi)) ∧ w' = w := by
  have cT := pwhen_w true 3
  have cF := pwhen_w false 3
  by_cases h1 : n < lo
  · have e : inE n lo hi = 3 := if_pos (.inl h1)
    rw [e]
    clear e
    go_enter func152, ntmps152
    go_wp2_with (first | (go_at_call 153; refine (cT _).mono ?_; rintro e w' ⟨rfl, rfl⟩) | fail)
    go_ret
    exact ⟨rfl, rfl⟩
  · by_cases h2 : hi < n
    · have e : inE n lo hi = 3 := if_pos (.inr h2)
      rw [e]
      clear e
      go_enter func152, ntmps152
      go_wp2_with (first | (go_at_call 153; refine (cT _).mono ?_; rintro e w' ⟨rfl, rfl⟩) | fail)
      go_ret
      exact ⟨rfl, rfl⟩
    · have e : inE n lo hi = 0 := if_neg (by omega)
      rw [e]
      clear e
      go_enter func152, ntmps152
      go_wp2_with (first | (go_at_call 153; refine (cF _).mono ?_; rintro e w' ⟨rfl, rfl⟩) | fail)
      go_ret
      exact ⟨rfl, rfl⟩
theorem pfirst_w (es : List Int) (b c : Nat) (w : World) (hl : es.length ≤ 1000) (hc : ∀ j z, es[j]? = some z → w.cell? ⟨b, j, none⟩ = some (.int .i64 z)) :
    Calls prog 151 #[.slice (some ⟨b, 0, none⟩) es.length c] w fun e w' => e = .returned (.int .i64 (fstE es)) ∧ w' = w := by
  have H0 : Hid (fstE es = fstE (es.drop 0)) := Lib.hid rfl
  obtain ⟨n, hn⟩ : ∃ n, es.length = n := ⟨_, rfl⟩
  have HL := Lib.hid hn
  rw [hn] at hl ⊢
  clear hn
  go_enter func151, ntmps151
  go_wp2_with fail
  go_loopw [7] (fun s wr => ∃ i : Nat, i ≤ n ∧ s = .int .i64 i ∧ Hid (fstE es = fstE (es.drop i)) ∧ wr = w) (fun s _ => n - (numOf' s).toNat)
  case atStart => exact ⟨0, Nat.zero_le _, rfl, H0, rfl⟩
  case round =>
    clear H0
    obtain ⟨i, hi, rfl, hE, rfl⟩ := hrel
    by_cases hin : i < n
    · obtain ⟨z, hz⟩ : ∃ z, es[i]? = some z := ⟨_, List.getElem?_eq_getElem (by rw [HL.out]; exact hin)⟩
      have ci := hc i z hz
      have hs := fst_drop hz
      have hii : (i : Int) < (n : Int) := by omega
      by_cases h0 : z = 0
      · subst h0
        have hE2 : Hid (fstE es = fstE (es.drop (i + 1))) := Lib.hid (by rw [hE.out, hs, if_pos rfl])
        clear hE hs hc hz
        go_wp2_with fail
        go_roundw
        case rel => exact ⟨i + 1, by omega, by go_num, hE2, by first | trivial | rfl⟩
        case measure => simp [numOf'] <;> omega
      · have hE2 : Hid (fstE es = z) := Lib.hid (by rw [hE.out, hs, if_neg h0])
        have h0' : (z != 0) = true := by simpa using h0
        clear hE hs hc hz
        go_wp2_with fail
        go_ret
        exact ⟨by rw [hE2.out]; try rfl, rfl⟩
    · obtain rfl : i = n := by omega
      have hE2 : Hid (fstE es = 0) := Lib.hid (by rw [hE.out, List.drop_of_length_le (by rw [HL.out]; exact Nat.le_refl _)]; rfl)
      clear hE hc HL
      go_wp2_with fail
      go_ret
      exact ⟨by rw [hE2.out]; try rfl, rfl⟩
theorem pfirst3_w (x y z : Int) (b : Nat) (W : World) (h0 : W.cell? ⟨b, 0, none⟩ = some (.int .i64 x)) (h1 : W.cell? ⟨b, 1, none⟩ = some (.int .i64 y)) (h2 : W.cell? ⟨b, 2, none⟩ = some (.int .i64 z)) :
    Calls prog 151 #[.slice (some ⟨b, 0, none⟩) 3 3] W fun e w' => e = .returned (.int .i64 (fstE [x, y, z])) ∧ w' = W :=
  pfirst_w [x, y, z] b 3 W (by simp) fun j u h => by
    match j, h with
    | 0, h => simp at h; subst h; exact h0
    | 1, h => simp at h; subst h; exact h1
    | 2, h => simp at h; subst h; exact h2
    | j + 3, h => simp at h
/-- What a rate's check answers. -/
def rateE (n d : Int) : Int := fstE [inB9 n, inB9 d, if d = 0 then 6 else 0]
theorem inB9_zero {n : Int} (h : inB9 n = 0) : rB n := by
  unfold inB9 inE at h
  unfold rB
  split at h
  · cases h
  · omega
theorem inB9_rB {n : Int} (h : rB n) : inB9 n = 0 := by
  unfold inB9 inE
  unfold rB at h
  rw [if_neg (by omega)]
theorem rateE_zero {n d : Int} (h : rateE n d = 0) : rB n ∧ rB d ∧ d ≠ 0 := by
  unfold rateE fstE at h
  by_cases h1 : inB9 n = 0
  · rw [if_pos h1] at h
    unfold fstE at h
    by_cases h2 : inB9 d = 0
    · rw [if_pos h2] at h
      refine ⟨inB9_zero h1, inB9_zero h2, fun h3 => ?_⟩
      rw [if_pos h3] at h
      simp [fstE] at h
    · rw [if_neg h2] at h; exact absurd h h2
  · rw [if_neg h1] at h; exact absurd h h1
theorem checkRate_w (n d : Int) (w : World) : Calls prog 37 #[.int .i64 n, .int .i64 d] w fun e w' => e = .returned (.int .i64 (rateE n d)) ∧ Below w.heap.size w w' := by
  have c1 := rangeR_w n (-999999999) 999999999
  have c2 := rangeR_w d (-999999999) 999999999
  have hE : rateE n d = if fstE [inB9 n, inB9 d] = 0 then (if d = 0 then 6 else 0) else fstE [inB9 n, inB9 d] := by
    unfold rateE
    generalize inB9 n = x
    generalize inB9 d = y
    by_cases h1 : x = 0 <;> by_cases h2 : y = 0 <;> simp [fstE, h1, h2]
  have e1 : inE n (-999999999) 999999999 = inB9 n := rfl
  have e2 : inE d (-999999999) 999999999 = inB9 d := rfl
  rw [e1] at c1
  rw [e2] at c2
  generalize inB9 n = x at c1 hE
  generalize inB9 d = y at c2 hE
  have cF := firstR2_w x y
  generalize fstE [x, y] = f at cF hE
  generalize rateE n d = R at hE ⊢
  have HE := Lib.hid hE
  clear hE e1 e2
  have hal := fun W (o : Obj) => (Below.refl (World.heap W).size W).alloc (Nat.le_refl _) o
  go_enter func37, ntmps37
  go_wp2_with fail
  go_at_call 33
  refine (c1 _).mono ?_
  rintro e W1 ⟨rfl, rfl⟩
  go_wp2_with fail
  go_at_call 33
  refine (c2 _).mono ?_
  rintro e W2 ⟨rfl, rfl⟩
  clear c1 c2
  have hb := hal W2 (.cells #[.int .i64 x, .int .i64 y] 3)
  clear hal
  go_wp2_with fail
  go_at_call 22
  refine (cF _ _ (by simp) (by simp)).mono ?_
  rintro e W3 ⟨rfl, rfl⟩
  clear cF
  by_cases hf : f = 0
  · have hf' : (f != 0) = false := by simpa using hf
    by_cases hd : d = 0
    · have HR : Hid (R = 6) := Lib.hid (by rw [HE.out, if_pos hf, if_pos hd])
      have hd' : (d == 0) = true := by simpa using hd
      clear HE hf hd
      go_wp2_with fail
      go_ret
      exact ⟨by rw [HR.out]; rfl, hb⟩
    · have HR : Hid (R = 0) := Lib.hid (by rw [HE.out, if_pos hf, if_neg hd])
      have hd' : (d == 0) = false := by simpa using hd
      clear HE hf hd
      go_wp2_with fail
      go_ret
      exact ⟨by rw [HR.out]; rfl, hb⟩
  · have hf' : (f != 0) = true := by simpa using hf
    have HR : Hid (R = f) := Lib.hid (by rw [HE.out, if_neg hf])
    clear HE hf
    go_wp2_with fail
    go_ret
    exact ⟨by rw [HR.out]; rfl, hb⟩
theorem res106 {tmps : Array Value} {W : World} {b : Nat} {c0 c1 v : Value} (hp : tmps.getD 4 undef = .pointer (some ⟨b, 0, none⟩)) (hv : tmps.getD 5 undef = v) (hz : At W b #[c0, c1] 60) : (results f106 tmps).run prog W = .ok (.tuple #[.agg #[c0, c1], v]) W := by
  obtain ⟨y0, y1⟩ := box2 hz
  simp only [results, show f106.results = #[.cell 4 60, .tmp 5] from rfl]
  have hp' : tmps[4]?.getD undef = .pointer (some ⟨b, 0, none⟩) := by simpa using hp
  have hv' : tmps[5]?.getD undef = v := by simpa using hv
  simp [go_sem, hp', hv', y0, y1]
theorem rate_w (n d : Int) (w : World) : Calls prog 106 #[.int .i64 n, .int .i64 d] w fun e w' => e = .returned (.tuple #[.agg #[.int .i64 (if rateE n d = 0 then rtN n d else 0), .int .i64 (if rateE n d = 0 then rtD n d else 0)], .int .i64 (rateE n d)]) ∧ Below w.heap.size w w' := by
  have c1 := pwithin_w n (-999999999) 999999999
  have c2 := pwithin_w d (-999999999) 999999999
  have c3 := pwhen_w (d == 0) 6
  have e3 : (if (d == 0) = true then 6 else 0 : Int) = if d = 0 then 6 else 0 := by by_cases h : d = 0 <;> simp [h]
  rw [e3] at c3
  have HZ := Lib.hid (@rateE_zero n d)
  have hE : rateE n d = fstE [inB9 n, inB9 d, if d = 0 then 6 else 0] := rfl
  have e1 : inE n (-999999999) 999999999 = inB9 n := rfl
  have e2 : inE d (-999999999) 999999999 = inB9 d := rfl
  rw [e1] at c1
  rw [e2] at c2
  generalize inB9 n = x at c1 hE
  generalize inB9 d = y at c2 hE
  generalize (if d = 0 then 6 else 0 : Int) = z at c3 hE
  have cF := pfirst3_w x y z
  rw [← hE] at cF
  generalize rateE n d = f at cF HZ ⊢
  clear hE e1 e2 e3
  have hx := at_new w #[.int .i64 0, .int .i64 0] 60
  have hal : Below w.heap.size w (w.alloc (.cells #[.int .i64 0, .int .i64 0] 60)) := (Below.refl _ _).alloc (Nat.le_refl _) _
  obtain ⟨W1, hW1⟩ : ∃ W1, w.alloc (.cells #[.int .i64 0, .int .i64 0] 60) = W1 := ⟨_, rfl⟩
  rw [hW1] at hx hal
  have hal2 := hal.alloc hal.size (.cells #[.int .i64 x, .int .i64 y, .int .i64 z] 26)
  have hx2 := hx.alloc (.cells #[.int .i64 x, .int .i64 y, .int .i64 z] 26)
  by_cases hf : f = 0
  · obtain ⟨r1, r2, r3⟩ := HZ.out hf
    subst hf
    rw [if_pos rfl, if_pos rfl]
    have c5 := div_w n d
    rw [divI_gcd n d r3 (by unfold rB at r2; omega)] at c5
    have e5 : ((Nat.gcd n.natAbs d.natAbs : Nat) : Int) = gcdI n d := rfl
    rw [e5] at c5
    obtain ⟨g1, g2⟩ := gcdI_in (n := n) r2 r3
    have hN : rtN n d = if d < 0 then (-n).tdiv (gcdI n d) else n.tdiv (gcdI n d) := rfl
    have hD : rtD n d = if d < 0 then (-d).tdiv (gcdI n d) else d.tdiv (gcdI n d) := rfl
    generalize gcdI n d = g at c5 g1 g2 hN hD
    have hg0 : ¬ g = 0 := by omega
    have hg1 : ¬ -g = 0 := by omega
    clear e5 r3 HZ
    by_cases hlt : d < 0
    · rw [if_pos hlt, Int.neg_tdiv, ← Int.tdiv_neg] at hN hD
      have q3 := quo_in n (-g) r1
      have q4 := quo_in d (-g) r2
      have i3 : wrap64 (-g) = -g := by unfold wrap64; omega
      rw [hN, hD]
      obtain ⟨g', hg'⟩ : ∃ m, -g = m := ⟨_, rfl⟩
      rw [hg'] at hg1 q3 q4 i3 ⊢
      clear hN hD g1 g2 r1 r2
      go_enter func106, ntmps106
      go_wp2_with fail
      try rw [hW1]
      go_at_call 152
      refine (c1 _).mono ?_
      rintro e W2 ⟨rfl, rfl⟩
      go_wp2_with fail
      go_at_call 152
      refine (c2 _).mono ?_
      rintro e W3 ⟨rfl, rfl⟩
      go_wp2_with fail
      go_at_call 153
      refine (c3 _).mono ?_
      rintro e W4 ⟨rfl, rfl⟩
      clear c1 c2 c3 hW1 hx hal
      go_wp2_with fail
      go_at_call 151
      refine (cF _ _ (by simp) (by simp) (by simp)).mono ?_
      rintro e W5 ⟨rfl, rfl⟩
      clear cF
      obtain ⟨W6, hW6⟩ : ∃ W6, W4.alloc (.cells #[.int .i64 x, .int .i64 y, .int .i64 z] 26) = W6 := ⟨_, rfl⟩
      rw [hW6] at hal2 hx2 ⊢
      clear hW6
      go_wp2_with fail
      go_at_call 154
      refine (c5 _).mono ?_
      rintro e W7 ⟨rfl, hb7⟩
      have hx3 := hx2.below hb7 hx2.lt
      have hb3 := hal2.trans (hb7.mono hal2.size)
      clear c5 hx2 hal2 hb7
      obtain ⟨⟨x0, x1⟩, f0, f1⟩ := box2f hx3
      have hbz := ((hb3.setCell (p := ⟨w.heap.size, 0, none⟩) (Nat.le_refl _) (.int .i64 (n.tdiv g'))).setCell (p := ⟨w.heap.size, 1, none⟩) (Nat.le_refl _) (.int .i64 (d.tdiv g'))).drew
      have hxz : At ((W7.setCell ⟨w.heap.size, 0, none⟩ (.int .i64 (n.tdiv g'))).setCell ⟨w.heap.size, 1, none⟩ (.int .i64 (d.tdiv g'))).drew w.heap.size #[.int .i64 (n.tdiv g'), .int .i64 (d.tdiv g')] 60 := ((hx3.set 0 (.int .i64 (n.tdiv g'))).set 1 (.int .i64 (d.tdiv g'))).drew
      clear hb3 hx3
      go_wp2_with fail
      go_region
      all_goals (
        go_wp2_with fail
        exact bodyPost_ret (res106 rfl rfl hxz) rfl ⟨rfl, hbz⟩)
    · rw [if_neg hlt] at hN hD
      have q3 := quo_in n g r1
      have q4 := quo_in d g r2
      rw [hN, hD]
      clear hN hD g1 g2 r1 r2 hg1
      go_enter func106, ntmps106
      go_wp2_with fail
      try rw [hW1]
      go_at_call 152
      refine (c1 _).mono ?_
      rintro e W2 ⟨rfl, rfl⟩
      go_wp2_with fail
      go_at_call 152
      refine (c2 _).mono ?_
      rintro e W3 ⟨rfl, rfl⟩
      go_wp2_with fail
      go_at_call 153
      refine (c3 _).mono ?_
      rintro e W4 ⟨rfl, rfl⟩
      clear c1 c2 c3 hW1 hx hal
      go_wp2_with fail
      go_at_call 151
      refine (cF _ _ (by simp) (by simp) (by simp)).mono ?_
      rintro e W5 ⟨rfl, rfl⟩
      clear cF
      obtain ⟨W6, hW6⟩ : ∃ W6, W4.alloc (.cells #[.int .i64 x, .int .i64 y, .int .i64 z] 26) = W6 := ⟨_, rfl⟩
      rw [hW6] at hal2 hx2 ⊢
      clear hW6
      go_wp2_with fail
      go_at_call 154
      refine (c5 _).mono ?_
      rintro e W7 ⟨rfl, hb7⟩
      have hx3 := hx2.below hb7 hx2.lt
      have hb3 := hal2.trans (hb7.mono hal2.size)
      clear c5 hx2 hal2 hb7
      obtain ⟨⟨x0, x1⟩, f0, f1⟩ := box2f hx3
      have hbz := ((hb3.setCell (p := ⟨w.heap.size, 0, none⟩) (Nat.le_refl _) (.int .i64 (n.tdiv g))).setCell (p := ⟨w.heap.size, 1, none⟩) (Nat.le_refl _) (.int .i64 (d.tdiv g))).drew
      have hxz : At ((W7.setCell ⟨w.heap.size, 0, none⟩ (.int .i64 (n.tdiv g))).setCell ⟨w.heap.size, 1, none⟩ (.int .i64 (d.tdiv g))).drew w.heap.size #[.int .i64 (n.tdiv g), .int .i64 (d.tdiv g)] 60 := ((hx3.set 0 (.int .i64 (n.tdiv g))).set 1 (.int .i64 (d.tdiv g))).drew
      clear hb3 hx3
      go_wp2_with fail
      go_region
      all_goals (
        go_wp2_with fail
        exact bodyPost_ret (res106 rfl rfl hxz) rfl ⟨rfl, hbz⟩)
  · have hf' : (f != 0) = true := by simpa using hf
    rw [if_neg hf, if_neg hf]
    clear HZ hf
    go_enter func106, ntmps106
    go_wp2_with fail
    try rw [hW1]
    go_at_call 152
    refine (c1 _).mono ?_
    rintro e W2 ⟨rfl, rfl⟩
    go_wp2_with fail
    go_at_call 152
    refine (c2 _).mono ?_
    rintro e W3 ⟨rfl, rfl⟩
    go_wp2_with fail
    go_at_call 153
    refine (c3 _).mono ?_
    rintro e W4 ⟨rfl, rfl⟩
    clear c1 c2 c3 hW1 hx hal
    go_wp2_with fail
    go_at_call 151
    refine (cF _ _ (by simp) (by simp) (by simp)).mono ?_
    rintro e W5 ⟨rfl, rfl⟩
    clear cF
    obtain ⟨W6, hW6⟩ : ∃ W6, W4.alloc (.cells #[.int .i64 x, .int .i64 y, .int .i64 z] 26) = W6 := ⟨_, rfl⟩
    rw [hW6] at hal2 hx2 ⊢
    clear hW6
    obtain ⟨⟨x0, x1⟩, f0, f1⟩ := box2f hx2
    have hbz := (hal2.setCell (p := ⟨w.heap.size, 0, none⟩) (Nat.le_refl _) (.int .i64 0)).setCell (p := ⟨w.heap.size, 1, none⟩) (Nat.le_refl _) (.int .i64 0)
    have hxz : At ((W6.setCell ⟨w.heap.size, 0, none⟩ (.int .i64 0)).setCell ⟨w.heap.size, 1, none⟩ (.int .i64 0)) w.heap.size #[.int .i64 0, .int .i64 0] 60 := (hx2.set 0 (.int .i64 0)).set 1 (.int .i64 0)
    clear hx2 hal2
    go_wp2_with fail
    exact bodyPost_ret (res106 rfl rfl hxz) rfl ⟨rfl, hbz⟩
/-- The reference's comparison of two ratios. -/
theorem cmpR_w (a b c d : Int) (h1 : -1000000000000000000 ≤ a * d ∧ a * d ≤ 1000000000000000000) (h2 : -1000000000000000000 ≤ c * b ∧ c * b ≤ 1000000000000000000) (w : World) : Calls prog 108 #[.agg #[.int .i64 a, .int .i64 b], .agg #[.int .i64 c, .int .i64 d]] w fun e w' => e = .returned (.int .i64 (cmpI (a * d) (c * b))) ∧ Below w.heap.size w w' := by
  have hal := (((Below.refl w.heap.size w).alloc (Nat.le_refl _) (.cells #[.int .i64 a, .int .i64 b] 60)).alloc (by simp) (.cells #[.int .i64 c, .int .i64 d] 60)).drew
  have i1 : IntKind.wrap .i64 (a * d) = a * d := wrap_id (by omega) (by omega)
  have i2 : IntKind.wrap .i64 (c * b) = c * b := wrap_id (by omega) (by omega)
  have j1 : wrap64 (a * d) = a * d := by unfold wrap64; omega
  have j2 : wrap64 (c * b) = c * b := by unfold wrap64; omega
  have hC : cmpI (a * d) (c * b) = if a * d < c * b then -1 else if c * b < a * d then 1 else 0 := rfl
  generalize cmpI (a * d) (c * b) = R at hC ⊢
  have HC := Lib.hid hC
  clear hC h1 h2
  by_cases h : a * d < c * b
  · have HR : Hid (R = -1) := Lib.hid (by rw [HC.out, if_pos h])
    clear HC
    go_enter func108, ntmps108
    go_wp2_with fail
    go_region
    all_goals (
      go_wp2_with fail
      go_ret
      exact ⟨by rw [HR.out]; rfl, hal⟩)
  · by_cases h' : c * b < a * d
    · have HR : Hid (R = 1) := Lib.hid (by rw [HC.out, if_neg h, if_pos h'])
      clear HC
      go_enter func108, ntmps108
      go_wp2_with fail
      go_region
      all_goals (
        go_wp2_with fail
        go_ret
        exact ⟨by rw [HR.out]; rfl, hal⟩)
    · have HR : Hid (R = 0) := Lib.hid (by rw [HC.out, if_neg h, if_neg h'])
      clear HC
      go_enter func108, ntmps108
      go_wp2_with fail
      go_region
      all_goals (
        go_wp2_with fail
        go_ret
        exact ⟨by rw [HR.out]; rfl, hal⟩)
end Go.Proofs.Tryz
