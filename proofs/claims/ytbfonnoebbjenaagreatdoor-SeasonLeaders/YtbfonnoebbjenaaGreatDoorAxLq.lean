/- The season's average: by the kit's walk. -/
import Derived.Test.YtbfonnoebbjenaaGreatDoorAxLn
namespace Go.Proofs.Tryz
open Go Go.Am Go.RowKit Go.Op
set_option maxRecDepth 100000

/-- A list of one total. -/
theorem isTots_one (w : World) (x : Tot) (e : TypeId) : IsTots (w.alloc (.cells x.arr e)) (.slice (some ⟨w.heap.size, 0, none⟩) 1 1) [x] := by
  refine ⟨_, 1, rfl, Nat.le_refl _, fun _ => ⟨w.heap.size, 0, rfl, fun i hi j u hu => ?_⟩⟩
  have hi0 : i = 0 := by simpa using hi
  subst hi0
  simp only [List.getElem?_cons_zero, Option.getD_some] at hu
  simp only [Nat.zero_mul, Nat.zero_add]
  rw [cell_new _ _ _ _ rfl, ← hu, ← Tot.arr_cells, Array.getElem?_toList]
theorem check_one (x : Tot) (W : World) : Calls prog 72 #[.slice (some ⟨W.heap.size, 0, none⟩) 1 1] (W.alloc (.cells x.arr 66)) fun e w' => e = .returned (.int .i64 (totsE [x])) ∧ Below (W.alloc (.cells x.arr 66)).heap.size (W.alloc (.cells x.arr 66)) w' := by
  have h := isTots_one W x 66
  generalize W.alloc (.cells x.arr 66) = W2 at h ⊢
  exact checkTots_w h (Nat.le_of_ble_eq_true rfl)
def avgK (x : Tot) (num den : List UInt8) : Int := fstE [totsE [x], kindE num, kindE den]
/-- The error of an average. -/
def avgE (x : Tot) (num den : List UInt8) : Int := if avgK x num den = 0 then rateE (x.c (kdI num)) (x.c (kdI den)) else avgK x num den
def avgN (x : Tot) (num den : List UInt8) : Int := if avgE x num den = 0 then rtN (x.c (kdI num)) (x.c (kdI den)) else 0
def avgD (x : Tot) (num den : List UInt8) : Int := if avgE x num den = 0 then rtD (x.c (kdI num)) (x.c (kdI den)) else 0
theorem fst3_zero {a b c : Int} (h : fstE [a, b, c] = 0) : a = 0 ∧ b = 0 ∧ c = 0 := by
  simp only [fstE] at h
  by_cases q1 : a = 0
  · by_cases q2 : b = 0
    · by_cases q3 : c = 0
      · exact ⟨q1, q2, q3⟩
      · simp [q1, q2, q3] at h
    · simp [q1, q2] at h
  · simp [q1] at h
theorem res36 {tmps : Array Value} {W : World} {b : Nat} {c0 c1 v : Value} (hp : tmps.getD 6 undef = .pointer (some ⟨b, 0, none⟩)) (hv : tmps.getD 7 undef = v) (hz : At W b #[c0, c1] 60) : (results f36 tmps).run prog W = .ok (.tuple #[.agg #[c0, c1], v]) W := by
  obtain ⟨y0, y1⟩ := box2 hz
  simp only [results, show f36.results = #[.cell 6 60, .tmp 7] from rfl]
  have hp' : tmps[6]?.getD undef = .pointer (some ⟨b, 0, none⟩) := by simpa using hp
  have hv' : tmps[7]?.getD undef = v := by simpa using hv
  simp [go_sem, hp', hv', y0, y1]
set_option maxHeartbeats 6400000 in
theorem average_w {w : World} (hlaid : Laid w) (x : Tot) (num den : List UInt8) :
    Calls prog 36 #[.agg #[.string (bA x.p), .int .i64 x.gm, .int .i64 (x.c 0), .int .i64 (x.c 1), .int .i64 (x.c 2), .int .i64 (x.c 3), .int .i64 (x.c 4), .int .i64 (x.c 5), .int .i64 (x.c 6), .int .i64 (x.c 7), .int .i64 (x.c 8), .int .i64 (x.c 9), .int .i64 (x.c 10), .int .i64 (x.c 11)], .string (bA num), .string (bA den)] w fun e w' => e = .returned (.tuple #[.agg #[.int .i64 (avgN x num den), .int .i64 (avgD x num den)], .int .i64 (avgE x num den)]) ∧ Below w.heap.size w w' := by
  have hx0 := (at_new w x.arr 66).alloc (.cells #[.int .i64 0, .int .i64 0] 60)
  have hz0 : At ((w.alloc (.cells x.arr 66)).alloc (.cells #[.int .i64 0, .int .i64 0] 60)) (w.heap.size + 1) #[.int .i64 0, .int .i64 0] 60 := by
    have := at_new (w.alloc (.cells x.arr 66)) #[.int .i64 0, .int .i64 0] 60
    simpa using this
  have hb0 : Below w.heap.size w ((w.alloc (.cells x.arr 66)).alloc (.cells #[.int .i64 0, .int .i64 0] 60)) := ((Below.refl _ _).alloc (Nat.le_refl _) _).alloc (by simp) _
  obtain ⟨W1, hW1⟩ : ∃ W1, (w.alloc (.cells x.arr 66)).alloc (.cells #[.int .i64 0, .int .i64 0] 60) = W1 := ⟨_, rfl⟩
  rw [hW1] at hx0 hz0 hb0
  unfold Tot.arr at hW1
  have c1 : ∀ W, Below w.heap.size w W → Calls prog 93 _ W _ := fun W hb => kindOf_w (hlaid.below hb) num
  have c2 : ∀ W, Below w.heap.size w W → Calls prog 93 _ W _ := fun W hb => kindOf_w (hlaid.below hb) den
  have HK1 := Lib.hid (@kdI_of num)
  have HK2 := Lib.hid (@kdI_of den)
  have HT := Lib.hid (@totsE_zero [x])
  have hE : avgK x num den = fstE [totsE [x], kindE num, kindE den] := rfl
  have HAE : Hid (avgE x num den = if avgK x num den = 0 then rateE (x.c (kdI num)) (x.c (kdI den)) else avgK x num den) := Lib.hid rfl
  have HAN : Hid (avgN x num den = if avgE x num den = 0 then rtN (x.c (kdI num)) (x.c (kdI den)) else 0) := Lib.hid rfl
  have HAD : Hid (avgD x num den = if avgE x num den = 0 then rtD (x.c (kdI num)) (x.c (kdI den)) else 0) := Lib.hid rfl
  have c72 : ∀ W : World, Calls prog 72 #[.slice (some ⟨W.heap.size, 0, none⟩) 1 1] (W.alloc (.cells x.arr 66)) fun e w' => e = .returned (.int .i64 (totsE [x])) ∧ Below (W.alloc (.cells x.arr 66)).heap.size (W.alloc (.cells x.arr 66)) w' := fun W => check_one x W
  obtain ⟨kn, hkn⟩ : ∃ z, kindN num = z := ⟨_, rfl⟩
  obtain ⟨kd, hkd⟩ : ∃ z, kindN den = z := ⟨_, rfl⟩
  obtain ⟨en, hen⟩ : ∃ z, kindE num = z := ⟨_, rfl⟩
  obtain ⟨ed, hed⟩ : ∃ z, kindE den = z := ⟨_, rfl⟩
  obtain ⟨et, het⟩ : ∃ z, totsE [x] = z := ⟨_, rfl⟩
  rw [hkn, hen] at HK1
  rw [hkd, hed] at HK2
  simp only [hkn, hen] at c1
  simp only [hkd, hed] at c2
  simp only [het] at c72
  rw [het] at HT
  rw [het, hen, hed] at hE
  have cF := first3T_w et en ed
  obtain ⟨E, hEE⟩ : ∃ E, fstE [et, en, ed] = E := ⟨_, rfl⟩
  rw [hEE] at cF hE
  rw [hE] at HAE
  have HFE := Lib.hid hEE
  unfold Tot.arr at c72
  generalize avgE x num den = AE at HAE HAN HAD ⊢
  generalize avgN x num den = AN at HAN ⊢
  generalize avgD x num den = AD at HAD ⊢
  clear hkn hkd hen hed het hE hEE hlaid
  go_enter func36, ntmps36
  go_wp2_with fail
  try rw [hW1]
  clear hW1
  go_at_call 93
  refine (c1 _ hb0).mono ?_
  rintro e W2 ⟨rfl, hb2⟩
  have hB2 := hb0.trans (hb2.mono hb0.size)
  have hx2 := hx0.below hb2 hx0.lt
  have hz2 := hz0.below hb2 hz0.lt
  clear c1 hb0 hb2 hx0 hz0
  go_wp2_with fail
  go_at_call 93
  refine (c2 _ hB2).mono ?_
  rintro e W3 ⟨rfl, hb3⟩
  have hB3 := hB2.trans (hb3.mono hB2.size)
  have hx3 := hx2.below hb3 hx2.lt
  have hz3 := hz2.below hb3 hz2.lt
  have c72 := c72 W3
  have hal := fun o => (Below.refl W3.heap.size W3).alloc (Nat.le_refl _) o
  obtain ⟨x0, x1, x2, x3, x4, x5, x6, x7, x8, x9, x10, x11, x12, x13⟩ := box14t hx3
  clear c2 hB2 hb3 hx2 hz2
  go_wp2_with fail
  go_at_call 72
  refine c72.mono ?_
  rintro e W4 ⟨rfl, hb4⟩
  have hb4' := (hal _).trans (hb4.mono (hal _).size)
  have hB4 := hB3.trans (hb4'.mono hB3.size)
  have hx4 := hx3.below hb4' hx3.lt
  have hz4 := hz3.below hb4' hz3.lt
  have hal4 := fun o => (Below.refl W4.heap.size W4).alloc (Nat.le_refl _) o
  clear c72 hal x0 x1 x2 x3 x4 x5 x6 x7 x8 x9 x10 x11 x12 x13 hB3 hx3 hz3 hb4 hb4'
  go_wp2_with fail
  go_at_call 88
  refine (cF _ _ (by simp) (by simp) (by simp)).mono ?_
  rintro e W5 ⟨rfl, rfl⟩
  clear cF
  have hB5 := hB4.trans ((hal4 (.cells #[.int .i64 et, .int .i64 en, .int .i64 ed] 26)).mono hB4.size)
  have hx5 := hx4.below (hal4 (.cells #[.int .i64 et, .int .i64 en, .int .i64 ed] 26)) hx4.lt
  have hz5 := hz4.below (hal4 (.cells #[.int .i64 et, .int .i64 en, .int .i64 ed] 26)) hz4.lt
  clear hal4 hB4 hx4 hz4
  generalize W4.alloc (.cells #[.int .i64 et, .int .i64 en, .int .i64 ed] 26) = W5 at hB5 hx5 hz5 ⊢
  obtain ⟨⟨z0, z1⟩, f0, f1⟩ := box2f hz5
  have hbs : ∀ u v, Below w.heap.size w ((W5.setCell ⟨w.heap.size + 1, 0, none⟩ u).setCell ⟨w.heap.size + 1, 1, none⟩ v) := fun u v => (hB5.setCell (p := ⟨w.heap.size + 1, 0, none⟩) (Nat.le_succ _) u).setCell (p := ⟨w.heap.size + 1, 1, none⟩) (Nat.le_succ _) v
  have hzs : ∀ u v, At ((W5.setCell ⟨w.heap.size + 1, 0, none⟩ u).setCell ⟨w.heap.size + 1, 1, none⟩ v) (w.heap.size + 1) #[u, v] 60 := fun u v => (hz5.set 0 u).set 1 v
  by_cases hE0 : E = 0
  · obtain ⟨q1, q2, q3⟩ := fst3_zero (show fstE [et, en, ed] = 0 by rw [HFE.out, hE0])
    obtain ⟨rfl, hi⟩ := HK1.out q2
    obtain ⟨rfl, hk⟩ := HK2.out q3
    have hnum := ((HT.out q1).2.2 x (by simp)).2
    obtain ⟨i, hii⟩ : ∃ i, kdI num = i := ⟨_, rfl⟩
    obtain ⟨k, hkk⟩ : ∃ i, kdI den = i := ⟨_, rfl⟩
    rw [hii] at hi
    rw [hkk] at hk
    have hr1 : rB (x.c i) := by have := hnum.2 i hi; unfold inR at this; exact this
    have hr2 : rB (x.c k) := by have := hnum.2 k hk; unfold inR at this; exact this
    have HAE2 : Hid (AE = rateE (x.c i) (x.c k)) := Lib.hid (by rw [HAE.out, if_pos hE0, hii, hkk])
    have HRR := Lib.hid (And.intro hr1 hr2)
    have HAN2 : Hid (AN = if AE = 0 then rtN (x.c i) (x.c k) else 0) := Lib.hid (by rw [HAN.out, hii, hkk])
    have HAD2 : Hid (AD = if AE = 0 then rtD (x.c i) (x.c k) else 0) := Lib.hid (by rw [HAD.out, hii, hkk])
    have xi := cell14v hx5 hi
    have xk := cell14v hx5 hk
    have i1 : (i : Int) < 12 := by omega
    have k1 : (k : Int) < 12 := by omega
    have c106 := rate_w (x.c i) (x.c k)
    obtain ⟨xn, hxn⟩ : ∃ m, x.c i = m := ⟨_, rfl⟩
    obtain ⟨xd, hxd⟩ : ∃ m, x.c k = m := ⟨_, rfl⟩
    rw [hxn, hxd] at HAE2 HAN2 HAD2 HRR c106
    rw [hxn] at xi
    rw [hxd] at xk
    subst hE0
    rw [hii, hkk]
    clear q1 q2 q3 hnum hii hkk hr1 hr2 HAE HAN HAD HK1 HK2 HT HFE hxn hxd
    by_cases hd0 : xd = 0
    · have hz6 : Hid (AE = 6) := Lib.hid (by
        rw [HAE2.out]
        unfold rateE
        rw [inB9_rB HRR.out.1, inB9_rB HRR.out.2, if_pos hd0]
        rfl)
      have hN0 : Hid (AN = 0 ∧ AD = 0) := Lib.hid ⟨by rw [HAN2.out, if_neg (by rw [hz6.out]; decide)], by rw [HAD2.out, if_neg (by rw [hz6.out]; decide)]⟩
      have hd1 : (xd == 0) = true := by simpa using hd0
      have hb9 := hbs (.int .i64 0) (.int .i64 0)
      have hz9 := hzs (.int .i64 0) (.int .i64 0)
      clear hbs hzs hd0 HAE2 HAN2 HAD2 c106 hB5 hx5 hz5
      go_wp2_with fail
      exact bodyPost_ret (res36 rfl rfl hz9) rfl ⟨by rw [hN0.out.1, hN0.out.2, hz6.out]; try rfl, hb9⟩
    · have hd1 : (xd == 0) = false := by simpa using hd0
      obtain ⟨P, hP⟩ : ∃ P, (if rateE xn xd = 0 then rtN xn xd else 0) = P := ⟨_, rfl⟩
      obtain ⟨Q, hQ⟩ : ∃ P, (if rateE xn xd = 0 then rtD xn xd else 0) = P := ⟨_, rfl⟩
      have HN9 : Hid (AN = P ∧ AD = Q) := Lib.hid ⟨by rw [HAN2.out, HAE2.out, hP], by rw [HAD2.out, HAE2.out, hQ]⟩
      rw [hP, hQ] at c106
      obtain ⟨er, her⟩ : ∃ e, rateE xn xd = e := ⟨_, rfl⟩
      rw [her] at c106 HAE2
      have hdr : Below W5.heap.size W5 W5.drew := (Below.refl _ _).drew
      have hbk := hdr
      have hzk := hz5.drew
      have XI := Lib.hid xi
      have XK := Lib.hid xk
      have hle : w.heap.size + 1 < W5.heap.size := hz5.lt
      clear hP hQ her hd0 HAN2 HAD2 hx5 hbs hzs
      go_wp2_with fail
      refine wp_region_held_drew (S := (fun W => True)) (by kernel_rfl) ?_ (fun hHeld => ?_)
      · (try dsimp only)
        try trivial
      have pi := (hbk.cell (cell_under XI.out)).trans XI.out
      have pk := (hbk.cell (cell_under XK.out)).trans XK.out
      refine wpAnyH_take (i := 0) (oi := { dst := some 40, op := Op.move (Operand.tmp 8), type := 3, pos := "total.go:146", after := #[], guard := none }) (v := ?_) rfl (by kernel_rfl) (by kernel_rfl) (by kernel_rfl) (fun _ _ _ h => h) (Or.inl ⟨by rfl, ?_⟩) (by assumption) ?_
      rotate_left
      · (intro w hSw; (try dsimp only at hSw); go_simp); all_goals (with_reducible rfl)
      try simp only [Act.put, List.setIfInBounds_toArray, List.set_cons_zero, List.set_cons_succ]
      refine wpAnyH_take (i := 1) (oi := { dst := some 41, op := Op.fieldAddr 66 (Operand.tmp 3) 2, type := 0, pos := "total.go:146", after := #[], guard := none }) (v := ?_) rfl (by kernel_rfl) (by kernel_rfl) (by kernel_rfl) (fun _ _ _ h => h) (Or.inl ⟨by rfl, ?_⟩) (by assumption) ?_
      rotate_left
      · (intro w hSw; (try dsimp only at hSw); go_simp); all_goals (with_reducible rfl)
      try simp only [Act.put, List.setIfInBounds_toArray, List.set_cons_zero, List.set_cons_succ]
      refine wpAnyH_take (i := 2) (oi := { dst := some 42, op := Op.indexAddr 54 (Operand.tmp 41) (Operand.tmp 40), type := 0, pos := "total.go:146", after := #[{ on := 1, ground := Ground.data }, { on := 0, ground := Ground.data }], guard := none }) (v := ?_) rfl (by kernel_rfl) (by kernel_rfl) (by kernel_rfl) (fun _ _ _ h => h) (Or.inl ⟨by rfl, ?_⟩) (by assumption) ?_
      rotate_left
      · (intro w hSw; (try dsimp only at hSw); go_simp); all_goals (with_reducible rfl)
      try simp only [Act.put, List.setIfInBounds_toArray, List.set_cons_zero, List.set_cons_succ]
      refine wpAnyH_take (i := 4) (oi := { dst := some 44, op := Op.move (Operand.tmp 10), type := 3, pos := "total.go:146", after := #[], guard := none }) (v := ?_) rfl (by kernel_rfl) (by kernel_rfl) (by kernel_rfl) (fun _ _ _ h => h) (Or.inl ⟨by rfl, ?_⟩) (by assumption) ?_
      rotate_left
      · (intro w hSw; (try dsimp only at hSw); go_simp); all_goals (with_reducible rfl)
      try simp only [Act.put, List.setIfInBounds_toArray, List.set_cons_zero, List.set_cons_succ]
      refine wpAnyH_take (i := 5) (oi := { dst := some 45, op := Op.fieldAddr 66 (Operand.tmp 3) 2, type := 0, pos := "total.go:146", after := #[], guard := none }) (v := ?_) rfl (by kernel_rfl) (by kernel_rfl) (by kernel_rfl) (fun _ _ _ h => h) (Or.inl ⟨by rfl, ?_⟩) (by assumption) ?_
      rotate_left
      · (intro w hSw; (try dsimp only at hSw); go_simp); all_goals (with_reducible rfl)
      try simp only [Act.put, List.setIfInBounds_toArray, List.set_cons_zero, List.set_cons_succ]
      refine wpAnyH_take (i := 6) (oi := { dst := some 46, op := Op.indexAddr 54 (Operand.tmp 45) (Operand.tmp 44), type := 0, pos := "total.go:146", after := #[{ on := 5, ground := Ground.data }, { on := 4, ground := Ground.data }], guard := none }) (v := ?_) rfl (by kernel_rfl) (by kernel_rfl) (by kernel_rfl) (fun _ _ _ h => h) (Or.inl ⟨by rfl, ?_⟩) (by assumption) ?_
      rotate_left
      · (intro w hSw; (try dsimp only at hSw); go_simp); all_goals (with_reducible rfl)
      try simp only [Act.put, List.setIfInBounds_toArray, List.set_cons_zero, List.set_cons_succ]
      refine wpAnyH_ready (rs := [3, 7]) (by kernel_rfl) (by simp) ?_
      refine AllReadyH.cons (o := _) rfl (fun K hK => ?_) ?_
      · -- load
        go_simp
        refine hK.out _ _ ?_ (fun hHeld => ?_)
        · (try dsimp only)
          try trivial
        clear hK K
        try simp only [Act.put, List.setIfInBounds_toArray, List.set_cons_zero, List.set_cons_succ]
        refine wpAnyH_ready (rs := [7]) (by kernel_rfl) (by simp) ?_
        refine AllReadyH.cons (o := _) rfl (fun K hK => ?_) ?_
        · -- load
          go_simp
          refine hK.out _ _ ?_ (fun hHeld => ?_)
          · (try dsimp only)
            try trivial
          clear hK K
          try simp only [Act.put, List.setIfInBounds_toArray, List.set_cons_zero, List.set_cons_succ]
          refine wpAnyH_ready (rs := [8]) (by kernel_rfl) (by simp) ?_
          refine AllReadyH.cons (o := _) rfl (fun K hK => ?_) ?_
          · -- 106
            (go_simp; refine Calls.mono (c106 _) ?_; rintro e W ⟨rfl, hk⟩; replace hbk := hbk.trans (hk.mono hbk.size); replace hzk := hzk.below hk hzk.lt; clear hk)
            refine hK.out _ _ ?_ (fun hHeld => ?_)
            · (try dsimp only)
              try trivial
            clear hK K
            try simp only [Act.put, List.setIfInBounds_toArray, List.set_cons_zero, List.set_cons_succ]
            refine wpAnyH_take (i := 9) (oi := { dst := some 49, op := Op.extract (Operand.tmp 48) 0, type := 60, pos := "total.go:146", after := #[{ on := 8, ground := Ground.data }], guard := none }) (v := ?_) rfl (by kernel_rfl) (by kernel_rfl) (by kernel_rfl) (fun _ _ _ h => h) (Or.inl ⟨by rfl, ?_⟩) (by assumption) ?_
            rotate_left
            · (intro w hSw; (try dsimp only at hSw); go_simp); all_goals (with_reducible rfl)
            try simp only [Act.put, List.setIfInBounds_toArray, List.set_cons_zero, List.set_cons_succ]
            refine wpAnyH_take (i := 10) (oi := { dst := some 50, op := Op.extract (Operand.tmp 48) 1, type := 26, pos := "total.go:146", after := #[{ on := 8, ground := Ground.data }], guard := none }) (v := ?_) rfl (by kernel_rfl) (by kernel_rfl) (by kernel_rfl) (fun _ _ _ h => h) (Or.inl ⟨by rfl, ?_⟩) (by assumption) ?_
            rotate_left
            · (intro w hSw; (try dsimp only at hSw); go_simp); all_goals (with_reducible rfl)
            try simp only [Act.put, List.setIfInBounds_toArray, List.set_cons_zero, List.set_cons_succ]
            refine wpAnyH_ready (rs := [11]) (by kernel_rfl) (by simp) ?_
            refine AllReadyH.cons (o := { dst := none, op := Op.store 60 (Operand.tmp 6) (Operand.tmp 49), type := 0, pos := "total.go:146", after := #[{ on := 9, ground := Ground.data }, { on := 8, ground := Ground.chain }, { on := 0, ground := Ground.phase }, { on := 1, ground := Ground.phase }, { on := 2, ground := Ground.phase }, { on := 3, ground := Ground.phase }, { on := 4, ground := Ground.phase }, { on := 5, ground := Ground.phase }, { on := 6, ground := Ground.phase }, { on := 7, ground := Ground.phase }, { on := 8, ground := Ground.phase }, { on := 9, ground := Ground.phase }, { on := 10, ground := Ground.phase }], guard := none }) rfl (fun K hK => ?_) ?_
            · -- store
              (obtain ⟨⟨s0, s1⟩, g0, g1⟩ := box2f hzk; go_simp; replace hzk := (hzk.set 0 (.int .i64 P)).set 1 (.int .i64 Q); replace hbk := hB5.trans (hbk.mono hB5.size); replace hbk := (hbk.setCell (p := ⟨w.heap.size + 1, 0, none⟩) (Nat.le_succ _) (.int .i64 P)).setCell (p := ⟨w.heap.size + 1, 1, none⟩) (Nat.le_succ _) (.int .i64 Q); clear s0 s1 g0 g1)
              refine hK.out _ _ ?_ (fun hHeld => ?_)
              · (try dsimp only)
                try trivial
              clear hK K
              try simp only [Act.put, List.setIfInBounds_toArray, List.set_cons_zero, List.set_cons_succ]
              refine wpAnyH_take (i := 12) (oi := { dst := some 7, op := Op.assign (Operand.tmp 50), type := 26, pos := "total.go:146", after := #[{ on := 10, ground := Ground.data }, { on := 11, ground := Ground.chain }, { on := 0, ground := Ground.phase }, { on := 1, ground := Ground.phase }, { on := 2, ground := Ground.phase }, { on := 3, ground := Ground.phase }, { on := 4, ground := Ground.phase }, { on := 5, ground := Ground.phase }, { on := 6, ground := Ground.phase }, { on := 7, ground := Ground.phase }, { on := 8, ground := Ground.phase }, { on := 9, ground := Ground.phase }, { on := 10, ground := Ground.phase }, { on := 11, ground := Ground.phase }], guard := none }) (v := ?_) rfl (by kernel_rfl) (by kernel_rfl) (by kernel_rfl) (fun _ _ _ h => h) (Or.inl ⟨by rfl, ?_⟩) (by assumption) ?_
              rotate_left
              · (intro w hSw; (try dsimp only at hSw); go_simp); all_goals (with_reducible rfl)
              try simp only [Act.put, List.setIfInBounds_toArray, List.set_cons_zero, List.set_cons_succ]
              refine wpAnyH_done (by kernel_rfl) ?_ _
              go_wp2_with fail
              exact bodyPost_ret (res36 rfl rfl hzk) rfl ⟨by rw [HN9.out.1, HN9.out.2, HAE2.out]; try rfl, hbk⟩
            exact AllReadyH.nil
          exact AllReadyH.nil
        exact AllReadyH.nil
      refine AllReadyH.cons (o := _) rfl (fun K hK => ?_) ?_
      · -- load
        go_simp
        refine hK.out _ _ ?_ (fun hHeld => ?_)
        · (try dsimp only)
          try trivial
        clear hK K
        try simp only [Act.put, List.setIfInBounds_toArray, List.set_cons_zero, List.set_cons_succ]
        refine wpAnyH_ready (rs := [3]) (by kernel_rfl) (by simp) ?_
        refine AllReadyH.cons (o := _) rfl (fun K hK => ?_) ?_
        · -- load
          go_simp
          refine hK.out _ _ ?_ (fun hHeld => ?_)
          · (try dsimp only)
            try trivial
          clear hK K
          try simp only [Act.put, List.setIfInBounds_toArray, List.set_cons_zero, List.set_cons_succ]
          refine wpAnyH_ready (rs := [8]) (by kernel_rfl) (by simp) ?_
          refine AllReadyH.cons (o := _) rfl (fun K hK => ?_) ?_
          · -- 106
            (go_simp; refine Calls.mono (c106 _) ?_; rintro e W ⟨rfl, hk⟩; replace hbk := hbk.trans (hk.mono hbk.size); replace hzk := hzk.below hk hzk.lt; clear hk)
            refine hK.out _ _ ?_ (fun hHeld => ?_)
            · (try dsimp only)
              try trivial
            clear hK K
            try simp only [Act.put, List.setIfInBounds_toArray, List.set_cons_zero, List.set_cons_succ]
            refine wpAnyH_take (i := 9) (oi := { dst := some 49, op := Op.extract (Operand.tmp 48) 0, type := 60, pos := "total.go:146", after := #[{ on := 8, ground := Ground.data }], guard := none }) (v := ?_) rfl (by kernel_rfl) (by kernel_rfl) (by kernel_rfl) (fun _ _ _ h => h) (Or.inl ⟨by rfl, ?_⟩) (by assumption) ?_
            rotate_left
            · (intro w hSw; (try dsimp only at hSw); go_simp); all_goals (with_reducible rfl)
            try simp only [Act.put, List.setIfInBounds_toArray, List.set_cons_zero, List.set_cons_succ]
            refine wpAnyH_take (i := 10) (oi := { dst := some 50, op := Op.extract (Operand.tmp 48) 1, type := 26, pos := "total.go:146", after := #[{ on := 8, ground := Ground.data }], guard := none }) (v := ?_) rfl (by kernel_rfl) (by kernel_rfl) (by kernel_rfl) (fun _ _ _ h => h) (Or.inl ⟨by rfl, ?_⟩) (by assumption) ?_
            rotate_left
            · (intro w hSw; (try dsimp only at hSw); go_simp); all_goals (with_reducible rfl)
            try simp only [Act.put, List.setIfInBounds_toArray, List.set_cons_zero, List.set_cons_succ]
            refine wpAnyH_ready (rs := [11]) (by kernel_rfl) (by simp) ?_
            refine AllReadyH.cons (o := { dst := none, op := Op.store 60 (Operand.tmp 6) (Operand.tmp 49), type := 0, pos := "total.go:146", after := #[{ on := 9, ground := Ground.data }, { on := 8, ground := Ground.chain }, { on := 0, ground := Ground.phase }, { on := 1, ground := Ground.phase }, { on := 2, ground := Ground.phase }, { on := 3, ground := Ground.phase }, { on := 4, ground := Ground.phase }, { on := 5, ground := Ground.phase }, { on := 6, ground := Ground.phase }, { on := 7, ground := Ground.phase }, { on := 8, ground := Ground.phase }, { on := 9, ground := Ground.phase }, { on := 10, ground := Ground.phase }], guard := none }) rfl (fun K hK => ?_) ?_
            · -- store
              (obtain ⟨⟨s0, s1⟩, g0, g1⟩ := box2f hzk; go_simp; replace hzk := (hzk.set 0 (.int .i64 P)).set 1 (.int .i64 Q); replace hbk := hB5.trans (hbk.mono hB5.size); replace hbk := (hbk.setCell (p := ⟨w.heap.size + 1, 0, none⟩) (Nat.le_succ _) (.int .i64 P)).setCell (p := ⟨w.heap.size + 1, 1, none⟩) (Nat.le_succ _) (.int .i64 Q); clear s0 s1 g0 g1)
              refine hK.out _ _ ?_ (fun hHeld => ?_)
              · (try dsimp only)
                try trivial
              clear hK K
              try simp only [Act.put, List.setIfInBounds_toArray, List.set_cons_zero, List.set_cons_succ]
              refine wpAnyH_take (i := 12) (oi := { dst := some 7, op := Op.assign (Operand.tmp 50), type := 26, pos := "total.go:146", after := #[{ on := 10, ground := Ground.data }, { on := 11, ground := Ground.chain }, { on := 0, ground := Ground.phase }, { on := 1, ground := Ground.phase }, { on := 2, ground := Ground.phase }, { on := 3, ground := Ground.phase }, { on := 4, ground := Ground.phase }, { on := 5, ground := Ground.phase }, { on := 6, ground := Ground.phase }, { on := 7, ground := Ground.phase }, { on := 8, ground := Ground.phase }, { on := 9, ground := Ground.phase }, { on := 10, ground := Ground.phase }, { on := 11, ground := Ground.phase }], guard := none }) (v := ?_) rfl (by kernel_rfl) (by kernel_rfl) (by kernel_rfl) (fun _ _ _ h => h) (Or.inl ⟨by rfl, ?_⟩) (by assumption) ?_
              rotate_left
              · (intro w hSw; (try dsimp only at hSw); go_simp); all_goals (with_reducible rfl)
              try simp only [Act.put, List.setIfInBounds_toArray, List.set_cons_zero, List.set_cons_succ]
              refine wpAnyH_done (by kernel_rfl) ?_ _
              go_wp2_with fail
              exact bodyPost_ret (res36 rfl rfl hzk) rfl ⟨by rw [HN9.out.1, HN9.out.2, HAE2.out]; try rfl, hbk⟩
            exact AllReadyH.nil
          exact AllReadyH.nil
        exact AllReadyH.nil
      exact AllReadyH.nil
  · have hE1 : (E != 0) = true := by simpa using hE0
    have hz6 : Hid (AE = E) := Lib.hid (by rw [HAE.out, if_neg hE0])
    have hN0 : Hid (AN = 0 ∧ AD = 0) := Lib.hid ⟨by rw [HAN.out, if_neg (by rw [hz6.out]; exact hE0)], by rw [HAD.out, if_neg (by rw [hz6.out]; exact hE0)]⟩
    have hb9 := hbs (.int .i64 0) (.int .i64 0)
    have hz9 := hzs (.int .i64 0) (.int .i64 0)
    clear hbs hzs hE0 HAE HAN HAD hB5 hx5 hz5 HFE
    go_wp2_with fail
    exact bodyPost_ret (res36 rfl rfl hz9) rfl ⟨by rw [hN0.out.1, hN0.out.2, hz6.out]; try rfl, hb9⟩
end Go.Proofs.Tryz
