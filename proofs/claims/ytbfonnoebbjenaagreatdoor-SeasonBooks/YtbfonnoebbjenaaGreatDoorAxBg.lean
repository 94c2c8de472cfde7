/- Games put and removed by the reference: by the kit's walk. -/
import Derived.Test.YtbfonnoebbjenaaGreatDoorAxBf
namespace Go.Proofs.Tryz
open Go Go.Am Go.RowKit Go.Op
set_option maxRecDepth 100000

theorem newOwn9 {B : Nat} {w0 W : World} {e m : Nat} (h : Below B w0 W) (hB : B ≤ w0.heap.size) : OwnRow (W.alloc (.cells #[] e)) B e m (.slice (some ⟨W.heap.size, 0, none⟩) 0 0) [] :=
  ⟨World.ownsRow_made W #[] 0 (Nat.le_trans hB h.size) (Nat.zero_le _) (by simp), fun _ h => absurd h List.not_mem_nil⟩
theorem newOwn7 {B : Nat} {W : World} {e m : Nat} (hB : B ≤ W.heap.size) : OwnRow (W.alloc (.cells #[] e)) B e m (.slice (some ⟨W.heap.size, 0, none⟩) 0 0) [] :=
  ⟨World.ownsRow_made W #[] 0 hB (Nat.zero_le _) (by simp), fun _ h => absurd h List.not_mem_nil⟩
theorem put_fin {L : List GE} {x : GE} {q : Nat} (hs : SortG (gmL L)) (hn : ∀ y ∈ gmL L, y.nm ≠ x.g.nm) (hq : q ≤ L.length) (hA : ∀ a, 0 < q → L[q - 1]? = some a → befB x.g a.g = false) (hB : ∀ r (y : GE), q ≤ r → L[r]? = some y → befB x.g y.g = true) : (L.take q ++ x :: L.drop q).Perm (L ++ [x]) ∧ SortG (gmL (L.take q ++ x :: L.drop q)) := by
  have h := putG_ok (x := x.g) (q := q) hs hn (by rw [gmL_len]; exact hq) (fun a h0 ha => by
    unfold gmL at ha
    rw [List.getElem?_map, Option.map_eq_some_iff] at ha
    obtain ⟨b, hb, rfl⟩ := ha
    exact hA b h0 hb) (fun r y hr hy => by
    unfold gmL at hy
    rw [List.getElem?_map, Option.map_eq_some_iff] at hy
    obtain ⟨b, hb, rfl⟩ := hy
    exact hB r b hr hb)
  constructor
  · refine List.perm_middle.trans ?_
    rw [List.take_append_drop]
    exact (List.perm_append_singleton x _).symm
  · have e : gmL (L.take q ++ x :: L.drop q) = (gmL L).take q ++ x.g :: (gmL L).drop q := by
      unfold gmL
      rw [List.map_append, List.map_cons, List.map_take, List.map_drop]
    rw [e]
    exact h.2
set_option maxHeartbeats 6400000 in
theorem putR_w {L : List GE} {xg : GmD} {xa : Option Addr} {xc : Nat} {v : Value} {w : World} (h : IsGE w v L) (hn : L.length ≤ 1000) (hs : SortG (gmL L)) (hne : ∀ y ∈ gmL L, y.nm ≠ xg.nm) :
    Calls prog 65 #[v, .agg #[.string (bA xg.nm), .int .i64 xg.ver, .int .i64 xg.day, .string (bA xg.t0), .string (bA xg.t1), .int .i64 xg.s0, .int .i64 xg.s1, .slice xa xg.k xc]] w fun e w' => (∃ u M, e = .returned u ∧ M.Perm (L ++ [(⟨xg, xa, xc⟩ : GE)]) ∧ SortG (gmL M) ∧ OwnGL w' w.heap.size 105 u M) ∧ Below w.heap.size w w' := by
  obtain ⟨iG, TG⟩ := elGR
  have HT := Lib.hid TG
  have hb0 : Below w.heap.size w (w.alloc (.cells #[.string (bA xg.nm), .int .i64 xg.ver, .int .i64 xg.day, .string (bA xg.t0), .string (bA xg.t1), .int .i64 xg.s0, .int .i64 xg.s1, .slice xa xg.k xc] 105)) := (Below.refl _ _).alloc (Nat.le_refl _) _
  have hx := at_new w #[.string (bA xg.nm), .int .i64 xg.ver, .int .i64 xg.day, .string (bA xg.t0), .string (bA xg.t1), .int .i64 xg.s0, .int .i64 xg.s1, .slice xa xg.k xc] 105
  obtain ⟨W1, hW⟩ : ∃ W1, w.alloc (.cells #[.string (bA xg.nm), .int .i64 xg.ver, .int .i64 xg.day, .string (bA xg.t0), .string (bA xg.t1), .int .i64 xg.s0, .int .i64 xg.s1, .slice xa xg.k xc] 105) = W1 := ⟨_, rfl⟩
  rw [hW] at hb0 hx
  obtain ⟨va, vc, rfl, hk⟩ := h.slice
  obtain ⟨n, hln⟩ : ∃ n, L.length = n := ⟨_, rfl⟩
  have HL := Lib.hid hln
  rw [hln] at h hk hn ⊢
  have HV := Lib.hid h
  have HS := Lib.hid (And.intro hs hne)
  have hnn : (L.map GE.cells).length = n := by rw [List.length_map]; exact hln
  have HN := Lib.hid (show (L.map GE.cells).length ≤ 100000 by rw [hnn]; omega)
  have HNN := Lib.hid hnn
  clear h hs hne TG hln hnn
  go_enter func65, ntmps65
  go_wp2_with fail
  try rw [hW]
  clear hW
  have hbk : Below w.heap.size w W1.drew := hb0.drew
  have hx1 : At W1.drew w.heap.size #[.string (bA xg.nm), .int .i64 xg.ver, .int .i64 xg.day, .string (bA xg.t0), .string (bA xg.t1), .int .i64 xg.s0, .int .i64 xg.s1, .slice xa xg.k xc] 105 := hx
  clear hb0 hx
  go_cut [5] (fun s5 wx => ∃ g9 c9, s5 = .slice (some ⟨g9, 0, none⟩) (n + 1) c9 ∧ w.heap.size ≤ g9 ∧ OwnGL wx w.heap.size 105 (.slice (some ⟨g9, 0, none⟩) (n + 1) c9) (L.take n ++ (⟨xg, xa, xc⟩ : GE) :: L.drop n) ∧ Below w.heap.size w wx)
  case first =>
    refine wp_region_held_drew (S := (fun W => At W w.heap.size #[.string (bA xg.nm), .int .i64 xg.ver, .int .i64 xg.day, .string (bA xg.t0), .string (bA xg.t1), .int .i64 xg.s0, .int .i64 xg.s1, .slice xa xg.k xc] 105)) (by kernel_rfl) ?_ (fun hHeld => ?_)
    · (try dsimp only)
      exact hx1
    generalize W1.drew = W2 at hbk hx1 ⊢
    refine wpAnyH_take (i := 1) (oi := { dst := some 8, op := Op.move (Operand.tmp 0), type := 22, pos := "ref.go:205", after := #[], guard := none }) (v := ?_) rfl (by kernel_rfl) (by kernel_rfl) (by kernel_rfl) (fun _ _ _ h => h) (Or.inl ⟨by rfl, ?_⟩) (by assumption) ?_
    rotate_left
    · (intro w hSw; (try dsimp only at hSw); go_simp); all_goals (with_reducible rfl)
    try simp only [Act.put, List.setIfInBounds_toArray, List.set_cons_zero, List.set_cons_succ]
    refine wpAnyH_take (i := 3) (oi := { dst := some 10, op := Op.load 105 (Operand.tmp 3), type := 105, pos := "ref.go:205", after := #[], guard := none }) (v := ?_) rfl (by kernel_rfl) (by kernel_rfl) (by kernel_rfl) (fun _ _ _ h => h) (Or.inl ⟨by rfl, ?_⟩) (by assumption) ?_
    rotate_left
    · (intro w hSw; obtain ⟨⟨x0, x1, x2, x3, x4, x5, x6, x7⟩, -⟩ := box8 hSw; (try dsimp only at hSw); go_simp); all_goals (with_reducible rfl)
    try simp only [Act.put, List.setIfInBounds_toArray, List.set_cons_zero, List.set_cons_succ]
    refine wpAnyH_ready (rs := [0, 4]) (by kernel_rfl) (by simp) ?_
    refine AllReadyH.cons (o := { dst := some 7, op := Op.buildSlice 22 0 #[], type := 22, pos := "ref.go:205", after := #[], guard := none }) rfl (fun K hK => ?_) ?_
    · -- buildSlice
      (go_simp; have hE := newOwn7 (B := w.heap.size + 1) (e := 105) (m := 8) hx1.lt; have hnx := Nat.ne_of_lt hx1.lt; (try have hne := Nat.ne_of_lt hX.lt); (try simp only [size_alloc9] at hE); (try simp only [size_alloc9] at hnx); (try simp only [size_alloc9] at hne); (try replace hX := hX.alloc (.cells #[] 105)); replace hx1 := hx1.alloc (.cells #[] 105); replace hbk := hbk.alloc hbk.size (.cells #[] 105))
      refine hK.out _ _ ?_ (fun hHeld => ?_)
      · (try dsimp only)
        exact hx1
      clear hK K
      try simp only [Act.put, List.setIfInBounds_toArray, List.set_cons_zero, List.set_cons_succ]
      refine wpAnyH_ready (rs := [2, 4]) (by kernel_rfl) (by simp) ?_
      refine AllReadyH.cons (o := { dst := some 9, op := Op.call { callee := Callee.builtin Builtin.append, args := #[Operand.tmp 7, Operand.tmp 8], argTypes := #[22, 22] }, type := 22, pos := "ref.go:205", after := #[{ on := 0, ground := Ground.data }, { on := 1, ground := Ground.data }], guard := none }) rfl (fun K hK => ?_) ?_
      · -- append
        (obtain ⟨v1, w1, hrun, hR, hg⟩ := run_appendH HT.out 22 hE (HV.out.below hbk).1 (ge_len L) (ge_one L) (Nat.zero_le _) HN.out hx1.lt; refine app_step rfl (app_run (s := .tmp 7) (x := .tmp 8) rfl rfl rfl rfl hrun) ?_; (try replace hX := (show At _ _ _ _ from (hg.block _ hX.lt (fun e => hne (Option.some.inj e))).trans hX)); replace hx1 : At w1 w.heap.size #[.string (bA xg.nm), .int .i64 xg.ver, .int .i64 xg.day, .string (bA xg.t0), .string (bA xg.t1), .int .i64 xg.s0, .int .i64 xg.s1, .slice xa xg.k xc] 105 := (hg.block _ hx1.lt (fun e => hnx (Option.some.inj e))).trans hx1; replace hbk := hbk.grown hg hbk.size (fun q hq => by cases hq; exact Nat.le_of_succ_le (hE.lt _ rfl).1); rw [List.nil_append] at hR; clear hE hrun hg)
        refine hK.out _ _ ?_ (fun hHeld => ?_)
        · (try dsimp only)
          exact hx1
        clear hK K
        try simp only [Act.put, List.setIfInBounds_toArray, List.set_cons_zero, List.set_cons_succ]
        refine wpAnyH_ready (rs := [4]) (by kernel_rfl) (by simp) ?_
        refine AllReadyH.cons (o := { dst := some 11, op := Op.buildSlice 22 1 #[(0, Operand.tmp 10)], type := 22, pos := "ref.go:205", after := #[{ on := 3, ground := Ground.data }], guard := none }) rfl (fun K hK => ?_) ?_
        · -- buildSlice
          (go_simp; have hX := newAt8 hbk #[.string (bA xg.nm), .int .i64 xg.ver, .int .i64 xg.day, .string (bA xg.t0), .string (bA xg.t1), .int .i64 xg.s0, .int .i64 xg.s1, .slice xa xg.k xc] 105; (try have hne := Nat.ne_of_gt (hE.lt _ rfl).2); (try simp only [size_alloc9] at hX); (try simp only [size_alloc9] at hne); (try replace hE := OwnRow.below hE ((Below.refl _ _).alloc (Nat.le_refl _) (.cells #[.string (bA xg.nm), .int .i64 xg.ver, .int .i64 xg.day, .string (bA xg.t0), .string (bA xg.t1), .int .i64 xg.s0, .int .i64 xg.s1, .slice xa xg.k xc] 105))); (try replace hR := OwnRow.below hR ((Below.refl _ _).alloc (Nat.le_refl _) (.cells #[.string (bA xg.nm), .int .i64 xg.ver, .int .i64 xg.day, .string (bA xg.t0), .string (bA xg.t1), .int .i64 xg.s0, .int .i64 xg.s1, .slice xa xg.k xc] 105))); replace hx1 := hx1.alloc (.cells #[.string (bA xg.nm), .int .i64 xg.ver, .int .i64 xg.day, .string (bA xg.t0), .string (bA xg.t1), .int .i64 xg.s0, .int .i64 xg.s1, .slice xa xg.k xc] 105); replace hbk := hbk.alloc hbk.size (.cells #[.string (bA xg.nm), .int .i64 xg.ver, .int .i64 xg.day, .string (bA xg.t0), .string (bA xg.t1), .int .i64 xg.s0, .int .i64 xg.s1, .slice xa xg.k xc] 105))
          refine hK.out _ _ ?_ (fun hHeld => ?_)
          · (try dsimp only)
            exact hx1
          clear hK K
          try simp only [Act.put, List.setIfInBounds_toArray, List.set_cons_zero, List.set_cons_succ]
          refine wpAnyH_ready (rs := [5]) (by kernel_rfl) (by simp) ?_
          refine AllReadyH.cons (o := { dst := some 12, op := Op.call { callee := Callee.builtin Builtin.append, args := #[Operand.tmp 9, Operand.tmp 11], argTypes := #[22, 22] }, type := 22, pos := "ref.go:205", after := #[{ on := 2, ground := Ground.data }, { on := 4, ground := Ground.data }, { on := 2, ground := Ground.chain }], guard := none }) rfl (fun K hK => ?_) ?_
          · -- append
            (obtain ⟨a9, k9, c9, w9, hrun, hA⟩ := run_appendR (ty := 22) HT.out _ (w.heap.size + 1) _ (L.map GE.cells) v1 hR (Nat.le_trans HN.out (by decide)) ((⟨xg, xa, xc⟩ : GE)).cells rfl (GE.one _) hX 1 hx1.lt; refine app_step rfl (app_run (s := .tmp 9) (x := .tmp 11) rfl rfl rfl rfl hrun) ?_; replace hx1 : At w9 w.heap.size #[.string (bA xg.nm), .int .i64 xg.ver, .int .i64 xg.day, .string (bA xg.t0), .string (bA xg.t1), .int .i64 xg.s0, .int .i64 xg.s1, .slice xa xg.k xc] 105 := (hA.old _ (Nat.lt_succ_self _) hx1.lt).trans hx1)
            refine hK.out _ _ ?_ (fun hHeld => ?_)
            · (try dsimp only)
              exact hx1
            clear hK K
            try simp only [Act.put, List.setIfInBounds_toArray, List.set_cons_zero, List.set_cons_succ]
            refine wpAnyH_take (i := 6) (oi := { dst := some 5, op := Op.assign (Operand.tmp 12), type := 22, pos := "ref.go:205", after := #[{ on := 5, ground := Ground.data }, { on := 5, ground := Ground.chain }, { on := 0, ground := Ground.phase }, { on := 1, ground := Ground.phase }, { on := 2, ground := Ground.phase }, { on := 3, ground := Ground.phase }, { on := 4, ground := Ground.phase }, { on := 5, ground := Ground.phase }], guard := none }) (v := ?_) rfl (by kernel_rfl) (by kernel_rfl) (by kernel_rfl) (fun _ _ _ h => h) (Or.inl ⟨by rfl, ?_⟩) (by assumption) ?_
            rotate_left
            · (intro w hSw; (try dsimp only at hSw); go_simp); all_goals (with_reducible rfl)
            try simp only [Act.put, List.setIfInBounds_toArray, List.set_cons_zero, List.set_cons_succ]
            refine wpAnyH_done (by kernel_rfl) ?_ _
            have hrow9 := hA.row
            have hb9 : Below w.heap.size w w9 := hA.below w hbk (Nat.le_succ _)
            obtain ⟨g9, cap9, e9, hbg9, hcap9⟩ := hrow9.own (i := 0) (by simp)
            rw [List.length_append, HNN.out, List.length_singleton] at e9 hcap9
            simp only [Value.slice.injEq] at e9
            obtain ⟨rfl, rfl, rfl⟩ := e9
            have hrow9 : OwnGL w9 w.heap.size 105 (.slice (some ⟨g9, 0, none⟩) (n + 1) c9) (L.take n ++ (⟨xg, xa, xc⟩ : GE) :: L.drop n) := by
              rw [← HL.out, List.take_length, List.drop_length]
              have := hA.row
              rw [HL.out]
              unfold OwnGL
              rw [List.map_append]
              exact OwnRow.mono this (Nat.le_succ _)
            clear hA hR hX hrun hbk hx1
            go_wp2_with fail
            go_meet
            exact ⟨_, _, rfl, Nat.le_of_succ_le hbg9, hrow9, hb9⟩
          exact AllReadyH.nil
        exact AllReadyH.nil
      refine AllReadyH.cons (o := { dst := some 11, op := Op.buildSlice 22 1 #[(0, Operand.tmp 10)], type := 22, pos := "ref.go:205", after := #[{ on := 3, ground := Ground.data }], guard := none }) rfl (fun K hK => ?_) ?_
      · -- buildSlice
        (go_simp; have hX := newAt8 hbk #[.string (bA xg.nm), .int .i64 xg.ver, .int .i64 xg.day, .string (bA xg.t0), .string (bA xg.t1), .int .i64 xg.s0, .int .i64 xg.s1, .slice xa xg.k xc] 105; (try have hne := Nat.ne_of_gt (hE.lt _ rfl).2); (try simp only [size_alloc9] at hX); (try simp only [size_alloc9] at hne); (try replace hE := OwnRow.below hE ((Below.refl _ _).alloc (Nat.le_refl _) (.cells #[.string (bA xg.nm), .int .i64 xg.ver, .int .i64 xg.day, .string (bA xg.t0), .string (bA xg.t1), .int .i64 xg.s0, .int .i64 xg.s1, .slice xa xg.k xc] 105))); (try replace hR := OwnRow.below hR ((Below.refl _ _).alloc (Nat.le_refl _) (.cells #[.string (bA xg.nm), .int .i64 xg.ver, .int .i64 xg.day, .string (bA xg.t0), .string (bA xg.t1), .int .i64 xg.s0, .int .i64 xg.s1, .slice xa xg.k xc] 105))); replace hx1 := hx1.alloc (.cells #[.string (bA xg.nm), .int .i64 xg.ver, .int .i64 xg.day, .string (bA xg.t0), .string (bA xg.t1), .int .i64 xg.s0, .int .i64 xg.s1, .slice xa xg.k xc] 105); replace hbk := hbk.alloc hbk.size (.cells #[.string (bA xg.nm), .int .i64 xg.ver, .int .i64 xg.day, .string (bA xg.t0), .string (bA xg.t1), .int .i64 xg.s0, .int .i64 xg.s1, .slice xa xg.k xc] 105))
        refine hK.out _ _ ?_ (fun hHeld => ?_)
        · (try dsimp only)
          exact hx1
        clear hK K
        try simp only [Act.put, List.setIfInBounds_toArray, List.set_cons_zero, List.set_cons_succ]
        refine wpAnyH_ready (rs := [2]) (by kernel_rfl) (by simp) ?_
        refine AllReadyH.cons (o := { dst := some 9, op := Op.call { callee := Callee.builtin Builtin.append, args := #[Operand.tmp 7, Operand.tmp 8], argTypes := #[22, 22] }, type := 22, pos := "ref.go:205", after := #[{ on := 0, ground := Ground.data }, { on := 1, ground := Ground.data }], guard := none }) rfl (fun K hK => ?_) ?_
        · -- append
          (obtain ⟨v1, w1, hrun, hR, hg⟩ := run_appendH HT.out 22 hE (HV.out.below hbk).1 (ge_len L) (ge_one L) (Nat.zero_le _) HN.out hx1.lt; refine app_step rfl (app_run (s := .tmp 7) (x := .tmp 8) rfl rfl rfl rfl hrun) ?_; (try replace hX := (show At _ _ _ _ from (hg.block _ hX.lt (fun e => hne (Option.some.inj e))).trans hX)); replace hx1 : At w1 w.heap.size #[.string (bA xg.nm), .int .i64 xg.ver, .int .i64 xg.day, .string (bA xg.t0), .string (bA xg.t1), .int .i64 xg.s0, .int .i64 xg.s1, .slice xa xg.k xc] 105 := (hg.block _ hx1.lt (fun e => hnx (Option.some.inj e))).trans hx1; replace hbk := hbk.grown hg hbk.size (fun q hq => by cases hq; exact Nat.le_of_succ_le (hE.lt _ rfl).1); rw [List.nil_append] at hR; clear hE hrun hg)
          refine hK.out _ _ ?_ (fun hHeld => ?_)
          · (try dsimp only)
            exact hx1
          clear hK K
          try simp only [Act.put, List.setIfInBounds_toArray, List.set_cons_zero, List.set_cons_succ]
          refine wpAnyH_ready (rs := [5]) (by kernel_rfl) (by simp) ?_
          refine AllReadyH.cons (o := { dst := some 12, op := Op.call { callee := Callee.builtin Builtin.append, args := #[Operand.tmp 9, Operand.tmp 11], argTypes := #[22, 22] }, type := 22, pos := "ref.go:205", after := #[{ on := 2, ground := Ground.data }, { on := 4, ground := Ground.data }, { on := 2, ground := Ground.chain }], guard := none }) rfl (fun K hK => ?_) ?_
          · -- append
            (obtain ⟨a9, k9, c9, w9, hrun, hA⟩ := run_appendR (ty := 22) HT.out _ (w.heap.size + 1) _ (L.map GE.cells) v1 hR (Nat.le_trans HN.out (by decide)) ((⟨xg, xa, xc⟩ : GE)).cells rfl (GE.one _) hX 1 hx1.lt; refine app_step rfl (app_run (s := .tmp 9) (x := .tmp 11) rfl rfl rfl rfl hrun) ?_; replace hx1 : At w9 w.heap.size #[.string (bA xg.nm), .int .i64 xg.ver, .int .i64 xg.day, .string (bA xg.t0), .string (bA xg.t1), .int .i64 xg.s0, .int .i64 xg.s1, .slice xa xg.k xc] 105 := (hA.old _ (Nat.lt_succ_self _) hx1.lt).trans hx1)
            refine hK.out _ _ ?_ (fun hHeld => ?_)
            · (try dsimp only)
              exact hx1
            clear hK K
            try simp only [Act.put, List.setIfInBounds_toArray, List.set_cons_zero, List.set_cons_succ]
            refine wpAnyH_take (i := 6) (oi := { dst := some 5, op := Op.assign (Operand.tmp 12), type := 22, pos := "ref.go:205", after := #[{ on := 5, ground := Ground.data }, { on := 5, ground := Ground.chain }, { on := 0, ground := Ground.phase }, { on := 1, ground := Ground.phase }, { on := 2, ground := Ground.phase }, { on := 3, ground := Ground.phase }, { on := 4, ground := Ground.phase }, { on := 5, ground := Ground.phase }], guard := none }) (v := ?_) rfl (by kernel_rfl) (by kernel_rfl) (by kernel_rfl) (fun _ _ _ h => h) (Or.inl ⟨by rfl, ?_⟩) (by assumption) ?_
            rotate_left
            · (intro w hSw; (try dsimp only at hSw); go_simp); all_goals (with_reducible rfl)
            try simp only [Act.put, List.setIfInBounds_toArray, List.set_cons_zero, List.set_cons_succ]
            refine wpAnyH_done (by kernel_rfl) ?_ _
            have hrow9 := hA.row
            have hb9 : Below w.heap.size w w9 := hA.below w hbk (Nat.le_succ _)
            obtain ⟨g9, cap9, e9, hbg9, hcap9⟩ := hrow9.own (i := 0) (by simp)
            rw [List.length_append, HNN.out, List.length_singleton] at e9 hcap9
            simp only [Value.slice.injEq] at e9
            obtain ⟨rfl, rfl, rfl⟩ := e9
            have hrow9 : OwnGL w9 w.heap.size 105 (.slice (some ⟨g9, 0, none⟩) (n + 1) c9) (L.take n ++ (⟨xg, xa, xc⟩ : GE) :: L.drop n) := by
              rw [← HL.out, List.take_length, List.drop_length]
              have := hA.row
              rw [HL.out]
              unfold OwnGL
              rw [List.map_append]
              exact OwnRow.mono this (Nat.le_succ _)
            clear hA hR hX hrun hbk hx1
            go_wp2_with fail
            go_meet
            exact ⟨_, _, rfl, Nat.le_of_succ_le hbg9, hrow9, hb9⟩
          exact AllReadyH.nil
        exact AllReadyH.nil
      exact AllReadyH.nil
    refine AllReadyH.cons (o := { dst := some 11, op := Op.buildSlice 22 1 #[(0, Operand.tmp 10)], type := 22, pos := "ref.go:205", after := #[{ on := 3, ground := Ground.data }], guard := none }) rfl (fun K hK => ?_) ?_
    · -- buildSlice
      (go_simp; have hX := newAt8 hbk #[.string (bA xg.nm), .int .i64 xg.ver, .int .i64 xg.day, .string (bA xg.t0), .string (bA xg.t1), .int .i64 xg.s0, .int .i64 xg.s1, .slice xa xg.k xc] 105; (try have hne := Nat.ne_of_gt (hE.lt _ rfl).2); (try simp only [size_alloc9] at hX); (try simp only [size_alloc9] at hne); (try replace hE := OwnRow.below hE ((Below.refl _ _).alloc (Nat.le_refl _) (.cells #[.string (bA xg.nm), .int .i64 xg.ver, .int .i64 xg.day, .string (bA xg.t0), .string (bA xg.t1), .int .i64 xg.s0, .int .i64 xg.s1, .slice xa xg.k xc] 105))); (try replace hR := OwnRow.below hR ((Below.refl _ _).alloc (Nat.le_refl _) (.cells #[.string (bA xg.nm), .int .i64 xg.ver, .int .i64 xg.day, .string (bA xg.t0), .string (bA xg.t1), .int .i64 xg.s0, .int .i64 xg.s1, .slice xa xg.k xc] 105))); replace hx1 := hx1.alloc (.cells #[.string (bA xg.nm), .int .i64 xg.ver, .int .i64 xg.day, .string (bA xg.t0), .string (bA xg.t1), .int .i64 xg.s0, .int .i64 xg.s1, .slice xa xg.k xc] 105); replace hbk := hbk.alloc hbk.size (.cells #[.string (bA xg.nm), .int .i64 xg.ver, .int .i64 xg.day, .string (bA xg.t0), .string (bA xg.t1), .int .i64 xg.s0, .int .i64 xg.s1, .slice xa xg.k xc] 105))
      refine hK.out _ _ ?_ (fun hHeld => ?_)
      · (try dsimp only)
        exact hx1
      clear hK K
      try simp only [Act.put, List.setIfInBounds_toArray, List.set_cons_zero, List.set_cons_succ]
      refine wpAnyH_ready (rs := [0]) (by kernel_rfl) (by simp) ?_
      refine AllReadyH.cons (o := { dst := some 7, op := Op.buildSlice 22 0 #[], type := 22, pos := "ref.go:205", after := #[], guard := none }) rfl (fun K hK => ?_) ?_
      · -- buildSlice
        (go_simp; have hE := newOwn7 (B := w.heap.size + 1) (e := 105) (m := 8) hx1.lt; have hnx := Nat.ne_of_lt hx1.lt; (try have hne := Nat.ne_of_lt hX.lt); (try simp only [size_alloc9] at hE); (try simp only [size_alloc9] at hnx); (try simp only [size_alloc9] at hne); (try replace hX := hX.alloc (.cells #[] 105)); replace hx1 := hx1.alloc (.cells #[] 105); replace hbk := hbk.alloc hbk.size (.cells #[] 105))
        refine hK.out _ _ ?_ (fun hHeld => ?_)
        · (try dsimp only)
          exact hx1
        clear hK K
        try simp only [Act.put, List.setIfInBounds_toArray, List.set_cons_zero, List.set_cons_succ]
        refine wpAnyH_ready (rs := [2]) (by kernel_rfl) (by simp) ?_
        refine AllReadyH.cons (o := { dst := some 9, op := Op.call { callee := Callee.builtin Builtin.append, args := #[Operand.tmp 7, Operand.tmp 8], argTypes := #[22, 22] }, type := 22, pos := "ref.go:205", after := #[{ on := 0, ground := Ground.data }, { on := 1, ground := Ground.data }], guard := none }) rfl (fun K hK => ?_) ?_
        · -- append
          (obtain ⟨v1, w1, hrun, hR, hg⟩ := run_appendH HT.out 22 hE (HV.out.below hbk).1 (ge_len L) (ge_one L) (Nat.zero_le _) HN.out hx1.lt; refine app_step rfl (app_run (s := .tmp 7) (x := .tmp 8) rfl rfl rfl rfl hrun) ?_; (try replace hX := (show At _ _ _ _ from (hg.block _ hX.lt (fun e => hne (Option.some.inj e))).trans hX)); replace hx1 : At w1 w.heap.size #[.string (bA xg.nm), .int .i64 xg.ver, .int .i64 xg.day, .string (bA xg.t0), .string (bA xg.t1), .int .i64 xg.s0, .int .i64 xg.s1, .slice xa xg.k xc] 105 := (hg.block _ hx1.lt (fun e => hnx (Option.some.inj e))).trans hx1; replace hbk := hbk.grown hg hbk.size (fun q hq => by cases hq; exact Nat.le_of_succ_le (hE.lt _ rfl).1); rw [List.nil_append] at hR; clear hE hrun hg)
          refine hK.out _ _ ?_ (fun hHeld => ?_)
          · (try dsimp only)
            exact hx1
          clear hK K
          try simp only [Act.put, List.setIfInBounds_toArray, List.set_cons_zero, List.set_cons_succ]
          refine wpAnyH_ready (rs := [5]) (by kernel_rfl) (by simp) ?_
          refine AllReadyH.cons (o := { dst := some 12, op := Op.call { callee := Callee.builtin Builtin.append, args := #[Operand.tmp 9, Operand.tmp 11], argTypes := #[22, 22] }, type := 22, pos := "ref.go:205", after := #[{ on := 2, ground := Ground.data }, { on := 4, ground := Ground.data }, { on := 2, ground := Ground.chain }], guard := none }) rfl (fun K hK => ?_) ?_
          · -- append
            (obtain ⟨a9, k9, c9, w9, hrun, hA⟩ := run_appendR (ty := 22) HT.out _ (w.heap.size + 1) _ (L.map GE.cells) v1 hR (Nat.le_trans HN.out (by decide)) ((⟨xg, xa, xc⟩ : GE)).cells rfl (GE.one _) hX 1 hx1.lt; refine app_step rfl (app_run (s := .tmp 9) (x := .tmp 11) rfl rfl rfl rfl hrun) ?_; replace hx1 : At w9 w.heap.size #[.string (bA xg.nm), .int .i64 xg.ver, .int .i64 xg.day, .string (bA xg.t0), .string (bA xg.t1), .int .i64 xg.s0, .int .i64 xg.s1, .slice xa xg.k xc] 105 := (hA.old _ (Nat.lt_succ_self _) hx1.lt).trans hx1)
            refine hK.out _ _ ?_ (fun hHeld => ?_)
            · (try dsimp only)
              exact hx1
            clear hK K
            try simp only [Act.put, List.setIfInBounds_toArray, List.set_cons_zero, List.set_cons_succ]
            refine wpAnyH_take (i := 6) (oi := { dst := some 5, op := Op.assign (Operand.tmp 12), type := 22, pos := "ref.go:205", after := #[{ on := 5, ground := Ground.data }, { on := 5, ground := Ground.chain }, { on := 0, ground := Ground.phase }, { on := 1, ground := Ground.phase }, { on := 2, ground := Ground.phase }, { on := 3, ground := Ground.phase }, { on := 4, ground := Ground.phase }, { on := 5, ground := Ground.phase }], guard := none }) (v := ?_) rfl (by kernel_rfl) (by kernel_rfl) (by kernel_rfl) (fun _ _ _ h => h) (Or.inl ⟨by rfl, ?_⟩) (by assumption) ?_
            rotate_left
            · (intro w hSw; (try dsimp only at hSw); go_simp); all_goals (with_reducible rfl)
            try simp only [Act.put, List.setIfInBounds_toArray, List.set_cons_zero, List.set_cons_succ]
            refine wpAnyH_done (by kernel_rfl) ?_ _
            have hrow9 := hA.row
            have hb9 : Below w.heap.size w w9 := hA.below w hbk (Nat.le_succ _)
            obtain ⟨g9, cap9, e9, hbg9, hcap9⟩ := hrow9.own (i := 0) (by simp)
            rw [List.length_append, HNN.out, List.length_singleton] at e9 hcap9
            simp only [Value.slice.injEq] at e9
            obtain ⟨rfl, rfl, rfl⟩ := e9
            have hrow9 : OwnGL w9 w.heap.size 105 (.slice (some ⟨g9, 0, none⟩) (n + 1) c9) (L.take n ++ (⟨xg, xa, xc⟩ : GE) :: L.drop n) := by
              rw [← HL.out, List.take_length, List.drop_length]
              have := hA.row
              rw [HL.out]
              unfold OwnGL
              rw [List.map_append]
              exact OwnRow.mono this (Nat.le_succ _)
            clear hA hR hX hrun hbk hx1
            go_wp2_with fail
            go_meet
            exact ⟨_, _, rfl, Nat.le_of_succ_le hbg9, hrow9, hb9⟩
          exact AllReadyH.nil
        exact AllReadyH.nil
      exact AllReadyH.nil
    exact AllReadyH.nil
  case rest =>
    obtain ⟨g9, c9, rfl, hbg9, hrow9, hb9⟩ := hcut
    clear hbk hx1 HV HN HNN HT hk
    have i5 : IntKind.i64.wrap ((n : Int) + 1 - 1) = (n : Int) := by rw [IntWalk.i64_in _ (by omega)]; omega
    have HS0 : Hid (∀ j t, n ≤ j → L[j]? = some t → befB xg t.g = true) := Lib.hid fun j t hj ht => by
      have := (List.getElem?_eq_some_iff.1 ht).1
      rw [HL.out] at this
      omega
    have HG9 := Lib.hid hbg9
    clear hbg9
    go_wp2_with fail
    go_loopw [6] (fun t wx => ∃ k : Nat, k ≤ n ∧ t = .int .i64 k ∧ OwnGL wx w.heap.size 105 (.slice (some ⟨g9, 0, none⟩) (n + 1) c9) (L.take k ++ (⟨xg, xa, xc⟩ : GE) :: L.drop k) ∧ Hid (∀ j t, k ≤ j → L[j]? = some t → befB xg t.g = true) ∧ Below w.heap.size w wx) (fun t _ => (numOf' t).toNat)
    case atStart => exact ⟨n, Nat.le_refl _, rfl, hrow9, HS0, hb9⟩
    case round =>
      clear hrow9 HS0 hb9
      obtain ⟨k, hk, rfl, hM, hE, hkp⟩ := hrel
      have hdr : Below wr.heap.size wr wr.drew := (Below.refl _ _).drew
      rcases Nat.eq_zero_or_pos k with hk0 | hk0
      · have i1 : ¬ (0 : Int) < (k : Int) := by omega
        have HF : Hid ((L.take k ++ (⟨xg, xa, xc⟩ : GE) :: L.drop k).Perm (L ++ [(⟨xg, xa, xc⟩ : GE)]) ∧ SortG (gmL (L.take k ++ (⟨xg, xa, xc⟩ : GE) :: L.drop k))) := Lib.hid (by
          refine put_fin HS.out.1 HS.out.2 (by rw [HL.out]; exact hk) (fun a h0 => by omega) hE.out)
        clear hk0 hE
        go_wp2_with fail
        refine wp_region_quiet_to (C := (fun W => Below wr.heap.size wr W)) 13 1 #[true, true, true, true, true, true, true, true, true, true, true, true, true, false] (by kernel_rfl) (by kernel_rfl) ?_ ?_
        · (try dsimp only)
          exact hdr
        simp only [List.take_succ_cons, List.take_zero]
        with_reducible refine quiet_take (v := ?_) ?_ ?_ ?_
        rotate_left
        · rfl
        · (intro w hSw; (try dsimp only at hSw); go_simp); all_goals (with_reducible rfl)
        try simp only [Act.put, List.setIfInBounds_toArray, List.set_cons_zero, List.set_cons_succ]
        with_reducible refine quiet_take (v := .bool false) ?_ ?_ ?_
        · rfl
        · (intro w hSw; go_simp; first | done | omega | (simp; omega))
        try simp only [Act.put, List.setIfInBounds_toArray, List.set_cons_zero, List.set_cons_succ]
        with_reducible refine quiet_take (v := ?_) ?_ ?_ ?_
        rotate_left
        · rfl
        · (intro w hSw; (try dsimp only at hSw); go_simp); all_goals (with_reducible rfl)
        try simp only [Act.put, List.setIfInBounds_toArray, List.set_cons_zero, List.set_cons_succ]
        with_reducible refine quiet_skip ?_ ?_
        · rfl
        try simp only [Act.put, List.setIfInBounds_toArray, List.set_cons_zero, List.set_cons_succ]
        with_reducible refine quiet_skip ?_ ?_
        · rfl
        try simp only [Act.put, List.setIfInBounds_toArray, List.set_cons_zero, List.set_cons_succ]
        with_reducible refine quiet_skip ?_ ?_
        · rfl
        try simp only [Act.put, List.setIfInBounds_toArray, List.set_cons_zero, List.set_cons_succ]
        with_reducible refine quiet_skip ?_ ?_
        · rfl
        try simp only [Act.put, List.setIfInBounds_toArray, List.set_cons_zero, List.set_cons_succ]
        with_reducible refine quiet_skip ?_ ?_
        · rfl
        try simp only [Act.put, List.setIfInBounds_toArray, List.set_cons_zero, List.set_cons_succ]
        with_reducible refine quiet_skip ?_ ?_
        · rfl
        try simp only [Act.put, List.setIfInBounds_toArray, List.set_cons_zero, List.set_cons_succ]
        with_reducible refine quiet_skip ?_ ?_
        · rfl
        try simp only [Act.put, List.setIfInBounds_toArray, List.set_cons_zero, List.set_cons_succ]
        with_reducible refine quiet_skip ?_ ?_
        · rfl
        try simp only [Act.put, List.setIfInBounds_toArray, List.set_cons_zero, List.set_cons_succ]
        with_reducible refine quiet_skip ?_ ?_
        · rfl
        try simp only [Act.put, List.setIfInBounds_toArray, List.set_cons_zero, List.set_cons_succ]
        with_reducible refine quiet_skip ?_ ?_
        · rfl
        try simp only [Act.put, List.setIfInBounds_toArray, List.set_cons_zero, List.set_cons_succ]
        refine wpQuiet_nil ?_
        intro W hSw
        refine wpAny_of_held (S := fun _ => True) _ _ _ _ ?_
        refine wpAnyH_ready (rs := [13]) (by kernel_rfl) (by simp) ?_
        refine AllReadyH.cons (o := _) rfl (fun K hK => ?_) ?_
        · -- pick
          go_simp
          refine hK.out _ _ trivial (fun _ => ?_)
          clear hK K
          try simp only [List.setIfInBounds_toArray, List.set_cons_zero, List.set_cons_succ]
          refine wpAnyH_done (by kernel_rfl) ?_ _
          have hM9 := OwnRow.below hM hSw
          have hkp9 := hkp.trans (hSw.mono hkp.size)
          clear hSw
          go_wp2_with fail
          go_ret
          exact ⟨⟨_, _, rfl, HF.out.1, HF.out.2, hM9⟩, hkp9⟩
        exact AllReadyH.nil
      · obtain ⟨q, rfl⟩ : ∃ q, k = q + 1 := ⟨k - 1, by omega⟩
        obtain ⟨y, hy⟩ : ∃ y, L[q]? = some y := ⟨_, List.getElem?_eq_getElem (by rw [HL.out]; omega)⟩
        obtain ⟨yg, ya, yc⟩ := y
        have hM1 : ((L.take (q + 1) ++ (⟨xg, xa, xc⟩ : GE) :: L.drop (q + 1)).map GE.cells)[q + 1]? = some ((⟨xg, xa, xc⟩ : GE)).cells := by rw [List.getElem?_map, mid_get (by rw [HL.out]; omega)]; rfl
        have hM0 : ((L.take (q + 1) ++ (⟨xg, xa, xc⟩ : GE) :: L.drop (q + 1)).map GE.cells)[q]? = some ((⟨yg, ya, yc⟩ : GE)).cells := by rw [List.getElem?_map, mid_low hy]; rfl
        have i1 : (0 : Int) < ((q + 1 : Nat) : Int) := by omega
        have i2 : ((q + 1 : Nat) : Int) - 1 = (q : Int) := by omega
        have i3 : (q : Int) < (n : Int) + 1 := by omega
        have i4 : IntKind.i64.wrap (q : Int) = (q : Int) := IntWalk.i64_in _ (by omega)
        have i6 : IntKind.i64.wrap ((q : Int) + 1 - 1) = (q : Int) := by rw [IntWalk.i64_in _ (by omega)]; omega
        have i7 : (0 : Int) ≤ (q : Int) + 1 := by omega
        have i8 : (q : Int) + 1 < (n : Int) + 1 := by omega
        have i9 : (q : Int) < (n : Int) := by omega
        have cB := before_w xg yg xa ya xg.k xc yg.k yc
        unfold GmD.val at cB
        obtain ⟨lt, hlt⟩ : ∃ b, befB xg yg = b := ⟨_, rfl⟩
        simp only [hlt] at cB
        clear hk0
        cases lt with
        | false =>
          have HF : Hid ((L.take (q + 1) ++ (⟨xg, xa, xc⟩ : GE) :: L.drop (q + 1)).Perm (L ++ [(⟨xg, xa, xc⟩ : GE)]) ∧ SortG (gmL (L.take (q + 1) ++ (⟨xg, xa, xc⟩ : GE) :: L.drop (q + 1)))) := Lib.hid (by
            refine put_fin HS.out.1 HS.out.2 (by rw [HL.out]; exact hk) (fun a h0 ha => ?_) hE.out
            rw [Nat.add_sub_cancel, hy] at ha
            rw [← Option.some.inj ha]
            exact hlt)
          clear hE
          go_wp2_with fail
          refine wp_region_quiet_to (C := (fun W => Below wr.heap.size wr W)) 13 1 #[true, true, true, true, true, true, true, true, true, true, true, true, true, false] (by kernel_rfl) (by kernel_rfl) ?_ ?_
          · (try dsimp only)
            exact hdr
          simp only [List.take_succ_cons, List.take_zero]
          with_reducible refine quiet_take (v := ?_) ?_ ?_ ?_
          rotate_left
          · rfl
          · (intro w hSw; (try dsimp only at hSw); go_simp); all_goals (with_reducible rfl)
          try simp only [Act.put, List.setIfInBounds_toArray, List.set_cons_zero, List.set_cons_succ]
          with_reducible refine quiet_take (v := .bool true) ?_ ?_ ?_
          · rfl
          · (intro w hSw; go_simp; first | done | omega | (simp; omega))
          try simp only [Act.put, List.setIfInBounds_toArray, List.set_cons_zero, List.set_cons_succ]
          with_reducible refine quiet_take (v := ?_) ?_ ?_ ?_
          rotate_left
          · rfl
          · (intro w hSw; (try dsimp only at hSw); go_simp); all_goals (with_reducible rfl)
          try simp only [Act.put, List.setIfInBounds_toArray, List.set_cons_zero, List.set_cons_succ]
          with_reducible refine quiet_take (v := ?_) ?_ ?_ ?_
          rotate_left
          · rfl
          · (intro w hSw; (try dsimp only at hSw); go_simp); all_goals (with_reducible rfl)
          try simp only [Act.put, List.setIfInBounds_toArray, List.set_cons_zero, List.set_cons_succ]
          with_reducible refine quiet_take (v := ?_) ?_ ?_ ?_
          rotate_left
          · rfl
          · (intro w hSw; (try dsimp only at hSw); go_simp); all_goals (with_reducible rfl)
          try simp only [Act.put, List.setIfInBounds_toArray, List.set_cons_zero, List.set_cons_succ]
          with_reducible refine quiet_take (v := ?_) ?_ ?_ ?_
          rotate_left
          · rfl
          · (intro w hSw; (try dsimp only at hSw); go_simp); all_goals (with_reducible rfl)
          try simp only [Act.put, List.setIfInBounds_toArray, List.set_cons_zero, List.set_cons_succ]
          with_reducible refine quiet_take (v := ?_) ?_ ?_ ?_
          rotate_left
          · rfl
          · (intro w hSw; have a0 := (OwnRow.cell (OwnRow.below hM hSw) hM1 (j := 0) (u := .string (bA xg.nm)) rfl).1; have a1 := (OwnRow.cell (OwnRow.below hM hSw) hM1 (j := 1) (u := .int .i64 xg.ver) rfl).1; have a2 := (OwnRow.cell (OwnRow.below hM hSw) hM1 (j := 2) (u := .int .i64 xg.day) rfl).1; have a3 := (OwnRow.cell (OwnRow.below hM hSw) hM1 (j := 3) (u := .string (bA xg.t0)) rfl).1; have a4 := (OwnRow.cell (OwnRow.below hM hSw) hM1 (j := 4) (u := .string (bA xg.t1)) rfl).1; have a5 := (OwnRow.cell (OwnRow.below hM hSw) hM1 (j := 5) (u := .int .i64 xg.s0) rfl).1; have a6 := (OwnRow.cell (OwnRow.below hM hSw) hM1 (j := 6) (u := .int .i64 xg.s1) rfl).1; have a7 := (OwnRow.cell (OwnRow.below hM hSw) hM1 (j := 7) (u := .slice xa xg.k xc) rfl).1; rw [Nat.add_zero] at a0; (try dsimp only at hSw); go_simp); all_goals (with_reducible rfl)
          try simp only [Act.put, List.setIfInBounds_toArray, List.set_cons_zero, List.set_cons_succ]
          with_reducible refine quiet_take (v := ?_) ?_ ?_ ?_
          rotate_left
          · rfl
          · (intro w hSw; (try dsimp only at hSw); go_simp); all_goals (with_reducible rfl)
          try simp only [Act.put, List.setIfInBounds_toArray, List.set_cons_zero, List.set_cons_succ]
          with_reducible refine quiet_take (v := ?_) ?_ ?_ ?_
          rotate_left
          · rfl
          · (intro w hSw; (try dsimp only at hSw); go_simp); all_goals (with_reducible rfl)
          try simp only [Act.put, List.setIfInBounds_toArray, List.set_cons_zero, List.set_cons_succ]
          with_reducible refine quiet_take (v := ?_) ?_ ?_ ?_
          rotate_left
          · rfl
          · (intro w hSw; (try dsimp only at hSw); go_simp); all_goals (with_reducible rfl)
          try simp only [Act.put, List.setIfInBounds_toArray, List.set_cons_zero, List.set_cons_succ]
          with_reducible refine quiet_take (v := ?_) ?_ ?_ ?_
          rotate_left
          · rfl
          · (intro w hSw; (try dsimp only at hSw); go_simp); all_goals (with_reducible rfl)
          try simp only [Act.put, List.setIfInBounds_toArray, List.set_cons_zero, List.set_cons_succ]
          with_reducible refine quiet_take (v := ?_) ?_ ?_ ?_
          rotate_left
          · rfl
          · (intro w hSw; have b0 := (OwnRow.cell (OwnRow.below hM hSw) hM0 (j := 0) (u := .string (bA yg.nm)) rfl).1; have b1 := (OwnRow.cell (OwnRow.below hM hSw) hM0 (j := 1) (u := .int .i64 yg.ver) rfl).1; have b2 := (OwnRow.cell (OwnRow.below hM hSw) hM0 (j := 2) (u := .int .i64 yg.day) rfl).1; have b3 := (OwnRow.cell (OwnRow.below hM hSw) hM0 (j := 3) (u := .string (bA yg.t0)) rfl).1; have b4 := (OwnRow.cell (OwnRow.below hM hSw) hM0 (j := 4) (u := .string (bA yg.t1)) rfl).1; have b5 := (OwnRow.cell (OwnRow.below hM hSw) hM0 (j := 5) (u := .int .i64 yg.s0) rfl).1; have b6 := (OwnRow.cell (OwnRow.below hM hSw) hM0 (j := 6) (u := .int .i64 yg.s1) rfl).1; have b7 := (OwnRow.cell (OwnRow.below hM hSw) hM0 (j := 7) (u := .slice ya yg.k yc) rfl).1; rw [Nat.add_zero] at b0; (try dsimp only at hSw); go_simp); all_goals (with_reducible rfl)
          try simp only [Act.put, List.setIfInBounds_toArray, List.set_cons_zero, List.set_cons_succ]
          with_reducible refine quiet_call (f := 90) (args := ?_) (v := .bool false) ?_ ?_ ?_ ?_
          rotate_left
          · rfl
          · (intro w hSw; (try dsimp only at hSw); go_simp); all_goals (with_reducible rfl)
          · (intro W hSw); exact (cB W).mono fun e w' ⟨h1, h2⟩ => ⟨h1, hSw.trans (h2.mono hSw.size)⟩
          try simp only [Act.put, List.setIfInBounds_toArray, List.set_cons_zero, List.set_cons_succ]
          refine wpQuiet_nil ?_
          intro W hSw
          refine wpAny_of_held (S := fun _ => True) _ _ _ _ ?_
          refine wpAnyH_ready (rs := [13]) (by kernel_rfl) (by simp) ?_
          refine AllReadyH.cons (o := _) rfl (fun K hK => ?_) ?_
          · -- pick
            go_simp
            refine hK.out _ _ trivial (fun _ => ?_)
            clear hK K
            try simp only [List.setIfInBounds_toArray, List.set_cons_zero, List.set_cons_succ]
            refine wpAnyH_done (by kernel_rfl) ?_ _
            have hM9 := OwnRow.below hM hSw
            have hkp9 := hkp.trans (hSw.mono hkp.size)
            clear hSw
            go_wp2_with fail
            go_ret
            exact ⟨⟨_, _, rfl, HF.out.1, HF.out.2, hM9⟩, hkp9⟩
          exact AllReadyH.nil
        | true =>
          have hE2 : Hid (∀ j t, q ≤ j → L[j]? = some t → befB xg t.g = true) := Lib.hid fun j t hj ht => by
            rcases Nat.lt_or_ge q j with h | h
            · exact hE.out j t h ht
            · obtain rfl : j = q := by omega
              rw [ht] at hy; cases hy; exact hlt
          clear hE
          go_wp2_with fail
          refine wp_region_quiet_to (C := (fun W => Below wr.heap.size wr W)) 13 1 #[true, true, true, true, true, true, true, true, true, true, true, true, true, false] (by kernel_rfl) (by kernel_rfl) ?_ ?_
          · (try dsimp only)
            exact hdr
          simp only [List.take_succ_cons, List.take_zero]
          with_reducible refine quiet_take (v := ?_) ?_ ?_ ?_
          rotate_left
          · rfl
          · (intro w hSw; (try dsimp only at hSw); go_simp); all_goals (with_reducible rfl)
          try simp only [Act.put, List.setIfInBounds_toArray, List.set_cons_zero, List.set_cons_succ]
          with_reducible refine quiet_take (v := .bool true) ?_ ?_ ?_
          · rfl
          · (intro w hSw; go_simp; first | done | omega | (simp; omega))
          try simp only [Act.put, List.setIfInBounds_toArray, List.set_cons_zero, List.set_cons_succ]
          with_reducible refine quiet_take (v := ?_) ?_ ?_ ?_
          rotate_left
          · rfl
          · (intro w hSw; (try dsimp only at hSw); go_simp); all_goals (with_reducible rfl)
          try simp only [Act.put, List.setIfInBounds_toArray, List.set_cons_zero, List.set_cons_succ]
          with_reducible refine quiet_take (v := ?_) ?_ ?_ ?_
          rotate_left
          · rfl
          · (intro w hSw; (try dsimp only at hSw); go_simp); all_goals (with_reducible rfl)
          try simp only [Act.put, List.setIfInBounds_toArray, List.set_cons_zero, List.set_cons_succ]
          with_reducible refine quiet_take (v := ?_) ?_ ?_ ?_
          rotate_left
          · rfl
          · (intro w hSw; (try dsimp only at hSw); go_simp); all_goals (with_reducible rfl)
          try simp only [Act.put, List.setIfInBounds_toArray, List.set_cons_zero, List.set_cons_succ]
          with_reducible refine quiet_take (v := ?_) ?_ ?_ ?_
          rotate_left
          · rfl
          · (intro w hSw; (try dsimp only at hSw); go_simp); all_goals (with_reducible rfl)
          try simp only [Act.put, List.setIfInBounds_toArray, List.set_cons_zero, List.set_cons_succ]
          with_reducible refine quiet_take (v := ?_) ?_ ?_ ?_
          rotate_left
          · rfl
          · (intro w hSw; have a0 := (OwnRow.cell (OwnRow.below hM hSw) hM1 (j := 0) (u := .string (bA xg.nm)) rfl).1; have a1 := (OwnRow.cell (OwnRow.below hM hSw) hM1 (j := 1) (u := .int .i64 xg.ver) rfl).1; have a2 := (OwnRow.cell (OwnRow.below hM hSw) hM1 (j := 2) (u := .int .i64 xg.day) rfl).1; have a3 := (OwnRow.cell (OwnRow.below hM hSw) hM1 (j := 3) (u := .string (bA xg.t0)) rfl).1; have a4 := (OwnRow.cell (OwnRow.below hM hSw) hM1 (j := 4) (u := .string (bA xg.t1)) rfl).1; have a5 := (OwnRow.cell (OwnRow.below hM hSw) hM1 (j := 5) (u := .int .i64 xg.s0) rfl).1; have a6 := (OwnRow.cell (OwnRow.below hM hSw) hM1 (j := 6) (u := .int .i64 xg.s1) rfl).1; have a7 := (OwnRow.cell (OwnRow.below hM hSw) hM1 (j := 7) (u := .slice xa xg.k xc) rfl).1; rw [Nat.add_zero] at a0; (try dsimp only at hSw); go_simp); all_goals (with_reducible rfl)
          try simp only [Act.put, List.setIfInBounds_toArray, List.set_cons_zero, List.set_cons_succ]
          with_reducible refine quiet_take (v := ?_) ?_ ?_ ?_
          rotate_left
          · rfl
          · (intro w hSw; (try dsimp only at hSw); go_simp); all_goals (with_reducible rfl)
          try simp only [Act.put, List.setIfInBounds_toArray, List.set_cons_zero, List.set_cons_succ]
          with_reducible refine quiet_take (v := ?_) ?_ ?_ ?_
          rotate_left
          · rfl
          · (intro w hSw; (try dsimp only at hSw); go_simp); all_goals (with_reducible rfl)
          try simp only [Act.put, List.setIfInBounds_toArray, List.set_cons_zero, List.set_cons_succ]
          with_reducible refine quiet_take (v := ?_) ?_ ?_ ?_
          rotate_left
          · rfl
          · (intro w hSw; (try dsimp only at hSw); go_simp); all_goals (with_reducible rfl)
          try simp only [Act.put, List.setIfInBounds_toArray, List.set_cons_zero, List.set_cons_succ]
          with_reducible refine quiet_take (v := ?_) ?_ ?_ ?_
          rotate_left
          · rfl
          · (intro w hSw; (try dsimp only at hSw); go_simp); all_goals (with_reducible rfl)
          try simp only [Act.put, List.setIfInBounds_toArray, List.set_cons_zero, List.set_cons_succ]
          with_reducible refine quiet_take (v := ?_) ?_ ?_ ?_
          rotate_left
          · rfl
          · (intro w hSw; have b0 := (OwnRow.cell (OwnRow.below hM hSw) hM0 (j := 0) (u := .string (bA yg.nm)) rfl).1; have b1 := (OwnRow.cell (OwnRow.below hM hSw) hM0 (j := 1) (u := .int .i64 yg.ver) rfl).1; have b2 := (OwnRow.cell (OwnRow.below hM hSw) hM0 (j := 2) (u := .int .i64 yg.day) rfl).1; have b3 := (OwnRow.cell (OwnRow.below hM hSw) hM0 (j := 3) (u := .string (bA yg.t0)) rfl).1; have b4 := (OwnRow.cell (OwnRow.below hM hSw) hM0 (j := 4) (u := .string (bA yg.t1)) rfl).1; have b5 := (OwnRow.cell (OwnRow.below hM hSw) hM0 (j := 5) (u := .int .i64 yg.s0) rfl).1; have b6 := (OwnRow.cell (OwnRow.below hM hSw) hM0 (j := 6) (u := .int .i64 yg.s1) rfl).1; have b7 := (OwnRow.cell (OwnRow.below hM hSw) hM0 (j := 7) (u := .slice ya yg.k yc) rfl).1; rw [Nat.add_zero] at b0; (try dsimp only at hSw); go_simp); all_goals (with_reducible rfl)
          try simp only [Act.put, List.setIfInBounds_toArray, List.set_cons_zero, List.set_cons_succ]
          with_reducible refine quiet_call (f := 90) (args := ?_) (v := .bool true) ?_ ?_ ?_ ?_
          rotate_left
          · rfl
          · (intro w hSw; (try dsimp only at hSw); go_simp); all_goals (with_reducible rfl)
          · (intro W hSw); exact (cB W).mono fun e w' ⟨h1, h2⟩ => ⟨h1, hSw.trans (h2.mono hSw.size)⟩
          try simp only [Act.put, List.setIfInBounds_toArray, List.set_cons_zero, List.set_cons_succ]
          refine wpQuiet_nil ?_
          intro W hSw
          refine wpAny_of_held (S := fun _ => True) _ _ _ _ ?_
          refine wpAnyH_ready (rs := [13]) (by kernel_rfl) (by simp) ?_
          refine AllReadyH.cons (o := _) rfl (fun K hK => ?_) ?_
          · -- pick
            go_simp
            refine hK.out _ _ trivial (fun _ => ?_)
            clear hK K
            try simp only [List.setIfInBounds_toArray, List.set_cons_zero, List.set_cons_succ]
            refine wpAnyH_done (by kernel_rfl) ?_ _
            have hM2 := OwnRow.below hM hSw
            have hkp2 := hkp.trans (hSw.mono hkp.size)
            clear hSw hdr hM hkp cB
            generalize W = wr2 at hM2 hkp2 ⊢
            have hdr : Below wr2.heap.size wr2 wr2.drew := (Below.refl _ _).drew
            go_wp2_with fail
            refine wp_region_held_drew (S := (fun _ => True)) (by kernel_rfl) ?_ (fun hHeld => ?_)
            · (try dsimp only)
              try trivial
            have hMW := OwnRow.below hM2 hdr
            have hkW := hkp2.trans (hdr.mono hkp2.size)
            generalize wr2.drew = W at hMW hkW ⊢
            obtain ⟨a0, e0⟩ := OwnRow.cell hMW hM0 (j := 0) (u := .string (bA yg.nm)) rfl
            obtain ⟨a1, e1⟩ := OwnRow.cell hMW hM0 (j := 1) (u := .int .i64 yg.ver) rfl
            obtain ⟨a2, e2⟩ := OwnRow.cell hMW hM0 (j := 2) (u := .int .i64 yg.day) rfl
            obtain ⟨a3, e3⟩ := OwnRow.cell hMW hM0 (j := 3) (u := .string (bA yg.t0)) rfl
            obtain ⟨a4, e4⟩ := OwnRow.cell hMW hM0 (j := 4) (u := .string (bA yg.t1)) rfl
            obtain ⟨a5, e5⟩ := OwnRow.cell hMW hM0 (j := 5) (u := .int .i64 yg.s0) rfl
            obtain ⟨a6, e6⟩ := OwnRow.cell hMW hM0 (j := 6) (u := .int .i64 yg.s1) rfl
            obtain ⟨a7, e7⟩ := OwnRow.cell hMW hM0 (j := 7) (u := .slice ya yg.k yc) rfl
            rw [Nat.add_zero] at a0 e0
            obtain ⟨b0, f0⟩ := OwnRow.cell hMW hM1 (j := 0) (u := .string (bA xg.nm)) rfl
            obtain ⟨b1, f1⟩ := OwnRow.cell hMW hM1 (j := 1) (u := .int .i64 xg.ver) rfl
            obtain ⟨b2, f2⟩ := OwnRow.cell hMW hM1 (j := 2) (u := .int .i64 xg.day) rfl
            obtain ⟨b3, f3⟩ := OwnRow.cell hMW hM1 (j := 3) (u := .string (bA xg.t0)) rfl
            obtain ⟨b4, f4⟩ := OwnRow.cell hMW hM1 (j := 4) (u := .string (bA xg.t1)) rfl
            obtain ⟨b5, f5⟩ := OwnRow.cell hMW hM1 (j := 5) (u := .int .i64 xg.s0) rfl
            obtain ⟨b6, f6⟩ := OwnRow.cell hMW hM1 (j := 6) (u := .int .i64 xg.s1) rfl
            obtain ⟨b7, f7⟩ := OwnRow.cell hMW hM1 (j := 7) (u := .slice xa xg.k xc) rfl
            rw [Nat.add_zero] at b0 f0
            refine wpAnyH_take (i := 0) (oi := { dst := some 32, op := Op.move (Operand.tmp 5), type := 22, pos := "ref.go:207", after := #[], guard := none }) (v := ?_) rfl (by kernel_rfl) (by kernel_rfl) (by kernel_rfl) (fun _ _ _ h => h) (Or.inl ⟨by rfl, ?_⟩) (by assumption) ?_
            rotate_left
            · (intro w hSw; (try dsimp only at hSw); go_simp); all_goals (with_reducible rfl)
            try simp only [Act.put, List.setIfInBounds_toArray, List.set_cons_zero, List.set_cons_succ]
            refine wpAnyH_take (i := 1) (oi := { dst := some 33, op := Op.move (Operand.tmp 6), type := 3, pos := "ref.go:207", after := #[], guard := none }) (v := ?_) rfl (by kernel_rfl) (by kernel_rfl) (by kernel_rfl) (fun _ _ _ h => h) (Or.inl ⟨by rfl, ?_⟩) (by assumption) ?_
            rotate_left
            · (intro w hSw; (try dsimp only at hSw); go_simp); all_goals (with_reducible rfl)
            try simp only [Act.put, List.setIfInBounds_toArray, List.set_cons_zero, List.set_cons_succ]
            refine wpAnyH_take (i := 2) (oi := { dst := some 34, op := Op.move (Operand.tmp 5), type := 22, pos := "ref.go:207", after := #[{ on := 15, ground := Ground.gcOnly Departure.lateStores }], guard := none }) (v := ?_) rfl (by kernel_rfl) (by kernel_rfl) (by kernel_rfl) (fun _ _ _ h => h) (Or.inl ⟨by rfl, ?_⟩) (by assumption) ?_
            rotate_left
            · (intro w hSw; (try dsimp only at hSw); go_simp); all_goals (with_reducible rfl)
            try simp only [Act.put, List.setIfInBounds_toArray, List.set_cons_zero, List.set_cons_succ]
            refine wpAnyH_take (i := 3) (oi := { dst := some 35, op := Op.move (Operand.tmp 6), type := 3, pos := "ref.go:207", after := #[{ on := 15, ground := Ground.gcOnly Departure.lateStores }], guard := none }) (v := ?_) rfl (by kernel_rfl) (by kernel_rfl) (by kernel_rfl) (fun _ _ _ h => h) (Or.inl ⟨by rfl, ?_⟩) (by assumption) ?_
            rotate_left
            · (intro w hSw; (try dsimp only at hSw); go_simp); all_goals (with_reducible rfl)
            try simp only [Act.put, List.setIfInBounds_toArray, List.set_cons_zero, List.set_cons_succ]
            refine wpAnyH_take (i := 4) (oi := { dst := some 36, op := Op.binOp BinOp.sub 3 (Operand.tmp 35) (Operand.const (Value.int IntKind.i64 1)) 3, type := 3, pos := "ref.go:207", after := #[{ on := 3, ground := Ground.data }, { on := 15, ground := Ground.gcOnly Departure.lateStores }], guard := none }) (v := ?_) rfl (by kernel_rfl) (by kernel_rfl) (by kernel_rfl) (fun _ _ _ h => h) (Or.inl ⟨by rfl, ?_⟩) (by assumption) ?_
            rotate_left
            · (intro w hSw; (try dsimp only at hSw); go_simp); all_goals (with_reducible rfl)
            try simp only [Act.put, List.setIfInBounds_toArray, List.set_cons_zero, List.set_cons_succ]
            refine wpAnyH_take (i := 5) (oi := { dst := some 37, op := Op.move (Operand.tmp 5), type := 22, pos := "ref.go:207", after := #[], guard := none }) (v := ?_) rfl (by kernel_rfl) (by kernel_rfl) (by kernel_rfl) (fun _ _ _ h => h) (Or.inl ⟨by rfl, ?_⟩) (by assumption) ?_
            rotate_left
            · (intro w hSw; (try dsimp only at hSw); go_simp); all_goals (with_reducible rfl)
            try simp only [Act.put, List.setIfInBounds_toArray, List.set_cons_zero, List.set_cons_succ]
            refine wpAnyH_take (i := 6) (oi := { dst := some 38, op := Op.move (Operand.tmp 6), type := 3, pos := "ref.go:207", after := #[], guard := none }) (v := ?_) rfl (by kernel_rfl) (by kernel_rfl) (by kernel_rfl) (fun _ _ _ h => h) (Or.inl ⟨by rfl, ?_⟩) (by assumption) ?_
            rotate_left
            · (intro w hSw; (try dsimp only at hSw); go_simp); all_goals (with_reducible rfl)
            try simp only [Act.put, List.setIfInBounds_toArray, List.set_cons_zero, List.set_cons_succ]
            refine wpAnyH_take (i := 7) (oi := { dst := some 39, op := Op.binOp BinOp.sub 3 (Operand.tmp 38) (Operand.const (Value.int IntKind.i64 1)) 3, type := 3, pos := "ref.go:207", after := #[{ on := 6, ground := Ground.data }], guard := none }) (v := ?_) rfl (by kernel_rfl) (by kernel_rfl) (by kernel_rfl) (fun _ _ _ h => h) (Or.inl ⟨by rfl, ?_⟩) (by assumption) ?_
            rotate_left
            · (intro w hSw; (try dsimp only at hSw); go_simp); all_goals (with_reducible rfl)
            try simp only [Act.put, List.setIfInBounds_toArray, List.set_cons_zero, List.set_cons_succ]
            refine wpAnyH_take (i := 8) (oi := { dst := some 40, op := Op.indexAddr 22 (Operand.tmp 37) (Operand.tmp 39), type := 0, pos := "ref.go:207", after := #[{ on := 5, ground := Ground.data }, { on := 7, ground := Ground.data }], guard := none }) (v := ?_) rfl (by kernel_rfl) (by kernel_rfl) (by kernel_rfl) (fun _ _ _ h => h) (Or.inl ⟨by rfl, ?_⟩) (by assumption) ?_
            rotate_left
            · (intro w hSw; (try dsimp only at hSw); go_simp); all_goals (with_reducible rfl)
            try simp only [Act.put, List.setIfInBounds_toArray, List.set_cons_zero, List.set_cons_succ]
            refine wpAnyH_take (i := 10) (oi := { dst := some 42, op := Op.move (Operand.tmp 5), type := 22, pos := "ref.go:207", after := #[], guard := none }) (v := ?_) rfl (by kernel_rfl) (by kernel_rfl) (by kernel_rfl) (fun _ _ _ h => h) (Or.inl ⟨by rfl, ?_⟩) (by assumption) ?_
            rotate_left
            · (intro w hSw; (try dsimp only at hSw); go_simp); all_goals (with_reducible rfl)
            try simp only [Act.put, List.setIfInBounds_toArray, List.set_cons_zero, List.set_cons_succ]
            refine wpAnyH_take (i := 11) (oi := { dst := some 43, op := Op.move (Operand.tmp 6), type := 3, pos := "ref.go:207", after := #[], guard := none }) (v := ?_) rfl (by kernel_rfl) (by kernel_rfl) (by kernel_rfl) (fun _ _ _ h => h) (Or.inl ⟨by rfl, ?_⟩) (by assumption) ?_
            rotate_left
            · (intro w hSw; (try dsimp only at hSw); go_simp); all_goals (with_reducible rfl)
            try simp only [Act.put, List.setIfInBounds_toArray, List.set_cons_zero, List.set_cons_succ]
            refine wpAnyH_take (i := 12) (oi := { dst := some 44, op := Op.indexAddr 22 (Operand.tmp 42) (Operand.tmp 43), type := 0, pos := "ref.go:207", after := #[{ on := 10, ground := Ground.data }, { on := 11, ground := Ground.data }], guard := none }) (v := ?_) rfl (by kernel_rfl) (by kernel_rfl) (by kernel_rfl) (fun _ _ _ h => h) (Or.inl ⟨by rfl, ?_⟩) (by assumption) ?_
            rotate_left
            · (intro w hSw; (try dsimp only at hSw); go_simp); all_goals (with_reducible rfl)
            try simp only [Act.put, List.setIfInBounds_toArray, List.set_cons_zero, List.set_cons_succ]
            refine wpAnyH_ready (rs := [9, 13]) (by kernel_rfl) (by simp) ?_
            refine AllReadyH.cons (o := _) rfl (fun K hK => ?_) ?_
            · -- load
              go_simp
              refine hK.out _ _ ?_ (fun hHeld => ?_)
              · (try dsimp only)
                try trivial
              clear hK K
              try simp only [Act.put, List.setIfInBounds_toArray, List.set_cons_zero, List.set_cons_succ]
              refine wpAnyH_ready (rs := [13]) (by kernel_rfl) (by simp) ?_
              refine AllReadyH.cons (o := _) rfl (fun K hK => ?_) ?_
              · -- load
                go_simp
                refine hK.out _ _ ?_ (fun hHeld => ?_)
                · (try dsimp only)
                  try trivial
                clear hK K
                try simp only [Act.put, List.setIfInBounds_toArray, List.set_cons_zero, List.set_cons_succ]
                refine wpAnyH_take (i := 14) (oi := { dst := some 46, op := Op.indexAddr 22 (Operand.tmp 32) (Operand.tmp 33), type := 0, pos := "ref.go:207", after := #[{ on := 0, ground := Ground.data }, { on := 1, ground := Ground.data }, { on := 0, ground := Ground.phase }, { on := 1, ground := Ground.phase }, { on := 2, ground := Ground.textOnly Departure.lateStores }, { on := 3, ground := Ground.textOnly Departure.lateStores }, { on := 4, ground := Ground.textOnly Departure.lateStores }, { on := 5, ground := Ground.phase }, { on := 6, ground := Ground.phase }, { on := 7, ground := Ground.phase }, { on := 8, ground := Ground.phase }, { on := 9, ground := Ground.phase }, { on := 10, ground := Ground.textOnly Departure.lateStores }, { on := 11, ground := Ground.textOnly Departure.lateStores }, { on := 12, ground := Ground.textOnly Departure.lateStoresUnsure }, { on := 13, ground := Ground.phase }], guard := none }) (v := ?_) rfl (by kernel_rfl) (by kernel_rfl) (by kernel_rfl) (fun _ _ _ h => h) (Or.inl ⟨by rfl, ?_⟩) (by assumption) ?_
                rotate_left
                · (intro w hSw; (try dsimp only at hSw); go_simp); all_goals (with_reducible rfl)
                try simp only [Act.put, List.setIfInBounds_toArray, List.set_cons_zero, List.set_cons_succ]
                refine wpAnyH_ready (rs := [15]) (by kernel_rfl) (by simp) ?_
                refine AllReadyH.cons (o := _) rfl (fun K hK => ?_) ?_
                · -- store
                  go_simp
                  refine hK.out _ _ ?_ (fun hHeld => ?_)
                  · (try dsimp only)
                    try trivial
                  clear hK K
                  try simp only [Act.put, List.setIfInBounds_toArray, List.set_cons_zero, List.set_cons_succ]
                  have hr1 : OwnRow (setN W g9 ((q + 1) * 8) ((⟨yg, ya, yc⟩ : GE)).cells) w.heap.size 105 8 (.slice (some ⟨g9, 0, none⟩) (n + 1) c9) (((L.take (q + 1) ++ (⟨xg, xa, xc⟩ : GE) :: L.drop (q + 1)).map GE.cells).set (q + 1) ((⟨yg, ya, yc⟩ : GE)).cells) := OwnRow.writes (vs := ((⟨yg, ya, yc⟩ : GE)).cells) (j := 0) hMW hM1 (Nat.le_refl _)
                  have hM0' : (((L.take (q + 1) ++ (⟨xg, xa, xc⟩ : GE) :: L.drop (q + 1)).map GE.cells).set (q + 1) ((⟨yg, ya, yc⟩ : GE)).cells)[q]? = some ((⟨yg, ya, yc⟩ : GE)).cells := by rw [List.getElem?_set_ne (by omega)]; exact hM0
                  have hk1 : Below w.heap.size w (setN W g9 ((q + 1) * 8) ((⟨yg, ya, yc⟩ : GE)).cells) := Below.setN HG9.out hkW
                  refine castW (P := fun w => wpAnyH _ _ _ _ _ _ _ _ w) (w' := setN W g9 ((q + 1) * 8) ((⟨yg, ya, yc⟩ : GE)).cells) rfl ?_
                  clear a0 e0 a1 e1 a2 e2 a3 e3 a4 e4 a5 e5 a6 e6 a7 e7 b0 f0 b1 f1 b2 f2 b3 f3 b4 f4 b5 f5 b6 f6 b7 f7 hMW hkW
                  generalize setN W g9 ((q + 1) * 8) ((⟨yg, ya, yc⟩ : GE)).cells = W9 at hr1 hk1 ⊢
                  obtain ⟨a0, f0⟩ := OwnRow.cell hr1 hM0' (j := 0) (u := .string (bA yg.nm)) rfl
                  obtain ⟨a1, f1⟩ := OwnRow.cell hr1 hM0' (j := 1) (u := .int .i64 yg.ver) rfl
                  obtain ⟨a2, f2⟩ := OwnRow.cell hr1 hM0' (j := 2) (u := .int .i64 yg.day) rfl
                  obtain ⟨a3, f3⟩ := OwnRow.cell hr1 hM0' (j := 3) (u := .string (bA yg.t0)) rfl
                  obtain ⟨a4, f4⟩ := OwnRow.cell hr1 hM0' (j := 4) (u := .string (bA yg.t1)) rfl
                  obtain ⟨a5, f5⟩ := OwnRow.cell hr1 hM0' (j := 5) (u := .int .i64 yg.s0) rfl
                  obtain ⟨a6, f6⟩ := OwnRow.cell hr1 hM0' (j := 6) (u := .int .i64 yg.s1) rfl
                  obtain ⟨a7, f7⟩ := OwnRow.cell hr1 hM0' (j := 7) (u := .slice ya yg.k yc) rfl
                  rw [Nat.add_zero] at a0 f0
                  refine wpAnyH_take (i := 16) (oi := { dst := some 47, op := Op.indexAddr 22 (Operand.tmp 34) (Operand.tmp 36), type := 0, pos := "ref.go:207", after := #[{ on := 2, ground := Ground.data }, { on := 4, ground := Ground.data }, { on := 0, ground := Ground.phase }, { on := 1, ground := Ground.phase }, { on := 2, ground := Ground.phase }, { on := 3, ground := Ground.phase }, { on := 4, ground := Ground.phase }, { on := 5, ground := Ground.phase }, { on := 6, ground := Ground.phase }, { on := 7, ground := Ground.phase }, { on := 8, ground := Ground.phase }, { on := 9, ground := Ground.phase }, { on := 10, ground := Ground.phase }, { on := 11, ground := Ground.phase }, { on := 12, ground := Ground.phase }, { on := 13, ground := Ground.phase }, { on := 14, ground := Ground.phase }, { on := 15, ground := Ground.phase }], guard := none }) (v := ?_) rfl (by kernel_rfl) (by kernel_rfl) (by kernel_rfl) (fun _ _ _ h => h) (Or.inl ⟨by rfl, ?_⟩) (by assumption) ?_
                  rotate_left
                  · (intro w hSw; (try dsimp only at hSw); go_simp); all_goals (with_reducible rfl)
                  try simp only [Act.put, List.setIfInBounds_toArray, List.set_cons_zero, List.set_cons_succ]
                  refine wpAnyH_ready (rs := [17]) (by kernel_rfl) (by simp) ?_
                  refine AllReadyH.cons (o := _) rfl (fun K hK => ?_) ?_
                  · -- store
                    go_simp
                    refine hK.out _ _ ?_ (fun hHeld => ?_)
                    · (try dsimp only)
                      try trivial
                    clear hK K
                    try simp only [Act.put, List.setIfInBounds_toArray, List.set_cons_zero, List.set_cons_succ]
                    refine wpAnyH_done (by kernel_rfl) ?_ _
                    have hr2 : OwnRow (setN W9 g9 (q * 8) ((⟨xg, xa, xc⟩ : GE)).cells) w.heap.size 105 8 (.slice (some ⟨g9, 0, none⟩) (n + 1) c9) ((((L.take (q + 1) ++ (⟨xg, xa, xc⟩ : GE) :: L.drop (q + 1)).map GE.cells).set (q + 1) ((⟨yg, ya, yc⟩ : GE)).cells).set q ((⟨xg, xa, xc⟩ : GE)).cells) := OwnRow.writes (vs := ((⟨xg, xa, xc⟩ : GE)).cells) (j := 0) hr1 hM0' (Nat.le_refl _)
                    have hfin : OwnGL (setN W9 g9 (q * 8) ((⟨xg, xa, xc⟩ : GE)).cells) w.heap.size 105 (.slice (some ⟨g9, 0, none⟩) (n + 1) c9) (L.take q ++ (⟨xg, xa, xc⟩ : GE) :: L.drop q) := by
                      unfold OwnGL
                      rw [← swap_list hy, List.map_set, List.map_set]
                      exact hr2
                    have hk2 : Below w.heap.size w (setN W9 g9 (q * 8) ((⟨xg, xa, xc⟩ : GE)).cells) := Below.setN HG9.out hk1
                    clear a0 f0 a1 f1 a2 f2 a3 f3 a4 f4 a5 f5 a6 f6 a7 f7 hr1 hr2
                    go_wp2_with fail
                    go_roundw
                    case rel => exact ⟨q, by omega, by go_num, hfin, hE2, hk2⟩
                    case measure => simp [numOf'] <;> omega
                  exact AllReadyH.nil
                exact AllReadyH.nil
              exact AllReadyH.nil
            refine AllReadyH.cons (o := _) rfl (fun K hK => ?_) ?_
            · -- load
              go_simp
              refine hK.out _ _ ?_ (fun hHeld => ?_)
              · (try dsimp only)
                try trivial
              clear hK K
              try simp only [Act.put, List.setIfInBounds_toArray, List.set_cons_zero, List.set_cons_succ]
              refine wpAnyH_ready (rs := [9]) (by kernel_rfl) (by simp) ?_
              refine AllReadyH.cons (o := _) rfl (fun K hK => ?_) ?_
              · -- load
                go_simp
                refine hK.out _ _ ?_ (fun hHeld => ?_)
                · (try dsimp only)
                  try trivial
                clear hK K
                try simp only [Act.put, List.setIfInBounds_toArray, List.set_cons_zero, List.set_cons_succ]
                refine wpAnyH_take (i := 14) (oi := { dst := some 46, op := Op.indexAddr 22 (Operand.tmp 32) (Operand.tmp 33), type := 0, pos := "ref.go:207", after := #[{ on := 0, ground := Ground.data }, { on := 1, ground := Ground.data }, { on := 0, ground := Ground.phase }, { on := 1, ground := Ground.phase }, { on := 2, ground := Ground.textOnly Departure.lateStores }, { on := 3, ground := Ground.textOnly Departure.lateStores }, { on := 4, ground := Ground.textOnly Departure.lateStores }, { on := 5, ground := Ground.phase }, { on := 6, ground := Ground.phase }, { on := 7, ground := Ground.phase }, { on := 8, ground := Ground.phase }, { on := 9, ground := Ground.phase }, { on := 10, ground := Ground.textOnly Departure.lateStores }, { on := 11, ground := Ground.textOnly Departure.lateStores }, { on := 12, ground := Ground.textOnly Departure.lateStoresUnsure }, { on := 13, ground := Ground.phase }], guard := none }) (v := ?_) rfl (by kernel_rfl) (by kernel_rfl) (by kernel_rfl) (fun _ _ _ h => h) (Or.inl ⟨by rfl, ?_⟩) (by assumption) ?_
                rotate_left
                · (intro w hSw; (try dsimp only at hSw); go_simp); all_goals (with_reducible rfl)
                try simp only [Act.put, List.setIfInBounds_toArray, List.set_cons_zero, List.set_cons_succ]
                refine wpAnyH_ready (rs := [15]) (by kernel_rfl) (by simp) ?_
                refine AllReadyH.cons (o := _) rfl (fun K hK => ?_) ?_
                · -- store
                  go_simp
                  refine hK.out _ _ ?_ (fun hHeld => ?_)
                  · (try dsimp only)
                    try trivial
                  clear hK K
                  try simp only [Act.put, List.setIfInBounds_toArray, List.set_cons_zero, List.set_cons_succ]
                  have hr1 : OwnRow (setN W g9 ((q + 1) * 8) ((⟨yg, ya, yc⟩ : GE)).cells) w.heap.size 105 8 (.slice (some ⟨g9, 0, none⟩) (n + 1) c9) (((L.take (q + 1) ++ (⟨xg, xa, xc⟩ : GE) :: L.drop (q + 1)).map GE.cells).set (q + 1) ((⟨yg, ya, yc⟩ : GE)).cells) := OwnRow.writes (vs := ((⟨yg, ya, yc⟩ : GE)).cells) (j := 0) hMW hM1 (Nat.le_refl _)
                  have hM0' : (((L.take (q + 1) ++ (⟨xg, xa, xc⟩ : GE) :: L.drop (q + 1)).map GE.cells).set (q + 1) ((⟨yg, ya, yc⟩ : GE)).cells)[q]? = some ((⟨yg, ya, yc⟩ : GE)).cells := by rw [List.getElem?_set_ne (by omega)]; exact hM0
                  have hk1 : Below w.heap.size w (setN W g9 ((q + 1) * 8) ((⟨yg, ya, yc⟩ : GE)).cells) := Below.setN HG9.out hkW
                  refine castW (P := fun w => wpAnyH _ _ _ _ _ _ _ _ w) (w' := setN W g9 ((q + 1) * 8) ((⟨yg, ya, yc⟩ : GE)).cells) rfl ?_
                  clear a0 e0 a1 e1 a2 e2 a3 e3 a4 e4 a5 e5 a6 e6 a7 e7 b0 f0 b1 f1 b2 f2 b3 f3 b4 f4 b5 f5 b6 f6 b7 f7 hMW hkW
                  generalize setN W g9 ((q + 1) * 8) ((⟨yg, ya, yc⟩ : GE)).cells = W9 at hr1 hk1 ⊢
                  obtain ⟨a0, f0⟩ := OwnRow.cell hr1 hM0' (j := 0) (u := .string (bA yg.nm)) rfl
                  obtain ⟨a1, f1⟩ := OwnRow.cell hr1 hM0' (j := 1) (u := .int .i64 yg.ver) rfl
                  obtain ⟨a2, f2⟩ := OwnRow.cell hr1 hM0' (j := 2) (u := .int .i64 yg.day) rfl
                  obtain ⟨a3, f3⟩ := OwnRow.cell hr1 hM0' (j := 3) (u := .string (bA yg.t0)) rfl
                  obtain ⟨a4, f4⟩ := OwnRow.cell hr1 hM0' (j := 4) (u := .string (bA yg.t1)) rfl
                  obtain ⟨a5, f5⟩ := OwnRow.cell hr1 hM0' (j := 5) (u := .int .i64 yg.s0) rfl
                  obtain ⟨a6, f6⟩ := OwnRow.cell hr1 hM0' (j := 6) (u := .int .i64 yg.s1) rfl
                  obtain ⟨a7, f7⟩ := OwnRow.cell hr1 hM0' (j := 7) (u := .slice ya yg.k yc) rfl
                  rw [Nat.add_zero] at a0 f0
                  refine wpAnyH_take (i := 16) (oi := { dst := some 47, op := Op.indexAddr 22 (Operand.tmp 34) (Operand.tmp 36), type := 0, pos := "ref.go:207", after := #[{ on := 2, ground := Ground.data }, { on := 4, ground := Ground.data }, { on := 0, ground := Ground.phase }, { on := 1, ground := Ground.phase }, { on := 2, ground := Ground.phase }, { on := 3, ground := Ground.phase }, { on := 4, ground := Ground.phase }, { on := 5, ground := Ground.phase }, { on := 6, ground := Ground.phase }, { on := 7, ground := Ground.phase }, { on := 8, ground := Ground.phase }, { on := 9, ground := Ground.phase }, { on := 10, ground := Ground.phase }, { on := 11, ground := Ground.phase }, { on := 12, ground := Ground.phase }, { on := 13, ground := Ground.phase }, { on := 14, ground := Ground.phase }, { on := 15, ground := Ground.phase }], guard := none }) (v := ?_) rfl (by kernel_rfl) (by kernel_rfl) (by kernel_rfl) (fun _ _ _ h => h) (Or.inl ⟨by rfl, ?_⟩) (by assumption) ?_
                  rotate_left
                  · (intro w hSw; (try dsimp only at hSw); go_simp); all_goals (with_reducible rfl)
                  try simp only [Act.put, List.setIfInBounds_toArray, List.set_cons_zero, List.set_cons_succ]
                  refine wpAnyH_ready (rs := [17]) (by kernel_rfl) (by simp) ?_
                  refine AllReadyH.cons (o := _) rfl (fun K hK => ?_) ?_
                  · -- store
                    go_simp
                    refine hK.out _ _ ?_ (fun hHeld => ?_)
                    · (try dsimp only)
                      try trivial
                    clear hK K
                    try simp only [Act.put, List.setIfInBounds_toArray, List.set_cons_zero, List.set_cons_succ]
                    refine wpAnyH_done (by kernel_rfl) ?_ _
                    have hr2 : OwnRow (setN W9 g9 (q * 8) ((⟨xg, xa, xc⟩ : GE)).cells) w.heap.size 105 8 (.slice (some ⟨g9, 0, none⟩) (n + 1) c9) ((((L.take (q + 1) ++ (⟨xg, xa, xc⟩ : GE) :: L.drop (q + 1)).map GE.cells).set (q + 1) ((⟨yg, ya, yc⟩ : GE)).cells).set q ((⟨xg, xa, xc⟩ : GE)).cells) := OwnRow.writes (vs := ((⟨xg, xa, xc⟩ : GE)).cells) (j := 0) hr1 hM0' (Nat.le_refl _)
                    have hfin : OwnGL (setN W9 g9 (q * 8) ((⟨xg, xa, xc⟩ : GE)).cells) w.heap.size 105 (.slice (some ⟨g9, 0, none⟩) (n + 1) c9) (L.take q ++ (⟨xg, xa, xc⟩ : GE) :: L.drop q) := by
                      unfold OwnGL
                      rw [← swap_list hy, List.map_set, List.map_set]
                      exact hr2
                    have hk2 : Below w.heap.size w (setN W9 g9 (q * 8) ((⟨xg, xa, xc⟩ : GE)).cells) := Below.setN HG9.out hk1
                    clear a0 f0 a1 f1 a2 f2 a3 f3 a4 f4 a5 f5 a6 f6 a7 f7 hr1 hr2
                    go_wp2_with fail
                    go_roundw
                    case rel => exact ⟨q, by omega, by go_num, hfin, hE2, hk2⟩
                    case measure => simp [numOf'] <;> omega
                  exact AllReadyH.nil
                exact AllReadyH.nil
              exact AllReadyH.nil
            exact AllReadyH.nil
          exact AllReadyH.nil
set_option maxHeartbeats 3200000 in
theorem removeR_w {L : List GE} {i : Nat} {v : Value} {w : World} (h : IsGE w v L) (hn : L.length ≤ 1000) (hi : i < L.length) :
    Calls prog 66 #[v, .int .i64 (i : Int)] w fun e w' => (∃ u, e = .returned u ∧ OwnGL w' w.heap.size 105 u (L.eraseIdx i)) ∧ Below w.heap.size w w' := by
  obtain ⟨iG, TG⟩ := elGR
  have HT := Lib.hid TG
  obtain ⟨va, vc, rfl, hk⟩ := h.slice
  obtain ⟨b0, off0, rfl⟩ := hrow_some h.1 (fun e => by have e := congrArg List.length e; rw [List.length_map] at e; simp at e; subst e; simp at hi)
  obtain ⟨n, hln⟩ : ∃ n, L.length = n := ⟨_, rfl⟩
  have HL := Lib.hid hln
  rw [hln] at h hk hn hi ⊢
  have hlm : (L.map GE.cells).length = n := by rw [List.length_map]; exact hln
  have H1 := Lib.hid (HRow.take (i := i) h.1 (by rw [hlm]; omega))
  have H2 : Hid (HRow w (.slice (if vc = i + 1 then some ⟨b0, off0, none⟩ else some ⟨b0, off0 + (i + 1) * 8, none⟩) (n - (i + 1)) (vc - (i + 1))) 8 ((L.map GE.cells).drop (i + 1))) := Lib.hid (by
    by_cases hc : vc = i + 1
    · rw [if_pos hc]
      exact ⟨_, vc - (i + 1), by rw [List.length_drop, hlm], by rw [List.length_drop, hlm]; omega, fun h0 => absurd h0 (by rw [List.length_drop, hlm]; omega)⟩
    · rw [if_neg hc]
      exact HRow.drop (i := i + 1) h.1 (by rw [hlm]; omega))
  have i6 : (0 : Int) ≤ (i : Int) + 1 := by omega
  have HLM := Lib.hid hlm
  have i1 : (i : Int) ≤ (vc : Int) := by omega
  have i2 : (i : Int) + 1 ≤ (n : Int) := by omega
  have i3 : IntKind.i64.wrap ((i : Int) + 1) = (i : Int) + 1 := IntWalk.i64_in _ (by omega)
  have hbk : Below w.heap.size w w.drew := (Below.refl _ _).drew
  clear h TG hln hlm
  go_enter func66, ntmps66
  go_wp2_with fail
  refine wp_region_held_drew (S := (fun W => Below w.heap.size w W)) (by kernel_rfl) ?_ (fun hHeld => ?_)
  · (try dsimp only)
    exact hbk
  generalize w.drew = W2 at hbk ⊢
  refine wpAnyH_take (i := 1) (oi := { dst := some 6, op := Op.move (Operand.tmp 0), type := 22, pos := "ref.go:214", after := #[], guard := none }) (v := ?_) rfl (by kernel_rfl) (by kernel_rfl) (by kernel_rfl) (fun _ _ _ h => h) (Or.inl ⟨by rfl, ?_⟩) (by assumption) ?_
  rotate_left
  · (intro w hSw; (try dsimp only at hSw); go_simp); all_goals (with_reducible rfl)
  try simp only [Act.put, List.setIfInBounds_toArray, List.set_cons_zero, List.set_cons_succ]
  refine wpAnyH_take (i := 2) (oi := { dst := some 7, op := Op.move (Operand.tmp 1), type := 3, pos := "ref.go:214", after := #[], guard := none }) (v := ?_) rfl (by kernel_rfl) (by kernel_rfl) (by kernel_rfl) (fun _ _ _ h => h) (Or.inl ⟨by rfl, ?_⟩) (by assumption) ?_
  rotate_left
  · (intro w hSw; (try dsimp only at hSw); go_simp); all_goals (with_reducible rfl)
  try simp only [Act.put, List.setIfInBounds_toArray, List.set_cons_zero, List.set_cons_succ]
  refine wpAnyH_take (i := 3) (oi := { dst := some 8, op := Op.slice 22 (Operand.tmp 6) none (some (Operand.tmp 7)) none, type := 22, pos := "ref.go:214", after := #[{ on := 1, ground := Ground.data }, { on := 2, ground := Ground.data }], guard := none }) (v := ?_) rfl (by kernel_rfl) (by kernel_rfl) (by kernel_rfl) (fun _ _ _ h => h) (Or.inl ⟨by rfl, ?_⟩) (by assumption) ?_
  rotate_left
  · (intro w hSw; (try dsimp only at hSw); go_simp); all_goals (with_reducible rfl)
  try simp only [Act.put, List.setIfInBounds_toArray, List.set_cons_zero, List.set_cons_succ]
  refine wpAnyH_take (i := 5) (oi := { dst := some 10, op := Op.move (Operand.tmp 0), type := 22, pos := "ref.go:214", after := #[], guard := none }) (v := ?_) rfl (by kernel_rfl) (by kernel_rfl) (by kernel_rfl) (fun _ _ _ h => h) (Or.inl ⟨by rfl, ?_⟩) (by assumption) ?_
  rotate_left
  · (intro w hSw; (try dsimp only at hSw); go_simp); all_goals (with_reducible rfl)
  try simp only [Act.put, List.setIfInBounds_toArray, List.set_cons_zero, List.set_cons_succ]
  refine wpAnyH_take (i := 6) (oi := { dst := some 11, op := Op.move (Operand.tmp 1), type := 3, pos := "ref.go:214", after := #[], guard := none }) (v := ?_) rfl (by kernel_rfl) (by kernel_rfl) (by kernel_rfl) (fun _ _ _ h => h) (Or.inl ⟨by rfl, ?_⟩) (by assumption) ?_
  rotate_left
  · (intro w hSw; (try dsimp only at hSw); go_simp); all_goals (with_reducible rfl)
  try simp only [Act.put, List.setIfInBounds_toArray, List.set_cons_zero, List.set_cons_succ]
  refine wpAnyH_take (i := 7) (oi := { dst := some 12, op := Op.binOp BinOp.add 3 (Operand.tmp 11) (Operand.const (Value.int IntKind.i64 1)) 3, type := 3, pos := "ref.go:214", after := #[{ on := 6, ground := Ground.data }], guard := none }) (v := ?_) rfl (by kernel_rfl) (by kernel_rfl) (by kernel_rfl) (fun _ _ _ h => h) (Or.inl ⟨by rfl, ?_⟩) (by assumption) ?_
  rotate_left
  · (intro w hSw; (try dsimp only at hSw); go_simp); all_goals (with_reducible rfl)
  try simp only [Act.put, List.setIfInBounds_toArray, List.set_cons_zero, List.set_cons_succ]
  refine wpAnyH_take (i := 8) (oi := { dst := some 13, op := Op.slice 22 (Operand.tmp 10) (some (Operand.tmp 12)) none none, type := 22, pos := "ref.go:214", after := #[{ on := 5, ground := Ground.data }, { on := 7, ground := Ground.data }], guard := none }) (v := ?_) rfl (by kernel_rfl) (by kernel_rfl) (by kernel_rfl) (fun _ _ _ h => h) (Or.inl ⟨by rfl, ?_⟩) (by assumption) ?_
  rotate_left
  · (intro w hSw; (try dsimp only at hSw); go_simp); all_goals (with_reducible rfl)
  try simp only [Act.put, List.setIfInBounds_toArray, List.set_cons_zero, List.set_cons_succ]
  refine wpAnyH_ready (rs := [0]) (by kernel_rfl) (by simp) ?_
  refine AllReadyH.cons (o := { dst := some 5, op := Op.buildSlice 22 0 #[], type := 22, pos := "ref.go:214", after := #[], guard := none }) rfl (fun K hK => ?_) ?_
  · -- buildSlice
    (go_simp; have hE := newOwn9 (e := 105) (m := 8) hbk (Nat.le_refl _); replace hbk := hbk.alloc hbk.size (.cells #[] 105))
    refine hK.out _ _ ?_ (fun hHeld => ?_)
    · (try dsimp only)
      exact hbk
    clear hK K
    try simp only [Act.put, List.setIfInBounds_toArray, List.set_cons_zero, List.set_cons_succ]
    refine wpAnyH_ready (rs := [4]) (by kernel_rfl) (by simp) ?_
    refine AllReadyH.cons (o := { dst := some 9, op := Op.call { callee := Callee.builtin Builtin.append, args := #[Operand.tmp 5, Operand.tmp 8], argTypes := #[22, 22] }, type := 22, pos := "ref.go:214", after := #[{ on := 0, ground := Ground.data }, { on := 3, ground := Ground.data }], guard := none }) rfl (fun K hK => ?_) ?_
    · -- append
      (obtain ⟨v1, w1, hrun, hR, hg⟩ := run_appendH HT.out 22 hE (H1.out.below hbk) (fun x hx => ge_len L x (List.mem_of_mem_take hx)) (fun x hx => ge_one L x (List.mem_of_mem_take hx)) (Nat.zero_le _) (by rw [List.length_take, HLM.out]; omega) hbk.size; refine app_step rfl (app_run (s := .tmp 5) (x := .tmp 8) rfl rfl rfl rfl hrun) ?_; replace hbk := hbk.grown hg hbk.size (fun q hq => by cases hq; exact (hE.lt _ rfl).1); rw [List.nil_append] at hR; clear hE hrun hg)
      refine hK.out _ _ ?_ (fun hHeld => ?_)
      · (try dsimp only)
        exact hbk
      clear hK K
      try simp only [Act.put, List.setIfInBounds_toArray, List.set_cons_zero, List.set_cons_succ]
      refine wpAnyH_ready (rs := [9]) (by kernel_rfl) (by simp) ?_
      refine AllReadyH.cons (o := { dst := some 14, op := Op.call { callee := Callee.builtin Builtin.append, args := #[Operand.tmp 9, Operand.tmp 13], argTypes := #[22, 22] }, type := 22, pos := "ref.go:214", after := #[{ on := 4, ground := Ground.data }, { on := 8, ground := Ground.data }, { on := 4, ground := Ground.chain }], guard := none }) rfl (fun K hK => ?_) ?_
      · -- append
        (obtain ⟨v2, w2, hrun, hR2, hg⟩ := run_appendH HT.out 22 hR (H2.out.below hbk) (fun x hx => ge_len L x (List.mem_of_mem_drop hx)) (fun x hx => ge_one L x (List.mem_of_mem_drop hx)) (by rw [List.length_take, HLM.out]; omega) (by rw [List.length_drop, HLM.out]; omega) hbk.size; refine app_step rfl (app_run (s := .tmp 9) (x := .tmp 13) rfl rfl rfl rfl hrun) ?_; replace hbk := hbk.grown hg hbk.size (fun q hq => (hR.lt q hq).1); clear hR hrun hg)
        refine hK.out _ _ ?_ (fun hHeld => ?_)
        · (try dsimp only)
          exact hbk
        clear hK K
        try simp only [Act.put, List.setIfInBounds_toArray, List.set_cons_zero, List.set_cons_succ]
        refine wpAnyH_take (i := 10) (oi := { dst := some 4, op := Op.assign (Operand.tmp 14), type := 22, pos := "ref.go:214", after := #[{ on := 9, ground := Ground.data }, { on := 9, ground := Ground.chain }, { on := 0, ground := Ground.phase }, { on := 1, ground := Ground.phase }, { on := 2, ground := Ground.phase }, { on := 3, ground := Ground.phase }, { on := 4, ground := Ground.phase }, { on := 5, ground := Ground.phase }, { on := 6, ground := Ground.phase }, { on := 7, ground := Ground.phase }, { on := 8, ground := Ground.phase }, { on := 9, ground := Ground.phase }], guard := none }) (v := ?_) rfl (by kernel_rfl) (by kernel_rfl) (by kernel_rfl) (fun _ _ _ h => h) (Or.inl ⟨by rfl, ?_⟩) (by assumption) ?_
        rotate_left
        · (intro w hSw; (try dsimp only at hSw); go_simp); all_goals (with_reducible rfl)
        try simp only [Act.put, List.setIfInBounds_toArray, List.set_cons_zero, List.set_cons_succ]
        refine wpAnyH_done (by kernel_rfl) ?_ _
        have hfin : OwnGL w2 w.heap.size 105 v2 (L.eraseIdx i) := by
          unfold OwnGL
          rw [List.eraseIdx_eq_take_drop_succ, List.map_append, List.map_take, List.map_drop]
          exact hR2
        clear hR2
        go_wp2_with fail
        all_goals (go_ret; exact ⟨⟨_, rfl, hfin⟩, hbk⟩)
      exact AllReadyH.nil
    exact AllReadyH.nil
  exact AllReadyH.nil
end Go.Proofs.Tryz
