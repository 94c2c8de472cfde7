/- Lists of games cloned, copied, laid in order, shortened by one, by the season: by the kit's walk. -/
import Derived.Test.YtbfonnoebbjenaaGreatDoorAxBd
import Derived.Test.YtbfonnoebbjenaaGreatDoorAxN
namespace Go.Proofs.Tryz
open Go Go.Am Go.RowKit Go.Op
set_option maxRecDepth 100000

theorem OwnGE.setCell {w : World} {base e eL : Nat} {v : Value} {L : List GE} (h : OwnGE w base e eL v L) {b e' : Nat} {cs : Array Value} (ha : At w b cs e') (hne : e ≠ e') (hne2 : eL ≠ e') (i : Nat) (u : Value) : OwnGE (w.setCell ⟨b, i, none⟩ u) base e eL v L := ⟨OwnRow.setCell h.1 ha hne i u, fun x hx => OwnRow.setCell (h.2 x hx) ha hne2 i u⟩
theorem OwnGE.mono {w : World} {base b2 e eL : Nat} {v : Value} {L : List GE} (h : OwnGE w base e eL v L) (hb : b2 ≤ base) : OwnGE w b2 e eL v L := ⟨OwnRow.mono h.1 hb, fun x hx => (h.2 x hx).mono hb⟩
theorem HRow.take {w : World} {ad : Option Addr} {n c m i : Nat} {l : List (List Value)} (h : HRow w (.slice ad n c) m l) (hi : i ≤ l.length) : HRow w (.slice ad i c) m (l.take i) := by
  obtain ⟨a, c', e, h1, h2⟩ := h
  simp only [Value.slice.injEq] at e
  obtain ⟨rfl, rfl, rfl⟩ := e
  have hl : (l.take i).length = i := by rw [List.length_take]; omega
  refine ⟨ad, c, by rw [hl], by rw [hl]; omega, fun h0 => ?_⟩
  rw [hl] at h0
  obtain ⟨b, off, e, h3⟩ := h2 (by omega)
  refine ⟨b, off, e, fun j hj k u hu => h3 j (by rw [hl] at hj; omega) k u ?_⟩
  rw [hl] at hj
  replace hu : (((l.take i)[j]?).getD [])[k]? = some u := hu
  rw [List.getElem?_take, if_pos hj] at hu
  exact hu
theorem HRow.drop {w : World} {b off n c m i : Nat} {l : List (List Value)} (h : HRow w (.slice (some ⟨b, off, none⟩) n c) m l) (hi : i ≤ l.length) : HRow w (.slice (some ⟨b, off + i * m, none⟩) (n - i) (c - i)) m (l.drop i) := by
  obtain ⟨a, c', e, h1, h2⟩ := h
  simp only [Value.slice.injEq] at e
  obtain ⟨rfl, rfl, rfl⟩ := e
  have hl : (l.drop i).length = l.length - i := List.length_drop
  refine ⟨_, c - i, by rw [hl], by rw [hl]; omega, fun h0 => ⟨b, off + i * m, rfl, fun j hj k u hu => ?_⟩⟩
  rw [hl] at hj h0
  obtain ⟨b', off', e, h3⟩ := h2 (by omega)
  simp only [Option.some.injEq, Addr.mk.injEq, and_true] at e
  obtain ⟨rfl, rfl⟩ := e
  replace hu : (((l.drop i)[j]?).getD [])[k]? = some u := hu
  rw [List.getElem?_drop] at hu
  have := h3 (i + j) (by omega) k u hu
  rw [show off + i * m + j * m = off + (i + j) * m by rw [Nat.add_mul]; omega]
  exact this
theorem size_alloc9 (w : World) (o : Obj) : (w.alloc o).heap.size = w.heap.size + 1 := by simp
theorem newAt8 {B : Nat} {w0 W : World} (_h : Below B w0 W) (cs : Array Value) (e : TypeId) : At (W.alloc (.cells cs e)) W.heap.size cs e := at_new _ _ _
theorem haltMk {ops : Array Oper} {rest : List Oper} {d : Option Tmp} {t : TypeId} {p : String} {f : Array Edge} {g : Option (Nat × Bool)} {s : TypeId} {x y : Operand} {a : Act} {w : World} {Q : Exit → Act → World → Prop} (h : Halt (wpList prog ops Q (⟨d, Op.makeSlice s x y, t, p, f, g⟩ :: rest) a w)) : wpList prog ops Q (⟨d, Op.makeSlice s x y, t, p, f, g⟩ :: rest) a w := h
theorem haltCp {ops : Array Oper} {rest : List Oper} {d : Option Tmp} {t : TypeId} {p : String} {f : Array Edge} {g : Option (Nat × Bool)} {s x : Operand} {ty : Array TypeId} {a : Act} {w : World} {Q : Exit → Act → World → Prop} (h : Halt (wpList prog ops Q (⟨d, Op.call { callee := .builtin .copy, args := #[s, x], argTypes := ty }, t, p, f, g⟩ :: rest) a w)) : wpList prog ops Q (⟨d, Op.call { callee := .builtin .copy, args := #[s, x], argTypes := ty }, t, p, f, g⟩ :: rest) a w := h
/-- A handed row copied into a row of the call's own of the same length. -/
theorem wpList_copyH {t e : TypeId} {m : Nat} {iT : TypeInfo} {z : Value} {by' : Nat} (T : ElT t e m iT z by') (w : World) {ops : Array Oper} {rest : List Oper} {o : Oper} {a : Act} {Q : Exit → Act → World → Prop} (hgd : o.guard = none) (dd ss : Operand)
    (ho : o.op = .call { callee := .builtin .copy, args := #[dd, ss], argTypes := #[t, t] }) (base g n c : Nat) (ad : Option Addr) (hd : a.eval dd = .slice (some ⟨g, 0, none⟩) n n) (hs : a.eval ss = .slice ad n c)
    (xs : List Value) (hown : w.ownsRow base e m (.slice (some ⟨g, 0, none⟩) n n) n xs) (l : List (List Value)) (hl : l.length = n) (hm : ∀ x ∈ l, x.length = m) (h1 : ∀ x ∈ l, ∀ u ∈ x, u.oneCell' = true) (hsrc : HRow w (.slice ad n c) m l)
    (h : ∀ w', OwnRow w' base e m (.slice (some ⟨g, 0, none⟩) n n) l → w.grownBy w' (some g) → wpList prog ops Q rest (a.put o.dst (goInt n)) w') : wpList prog ops Q (o :: rest) a w := by
  refine wpList_plain hgd fun K hK => ?_
  unfold Oper.wp
  by_cases h0 : n = 0
  · subst h0
    have e0 : l = [] := List.length_eq_zero_iff.1 hl
    subst e0
    have hl0 : ∀ (x : Addr), (loadCells x 0).run prog w = .ok #[] w := fun x => by simpa using run_loadCells_list (P := prog) w x [] (by simp)
    have hrun : (Builtin.copy_ #[t, t] o.type #[.slice (some ⟨g, 0, none⟩) 0 0, .slice ad 0 c]).run prog w = .ok (goInt 0) w := by
      cases ad <;> simp [Builtin.copy_, run_underlying T.ht, Builtin.lenOf, Builtin.firstCells, sizeOf, typeInfo, T.hi, storeCells, hl0]
    simp [execOp, ho, resolve, invoke, builtin, hd, hs, hrun, Result.andThen]
    have hx : xs = flatR [] := by
      have := hown.1
      simp only [Nat.zero_mul, List.length_eq_zero_iff] at this
      rw [this]; rfl
    exact hK _ _ (h w ⟨hx ▸ hown, hm⟩ (World.grownBy.refl _ _))
  · obtain ⟨b, off, rfl⟩ := hrow_some hsrc (fun e => h0 (by rw [← hl, e]; rfl))
    have hfl : (flatR l).length = n * m := by rw [flatR_lenG hm, hl]
    rcases hown.2 with ⟨e, _⟩ | ⟨g', cap, cur, e, q1, q2, q3, q4, q5, q6⟩
    · cases e
    · simp only [Value.slice.injEq, Option.some.injEq, Addr.mk.injEq, true_and, and_true] at e
      obtain ⟨rfl, rfl⟩ := e
      have hsr := HRow.flat hm (by rw [hl]; exact hsrc)
      have hld := run_loadCells_list (P := prog) w ⟨b, off, none⟩ (flatR l) hsr
      have hst := run_storeCells_at prog g 0 e (flatR l) 0 cur w q2 (by rw [hfl, q5]; omega) (flat_one h1)
      rw [hfl] at hld
      have hms := T.hs
      have hrun : (Builtin.copy_ #[t, t] o.type #[.slice (some ⟨g, 0, none⟩) n n, .slice (some ⟨b, off, none⟩) n c]).run prog w = .ok (goInt n) (w.setRow g (cur.toList.take (0 + 0) ++ flatR l ++ cur.toList.drop (0 + 0 + (flatR l).length)).toArray) := by
        simp [Builtin.copy_, run_underlying T.ht, Builtin.lenOf, Builtin.firstCells, sizeOf, typeInfo, T.hi, hms, hld] at hst ⊢
        simp [hst]
      simp [execOp, ho, resolve, invoke, builtin, hd, hs, hrun, Result.andThen]
      refine hK _ _ (h _ ⟨?_, hm⟩ ?_)
      · have hh := setRow_heap w g cur (cur.toList.take (0 + 0) ++ flatR l ++ cur.toList.drop (0 + 0 + (flatR l).length)).toArray e (0, 0) q2
        simp only [Nat.add_zero, List.take_zero, List.nil_append, Nat.zero_add] at hh ⊢
        rw [hl]
        refine ⟨hfl, .inr ⟨g, n, _, rfl, q1, by simpa using hh, Nat.le_refl _, q4, ?_, ?_⟩⟩
        · simp [hfl, q5]
        · simp [← hfl]
      · exact ⟨rfl, rfl, rfl, by simp, fun k _ hk => setRow_other w g k _ (fun e => hk (by rw [e]))⟩
theorem IsLines.hrow {w : World} {v : Value} {l : Nat → LnD} {k : Nat} (h : IsLines w v l k) : HRow w v 14 (linesL l k) := by
  unfold HRow
  rw [linesL_len]
  exact Row.congr h fun i hi => by simp [linesL, hi]
theorem lines_lens (l : Nat → LnD) (k : Nat) : ∀ x ∈ linesL l k, x.length = 14 := fun x hx => by
  obtain ⟨i, -, rfl⟩ := List.mem_map.1 hx
  exact LnD.len _
theorem lines_one (l : Nat → LnD) (k : Nat) : ∀ x ∈ linesL l k, ∀ u ∈ x, u.oneCell' = true := fun x hx => by
  obtain ⟨i, -, rfl⟩ := List.mem_map.1 hx
  exact LnD.one _
set_option maxHeartbeats 3200000 in
theorem cloneG_w {w : World} {v : Value} {L : List GE} (h : IsGE w v L) (hn : L.length ≤ 10000) : Calls prog 127 #[v] w fun e w' => (∃ u, e = .returned u ∧ OwnGL w' w.heap.size 110 u L) ∧ Below w.heap.size w w' := by
  have q29 : ∀ (w : World) (a : Option Addr) (n c n' c' : Nat), (binOp .eql 29 (.slice a n c) (.slice none n' c')).run prog w = .ok (.bool a.isNone) w := fun w a n c n' c' => Lib.run_eql_slice_nil w _ _ a n c n' c' (by kernel_rfl : prog.underlying 29 = some (.slice 110))
  obtain ⟨iT, TT⟩ := elG
  have HT := Lib.hid TT
  have HV := Lib.hid h
  obtain ⟨va, vc, rfl, hk⟩ := h.slice
  cases va with
  | none =>
    have hl0 : L = [] := by
      by_cases h0 : L = []
      · exact h0
      · obtain ⟨b, off, e⟩ := hrow_some h.1 (by simpa using h0); cases e
    subst hl0
    clear h HV HT TT
    go_enter func127, ntmps127
    go_wp2_with fail
    go_ret
    exact ⟨⟨_, rfl, OwnRow.start _ _ _ _⟩, Below.refl _ _⟩
  | some a =>
    have hal : Below w.heap.size w (w.alloc (.cells #[] 110)) := (Below.refl _ _).alloc (Nat.le_refl _) _
    have hown0 : OwnRow (w.alloc (.cells #[] 110)) w.heap.size 110 8 (.slice (some ⟨w.heap.size, 0, none⟩) 0 0) [] := ⟨World.ownsRow_made w #[] 0 (Nat.le_refl _) (Nat.zero_le _) (by simp), fun _ h => absurd h List.not_mem_nil⟩
    have HV1 := Lib.hid (HV.out.below hal)
    obtain ⟨n, hln⟩ : ∃ n, L.length = n := ⟨_, rfl⟩
    have HL := Lib.hid hln
    rw [hln] at HV1 hk hn ⊢
    have hsz : w.heap.size ≤ (w.alloc (.cells #[] 110)).heap.size := hal.size
    clear h HV TT hln
    go_enter func127, ntmps127
    go_wp2_with (first | (with_reducible refine haltAp ?_) | fail)
    unfold Halt
    refine wpList_appendH HT.out rfl (.tmp 5) (.tmp 6) rfl rfl rfl hown0 HV1.out.1 (ge_len L) (ge_one L) (Nat.zero_le _) (by rw [List.length_map, HL.out]; omega) hsz ?_
    intro v' w1 hown hg
    have hb1 : Below w.heap.size w w1 := hal.grown hg hal.size (fun q hq => by cases hq; exact Nat.le_refl _)
    rw [List.nil_append] at hown
    clear hg hown0 hal HV1
    go_wp2_with fail
    go_ret
    exact ⟨⟨_, rfl, hown⟩, hb1⟩
set_option maxHeartbeats 3200000 in
theorem copied_w {g : GmD} {ad : Option Addr} {kc : Nat} {w : World} (hl : IsLines w (.slice ad g.k kc) g.l g.k) (hk : g.k ≤ 1000) :
    Calls prog 162 #[.agg #[.string (bA g.nm), .int .i64 g.ver, .int .i64 g.day, .string (bA g.t0), .string (bA g.t1), .int .i64 g.s0, .int .i64 g.s1,  .slice ad g.k kc]] w fun e w' => (∃ a c, e = .returned (.agg #[.string (bA g.nm), .int .i64 g.ver, .int .i64 g.day, .string (bA g.t0), .string (bA g.t1), .int .i64 g.s0, .int .i64 g.s1,  .slice a g.k c]) ∧ OwnLines w' w.heap.size 132 (.slice a g.k c) g.l g.k) ∧ Below w.heap.size w w' := by
  obtain ⟨iL, TL⟩ := elL
  have HT := Lib.hid TL
  have hx0 := at_new w (g.arr (.slice ad g.k kc)) 110
  have hx1 := hx0.alloc (.cells #[.string ⟨#[]⟩, .int .i64 0, .int .i64 0, .string ⟨#[]⟩, .string ⟨#[]⟩, .int .i64 0, .int .i64 0, .slice none 0 0] 110)
  have hb0 : Below w.heap.size w (w.alloc (.cells (g.arr (.slice ad g.k kc)) 110)) := (Below.refl _ _).alloc (Nat.le_refl _) _
  have hb1 : Below w.heap.size w ((w.alloc (.cells (g.arr (.slice ad g.k kc)) 110)).alloc (.cells #[.string ⟨#[]⟩, .int .i64 0, .int .i64 0, .string ⟨#[]⟩, .string ⟨#[]⟩, .int .i64 0, .int .i64 0, .slice none 0 0] 110)) := hb0.alloc hb0.size _
  have hy : At ((w.alloc (.cells (g.arr (.slice ad g.k kc)) 110)).alloc (.cells #[.string ⟨#[]⟩, .int .i64 0, .int .i64 0, .string ⟨#[]⟩, .string ⟨#[]⟩, .int .i64 0, .int .i64 0, .slice none 0 0] 110)) (w.heap.size + 1) #[.string ⟨#[]⟩, .int .i64 0, .int .i64 0, .string ⟨#[]⟩, .string ⟨#[]⟩, .int .i64 0, .int .i64 0, .slice none 0 0] 110 := by
    have := at_new (w.alloc (.cells (g.arr (.slice ad g.k kc)) 110)) #[.string ⟨#[]⟩, .int .i64 0, .int .i64 0, .string ⟨#[]⟩, .string ⟨#[]⟩, .int .i64 0, .int .i64 0, .slice none 0 0] 110
    simpa using this
  obtain ⟨W1, hW⟩ : ∃ W1, (w.alloc (.cells (g.arr (.slice ad g.k kc)) 110)).alloc (.cells #[.string ⟨#[]⟩, .int .i64 0, .int .i64 0, .string ⟨#[]⟩, .string ⟨#[]⟩, .int .i64 0, .int .i64 0, .slice none 0 0] 110) = W1 := ⟨_, rfl⟩
  rw [hW] at hx1 hb1 hy
  unfold GmD.arr at hx1 hW
  obtain ⟨⟨x0, x1, x2, x3, x4, x5, x6, x7⟩, -⟩ := box8 hx1
  have hl1 := hl.below hb1
  have hsz1 : w.heap.size + 2 ≤ W1.heap.size := hy.lt
  have HX := Lib.hid (And.intro hx1 (And.intro hy hl1))
  clear hx0 hb0 hx1 hl TL hl1 hy
  go_enter func162, ntmps162
  go_wp2_with (first
    | (with_reducible refine haltMk ?_)
    | fail)
  unfold Halt
  try rw [hW]
  clear hW x0 x1 x2 x3 x4 x5 x6 x7
  refine wpList_make_full W1 rfl _ _ 108 rfl (w.heap.size + 2) 132 iL _ 14 HT.out.ht HT.out.hi HT.out.hz HT.out.hs _ _ _ _ g.k rfl rfl rfl rfl ?b2 ?b3 ?b4 ?_
  case b2 => rw [HT.out.hb]; omega
  case b3 => unfold maxLen; omega
  case b4 => exact hsz1
  intro w3 hown3 hgr3
  have hbn : Below W1.heap.size W1 w3 := (Below.refl _ W1).grown hgr3 (Nat.le_refl _) (fun q hq => by cases hq)
  have hb3 := hb1.trans (hbn.mono hb1.size)
  have hx3 := HX.out.1.below hbn HX.out.1.lt
  have hy3 := HX.out.2.1.below hbn HX.out.2.1.lt
  have hl3 := HX.out.2.2.below hbn
  have hsz3 : w.heap.size + 2 ≤ w3.heap.size := hy3.lt
  generalize W1.heap.size = b3 at hown3 hbn hsz1 ⊢
  have hlt3 := hsz1
  obtain ⟨⟨x0, x1, x2, x3, x4, x5, x6, x7⟩, -⟩ := box8 hx3
  have HX3 := Lib.hid (And.intro hx3 (And.intro hy3 (And.intro hl3 hown3)))
  clear HX hgr3 hbn hb1 hx3 hy3 hl3 hown3
  go_wp2_with (first
    | (with_reducible refine haltCp ?_)
    | fail)
  unfold Halt
  refine wpList_copyH HT.out w3 rfl (.tmp 8) (.tmp 10) rfl (w.heap.size + 2) b3 g.k kc ad rfl rfl _ HX3.out.2.2.2 (linesL g.l g.k) (linesL_len _ _) (lines_lens _ _) (lines_one _ _) HX3.out.2.2.1.hrow ?_
  intro w4 hown4 hgr4
  have hx4 : At w4 w.heap.size _ 110 := (hgr4.block _ HX3.out.1.lt (fun e => by cases e; omega)).trans HX3.out.1
  have hy4 : At w4 (w.heap.size + 1) _ 110 := (hgr4.block _ HX3.out.2.1.lt (fun e => by cases e; omega)).trans HX3.out.2.1
  have hb4 := hb3.grown hgr4 hb3.size (fun q hq => by cases hq; omega)
  clear HX3 hgr4 x0 x1 x2 x3 x4 x5 x6 x7 hb3
  obtain ⟨⟨x0, x1, x2, x3, x4, x5, x6, x7⟩, f0, f1, f2, f3, f4, f5, f6, f7⟩ := box8 hx4
  have hx5 : At (w4.setCell ⟨w.heap.size, 7, none⟩ (.slice (some ⟨b3, 0, none⟩) g.k g.k)) w.heap.size #[.string (bA g.nm), .int .i64 g.ver, .int .i64 g.day, .string (bA g.t0), .string (bA g.t1), .int .i64 g.s0, .int .i64 g.s1,  .slice (some ⟨b3, 0, none⟩) g.k g.k] 110 := hx4.set 7 (.slice (some ⟨b3, 0, none⟩) g.k g.k)
  have hy5 := hy4.setCell (a := ⟨w.heap.size, 7, none⟩) (by simp only; omega) (.slice (some ⟨b3, 0, none⟩) g.k g.k)
  have hb5 := hb4.setCell (p := ⟨w.heap.size, 7, none⟩) (Nat.le_refl _) (.slice (some ⟨b3, 0, none⟩) g.k g.k)
  have hL5 : OwnLines (w4.setCell ⟨w.heap.size, 7, none⟩ (.slice (some ⟨b3, 0, none⟩) g.k g.k)) (w.heap.size + 2) 132 (.slice (some ⟨b3, 0, none⟩) g.k g.k) g.l g.k := OwnRow.setCell hown4 hx4 (by decide) 7 _
  obtain ⟨⟨y0, y1, y2, y3, y4, y5, y6, y7⟩, -⟩ := box8 hx5
  obtain ⟨⟨z0, z1, z2, z3, z4, z5, z6, z7⟩, g0, g1, g2, g3, g4, g5, g6, g7⟩ := box8 hy5
  clear hx4 hy4 hown4 hb4 hx5
  go_wp2_with fail
  have hz := hy5.put8 (.string (bA g.nm)) (.int .i64 g.ver) (.int .i64 g.day) (.string (bA g.t0)) (.string (bA g.t1)) (.int .i64 g.s0) (.int .i64 g.s1) (.slice (some ⟨b3, 0, none⟩) g.k g.k)
  have hb6 := below_put8 hb5 (Nat.le_succ _) (.string (bA g.nm)) (.int .i64 g.ver) (.int .i64 g.day) (.string (bA g.t0)) (.string (bA g.t1)) (.int .i64 g.s0) (.int .i64 g.s1) (.slice (some ⟨b3, 0, none⟩) g.k g.k)
  have hL6 := OwnRow.put8 hL5 hy5 (by decide) (.string (bA g.nm)) (.int .i64 g.ver) (.int .i64 g.day) (.string (bA g.t0)) (.string (bA g.t1)) (.int .i64 g.s0) (.int .i64 g.s1) (.slice (some ⟨b3, 0, none⟩) g.k g.k)
  unfold Go.Proofs.Tryz.put8 at hz hb6 hL6
  clear x0 x1 x2 x3 x4 x5 x6 x7 f0 f1 f2 f3 f4 f5 f6 f7 y0 y1 y2 y3 y4 y5 y6 y7 z0 z1 z2 z3 z4 z5 z6 z7 g0 g1 g2 g3 g4 g5 g6 g7
  obtain ⟨⟨z0, z1, z2, z3, z4, z5, z6, z7⟩, -⟩ := box8 hz
  refine bodyPost_ret (v := .agg #[.string (bA g.nm), .int .i64 g.ver, .int .i64 g.day, .string (bA g.t0), .string (bA g.t1), .int .i64 g.s0, .int .i64 g.s1,  .slice (some ⟨b3, 0, none⟩) g.k g.k]) ?_ rfl ⟨⟨_, _, rfl, OwnLines.mono hL6 (by omega)⟩, hb6⟩
  simp [results, go_sem, z0, z1, z2, z3, z4, z5, z6, z7]
set_option maxHeartbeats 3200000 in
theorem mappedG_w {g : Nat → GmD} {n : Nat} {v : Value} {w : World} (h : IsGames w v g n) (hn : n ≤ 1000) (hk : ∀ i, i < n → (g i).k ≤ 1000) :
    Calls prog 161 #[v, .func (.func 162) #[] #[]] w fun e w' => (∃ u, e = .returned u ∧ OwnGames w' w.heap.size 110 132 u g n) ∧ Below w.heap.size w w' := by
  obtain ⟨iG, TG⟩ := elG
  have HT := Lib.hid TG
  clear TG
  have h0 := h
  obtain ⟨lv0, hr, -⟩ := h0
  obtain ⟨ad, c, rfl, hnc⟩ := hr.slice
  have hs0 : OwnGames w w.heap.size 110 132 (.slice none 0 0) g 0 := OwnGames.start _ _ _ _ _
  clear hr
  go_enter func161, ntmps161
  go_wp2_with fail
  go_loopw [5, 10] (fun t s wr => ∃ i : Nat, i ≤ n ∧ s = .int .i64 i ∧ OwnGames wr w.heap.size 110 132 t g i ∧ Below w.heap.size w wr) (fun _ s _ => n - (numOf' s).toNat)
  case atStart => exact ⟨0, Nat.zero_le _, rfl, hs0, Below.refl _ _⟩
  case round =>
    clear hs0
    obtain ⟨i, hi, rfl, hl, hb⟩ := hrel
    obtain ⟨wq, rfl⟩ : ∃ W : World, W = wr := ⟨_, rfl⟩
    by_cases hin : i < n
    · obtain ⟨b, off, c1, a1, kc, e, -, hli, p0, p1, p2, p3, p4, p5, p6, p7⟩ := (h.below hb).at hin
      simp only [Value.slice.injEq, true_and] at e
      obtain ⟨rfl, rfl⟩ := e
      have hii : (i : Int) < (n : Int) := by omega
      have hki := hk i hin
      have hb1 : Below wq.heap.size wq (wq.alloc (.cells ((g i).arr (.slice a1 (g i).k kc)) 110)) := (Below.refl _ _).alloc (Nat.le_refl _) _
      have hx1 := at_new wq ((g i).arr (.slice a1 (g i).k kc)) 110
      have hl1 := hli.below hb1
      obtain ⟨W2, hW⟩ : ∃ W2, wq.alloc (.cells ((g i).arr (.slice a1 (g i).k kc)) 110) = W2 := ⟨_, rfl⟩
      rw [hW] at hb1 hx1 hl1
      unfold GmD.arr at hW hx1
      obtain ⟨⟨x0, x1, x2, x3, x4, x5, x6, x7⟩, -⟩ := box8 hx1
      have cC := copied_w hl1 hki
      obtain ⟨gi, hgi⟩ : ∃ y, g i = y := ⟨_, rfl⟩
      have HGI := Lib.hid hgi
      rw [hgi] at p0 p1 p2 p3 p4 p5 p6 p7 x0 x1 x2 x3 x4 x5 x6 x7 hW cC hki
      clear hl1 hli hx1
      go_wp2_with fail
      try rw [hW]
      clear hW p0 p1 p2 p3 p4 p5 p6 p7
      go_wp2_with fail
      refine cC.mono ?_
      rintro e w3 ⟨⟨a, c, rfl, hL⟩, hk3⟩
      obtain ⟨lvs, hG1, hG2⟩ := hl
      have hb3 := hb1.trans (hk3.mono hb1.size)
      have hal := fun o => (Below.refl w3.heap.size w3).alloc (Nat.le_refl _) o
      have hbx := hb.trans (hb3.mono hb.size)
      have hbs := Nat.le_trans hb.size hb1.size
      clear cC hk3 x0 x1 x2 x3 x4 x5 x6 x7
      go_wp2_with (first
        | (with_reducible refine haltR ?_)
        | fail)
      unfold Halt
      refine wpList_sliceR (fun w => run_sliceG w gi a gi.k c) _ rfl _ rfl rfl ?_
      refine wpList_appendR HT.out _ rfl _ _ rfl w.heap.size _ (gamesL g lvs i) _ rfl 1 rfl ((hG1.below hb3).below (hal _)) (by rw [gamesL_len]; omega) (gi.cells (.slice a gi.k c)) (GmD.len _ _) (GmD.one _ _ _ _) ?hat ?c2 ?_
      case hat => rw [GmD.arr_eq]; exact at_new _ _ _
      case c2 => exact Nat.le_trans hbx.size (hal _).size
      intro a9 k9 c9 w9 hA
      have hG9 : OwnGames w9 w.heap.size 110 132 (.slice a9 k9 c9) g (i + 1) := by
        rw [← HGI.out] at hA hL
        exact OwnGames.more (by decide) (fun q hq => ((hG2 q hq).below hb3).below (hal _)) ((hL.mono hbs).below (hal _)) hA
      have hb9 := hA.below w (hbx.trans ((hal _).mono hbx.size)) (Nat.le_refl _)
      clear hA hG1 hG2 hL hal hb1 hb3 hbx HGI
      go_wp2_with fail
      go_roundw
      case rel => exact ⟨i + 1, by omega, by go_num, hG9, hb9⟩
      case measure => simp [numOf'] <;> omega
    · obtain rfl : i = n := by omega
      clear hk h
      go_wp2_with fail
      go_ret
      exact ⟨⟨_, rfl, hl⟩, hb⟩
set_option maxHeartbeats 3200000 in
theorem ordered_w {w : World} {v : Value} {L : List GE} (h : IsGE w v L) (hn : L.length ≤ 1000) (hk : ∀ x ∈ L, x.g.k ≤ 1000) (hd : NamesG (gmL L)) :
    Calls prog 126 #[v] w fun e w' => (∃ u M, e = .returned (.agg #[u]) ∧ (gmL M).Perm (gmL L) ∧ SortG (gmL M) ∧ OwnGE w' w.heap.size 110 132 u M) ∧ Below w.heap.size w w' := by
  have hb0 : Below w.heap.size w (w.alloc (.cells #[.slice none 0 0] 31)) := (Below.refl _ _).alloc (Nat.le_refl _) _
  have hx := at_new w #[.slice none 0 0] 31
  have cM := mappedG_w (h.below hb0).is hn (fun i hi => by
    rw [gmL_at (List.getElem?_eq_getElem hi)]
    exact hk _ (List.getElem_mem hi))
  obtain ⟨W1, hW⟩ : ∃ W1, w.alloc (.cells #[.slice none 0 0] 31) = W1 := ⟨_, rfl⟩
  rw [hW] at cM hx hb0
  have HD := Lib.hid (And.intro hd hn)
  clear h hk hd
  go_enter func126, ntmps126
  go_wp2_with fail
  try rw [hW]
  clear hW
  go_at_call 161
  refine cM.mono ?_
  rintro e w2 ⟨⟨u, rfl, hu⟩, hk2⟩
  obtain ⟨a5, c5, rfl⟩ := hu.slice
  obtain ⟨M, hM, hOM⟩ := hu.ge
  rw [← gmL_len L, atG_list] at hM
  have cS := sortGL_w hOM (by have := HD.out.2; have e := congrArg List.length hM; rw [gmL_len, gmL_len] at e; omega) (by rw [hM]; exact HD.out.1)
  have HM := Lib.hid hM
  have HK2 := Lib.hid hk2
  have hs1 := hb0.size
  generalize L.length = n at cS ⊢
  clear cM hu hOM hM hk2
  go_wp2_with fail
  go_at_call 163
  refine cS.mono ?_
  rintro e w3 ⟨rfl, ⟨M', hp, hso, hOM'⟩, hkp⟩
  have hbq : Below W1.heap.size W1 w3 := hkp W1 HK2.out (Nat.le_refl _)
  have hb3 := hb0.trans (hbq.mono hs1)
  have hx3 := hx.below hbq hx.lt
  obtain ⟨y0, f0⟩ := box1 hx3
  have hb4 := hb3.setCell (p := ⟨w.heap.size, 0, none⟩) (Nat.le_refl _) (.slice a5 n c5)
  have hx4 := hx3.set 0 (.slice a5 n c5)
  obtain ⟨y1, f1⟩ := box1 hx4
  have hO4 : OwnGE (w3.setCell ⟨w.heap.size, 0, none⟩ (.slice a5 n c5)) w.heap.size 110 132 (.slice a5 n c5) M' := (hOM'.setCell hx3 (by decide) (by decide) 0 _).mono hs1
  have hpm : (gmL M').Perm (gmL L) := by rw [← HM.out]; exact hp.map _
  clear cS hkp hbq hx3 hx4 hOM' hb3 HK2
  go_wp2_with fail
  refine bodyPost_ret (by simp [results, go_sem, y1]; rfl) rfl ?_
  exact ⟨⟨_, M', rfl, hpm, hso, hO4⟩, hb4⟩
set_option maxHeartbeats 3200000 in
theorem deleteG_w {w : World} {base : Nat} {v : Value} {L : List GE} {i : Nat} (h : OwnGL w base 110 v L) (hn : L.length ≤ 10000) (hi : i < L.length) :
    Calls prog 164 #[v, .int .i64 (i : Int), .int .i64 ((i : Int) + 1)] w fun e w' => (∃ u, e = .returned u ∧ OwnGL w' base 110 u (L.eraseIdx i)) ∧ Keeps base w w' := by
  obtain ⟨iG, TG⟩ := elG
  have HT := Lib.hid TG
  obtain ⟨g, cap, rfl, hbg, hcap⟩ := OwnRow.own h (i := i) (by rw [List.length_map]; exact hi)
  rw [List.length_map] at hcap h ⊢
  obtain ⟨n, hln⟩ : ∃ n, L.length = n := ⟨_, rfl⟩
  have HL := Lib.hid hln
  rw [hln] at h hn hi hcap ⊢
  have HH := Lib.hid h
  have i1 : ((i : Int) == (i : Int) + 1) = false := by
    rw [beq_eq_false_iff_ne]; omega
  have i2 : (i : Int) + 1 ≤ (n : Int) := by omega
  have i3 : (i : Int) ≤ (n : Int) := by omega
  have i4 : (n : Int) ≤ (cap : Int) := by omega
  have i5 : (i : Int) ≤ (cap : Int) := by omega
  have i6 : (0 : Int) ≤ (i : Int) + 1 := by omega
  obtain ⟨m, hm⟩ : ∃ m, n = m + 1 := ⟨n - 1, by omega⟩
  have he : i + (n - (i + 1)) = m := by omega
  have hlm : (L.map GE.cells).length = n := by rw [List.length_map]; exact hln
  have hlt : ((L.map GE.cells).take i).length = i := by rw [List.length_take, hlm]; omega
  have hld : ((L.map GE.cells).drop (i + 1)).length = n - (i + 1) := by rw [List.length_drop, hlm]
  have HRUN : Hid (∃ w1, (Builtin.append_ #[29, 29] 29 #[.slice (some ⟨g, 0, none⟩) i cap, .slice (if cap = i + 1 then some ⟨g, 0, none⟩ else some ⟨g, (i + 1) * 8, none⟩) (n - (i + 1)) (cap - (i + 1))]).run prog w.drew = .ok (.slice (some ⟨g, 0, none⟩) m cap) w1 ∧ OwnGL w1 base 110 (.slice (some ⟨g, 0, none⟩) m cap) (L.eraseIdx i) ∧ w.drew.grownBy w1 (some g)) := Lib.hid (by
    have hd : OwnGL w.drew base 110 (.slice (some ⟨g, 0, none⟩) n cap) L := h
    have hshort := OwnRow.short hd (i := i) (by rw [hlm]; omega)
    have hh := hd.hrow
    rw [HRow] at hh
    have hdrop : ∃ o2, (if cap = i + 1 then (some ⟨g, 0, none⟩ : Option Addr) else some ⟨g, (i + 1) * 8, none⟩) = some ⟨g, o2, none⟩ ∧ HRow w.drew (.slice (some ⟨g, o2, none⟩) (n - (i + 1)) (cap - (i + 1))) 8 ((L.map GE.cells).drop (i + 1)) := by
      by_cases hc : cap = i + 1
      · refine ⟨0, if_pos hc, _, cap - (i + 1), by rw [hld], by rw [hld]; omega, fun h0 => absurd (hld ▸ h0) (by omega)⟩
      · refine ⟨_, if_neg hc, ?_⟩
        have := HRow.drop (i := i + 1) hd.hrow (by rw [hlm]; omega)
        rw [Nat.zero_add] at this
        exact this
    obtain ⟨o2, e2, hdr⟩ := hdrop
    have := run_appendI HT.out 29 (l := (L.map GE.cells).take i) (l2 := (L.map GE.cells).drop (i + 1)) (b := g) (off := o2) (c := cap - (i + 1)) (by rw [hlt]; exact hshort) (by rw [hld]; exact hdr) (fun x hx => ge_len L x (List.mem_of_mem_drop hx)) (fun x hx => ge_one L x (List.mem_of_mem_drop hx)) (by rw [hlt, hld]; omega)
    rw [hlt, hld, he] at this
    obtain ⟨w1, q1, q2, q3⟩ := this
    refine ⟨w1, by rw [e2]; exact q1, ?_, q3⟩
    unfold OwnGL
    rw [List.eraseIdx_eq_take_drop_succ, List.map_append, List.map_take, List.map_drop]
    exact q2)
  have HE : Hid (m < n ∧ n ≤ cap ∧ (L.eraseIdx i).length = m) := Lib.hid ⟨by omega, hcap, by rw [List.length_eraseIdx, hln, if_pos hi]; omega⟩
  have i7 : (m : Int) ≤ (n : Int) := by omega
  have i8 : ¬ cap = m := by omega
  clear h hln TG he hlm hlt hld hm
  go_enter func164, ntmps164
  go_wp2_with fail
  refine wp_region_held_drew (S := (fun W => True)) (by kernel_rfl) ?_ (fun hHeld => ?_)
  · (try dsimp only)
    try trivial
  refine wpAnyH_take (i := 0) (oi := { dst := some 20, op := Op.move (Operand.tmp 0), type := 29, pos := "slices.go:232", after := #[], guard := none }) (v := ?_) rfl (by kernel_rfl) (by kernel_rfl) (by kernel_rfl) (fun _ _ _ h => h) (Or.inl ⟨by rfl, ?_⟩) (by assumption) ?_
  rotate_left
  · (intro w hSw; (try dsimp only at hSw); go_simp); all_goals (with_reducible rfl)
  try simp only [Act.put, List.setIfInBounds_toArray, List.set_cons_zero, List.set_cons_succ]
  refine wpAnyH_take (i := 1) (oi := { dst := some 21, op := Op.move (Operand.tmp 1), type := 3, pos := "slices.go:232", after := #[], guard := none }) (v := ?_) rfl (by kernel_rfl) (by kernel_rfl) (by kernel_rfl) (fun _ _ _ h => h) (Or.inl ⟨by rfl, ?_⟩) (by assumption) ?_
  rotate_left
  · (intro w hSw; (try dsimp only at hSw); go_simp); all_goals (with_reducible rfl)
  try simp only [Act.put, List.setIfInBounds_toArray, List.set_cons_zero, List.set_cons_succ]
  refine wpAnyH_take (i := 2) (oi := { dst := some 22, op := Op.slice 29 (Operand.tmp 20) none (some (Operand.tmp 21)) none, type := 29, pos := "slices.go:232", after := #[{ on := 0, ground := Ground.data }, { on := 1, ground := Ground.data }], guard := none }) (v := ?_) rfl (by kernel_rfl) (by kernel_rfl) (by kernel_rfl) (fun _ _ _ h => h) (Or.inl ⟨by rfl, ?_⟩) (by assumption) ?_
  rotate_left
  · (intro w hSw; (try dsimp only at hSw); go_simp); all_goals (with_reducible rfl)
  try simp only [Act.put, List.setIfInBounds_toArray, List.set_cons_zero, List.set_cons_succ]
  refine wpAnyH_take (i := 3) (oi := { dst := some 23, op := Op.move (Operand.tmp 0), type := 29, pos := "slices.go:232", after := #[], guard := none }) (v := ?_) rfl (by kernel_rfl) (by kernel_rfl) (by kernel_rfl) (fun _ _ _ h => h) (Or.inl ⟨by rfl, ?_⟩) (by assumption) ?_
  rotate_left
  · (intro w hSw; (try dsimp only at hSw); go_simp); all_goals (with_reducible rfl)
  try simp only [Act.put, List.setIfInBounds_toArray, List.set_cons_zero, List.set_cons_succ]
  refine wpAnyH_take (i := 4) (oi := { dst := some 24, op := Op.move (Operand.tmp 2), type := 3, pos := "slices.go:232", after := #[], guard := none }) (v := ?_) rfl (by kernel_rfl) (by kernel_rfl) (by kernel_rfl) (fun _ _ _ h => h) (Or.inl ⟨by rfl, ?_⟩) (by assumption) ?_
  rotate_left
  · (intro w hSw; (try dsimp only at hSw); go_simp); all_goals (with_reducible rfl)
  try simp only [Act.put, List.setIfInBounds_toArray, List.set_cons_zero, List.set_cons_succ]
  refine wpAnyH_take (i := 5) (oi := { dst := some 25, op := Op.slice 29 (Operand.tmp 23) (some (Operand.tmp 24)) none none, type := 29, pos := "slices.go:232", after := #[{ on := 3, ground := Ground.data }, { on := 4, ground := Ground.data }], guard := none }) (v := ?_) rfl (by kernel_rfl) (by kernel_rfl) (by kernel_rfl) (fun _ _ _ h => h) (Or.inl ⟨by rfl, ?_⟩) (by assumption) ?_
  rotate_left
  · (intro w hSw; (try dsimp only at hSw); go_simp); all_goals (with_reducible rfl)
  try simp only [Act.put, List.setIfInBounds_toArray, List.set_cons_zero, List.set_cons_succ]
  refine wpAnyH_ready (rs := [6]) (by kernel_rfl) (by simp) ?_
  refine AllReadyH.cons (o := { dst := some 26, op := Op.call { callee := Callee.builtin Builtin.append, args := #[Operand.tmp 22, Operand.tmp 25], argTypes := #[29, 29] }, type := 29, pos := "slices.go:232", after := #[{ on := 2, ground := Ground.data }, { on := 5, ground := Ground.data }], guard := none }) rfl (fun K hK => ?_) ?_
  · -- append
    (obtain ⟨w1, hrun, hR, hg⟩ := HRUN.out; refine app_step rfl (app_run (s := .tmp 22) (x := .tmp 25) rfl rfl rfl rfl hrun) ?_)
    refine hK.out _ _ ?_ (fun hHeld => ?_)
    · (try dsimp only)
      try trivial
    clear hK K
    try simp only [Act.put, List.setIfInBounds_toArray, List.set_cons_zero, List.set_cons_succ]
    refine wpAnyH_take (i := 7) (oi := { dst := some 0, op := Op.assign (Operand.tmp 26), type := 29, pos := "slices.go:232", after := #[{ on := 6, ground := Ground.data }, { on := 6, ground := Ground.chain }, { on := 0, ground := Ground.phase }, { on := 1, ground := Ground.phase }, { on := 2, ground := Ground.phase }, { on := 3, ground := Ground.phase }, { on := 4, ground := Ground.phase }, { on := 5, ground := Ground.phase }, { on := 6, ground := Ground.phase }], guard := none }) (v := ?_) rfl (by kernel_rfl) (by kernel_rfl) (by kernel_rfl) (fun _ _ _ h => h) (Or.inl ⟨by rfl, ?_⟩) (by assumption) ?_
    rotate_left
    · (intro w hSw; (try dsimp only at hSw); go_simp); all_goals (with_reducible rfl)
    try simp only [Act.put, List.setIfInBounds_toArray, List.set_cons_zero]
    refine wpAnyH_done (by kernel_rfl) ?_ _
    have hk1 : Keeps base w w1 := Keeps.trans (fun w0 h0 _ => h0.drew) (keeps_grown hbg hg)
    have hzG : ∀ r, r < 8 → (((.agg #[.string ⟨#[]⟩, .int .i64 0, .int .i64 0, .string ⟨#[]⟩, .string ⟨#[]⟩, .int .i64 0, .int .i64 0, .slice none 0 0] : Value)).cells[r]!).oneCell' = true := by decide
    obtain ⟨w2, hr2, hR2, hk2⟩ := run_clearB HT.out hzG hR hbg 0 (m * 8) (n - m) (cap - m) (by rw [List.length_map, HE.out.2.2]; exact Nat.le_refl _) (by have := HE.out.1; have := HE.out.2.1; omega)
    have hk3 := hk1.trans hk2
    clear hR hg hk1 hk2 hrun
    go_wp2_with fail
    all_goals (go_ret; first | exact ⟨⟨_, rfl, hR2⟩, hk3⟩ | (obtain rfl : cap = i + 1 := (by assumption); exact ⟨⟨_, rfl, hR2⟩, hk3⟩))
  exact AllReadyH.nil
set_option maxHeartbeats 1600000 in
theorem withoutG_w {w : World} {v : Value} {L : List GE} {i : Nat} (h : IsGE w v L) (hn : L.length ≤ 1000) (hi : i < L.length) :
    Calls prog 128 #[.agg #[v], .int .i64 (i : Int)] w fun e w' => (∃ u, e = .returned u ∧ OwnGL w' w.heap.size 110 u (L.eraseIdx i)) ∧ Below w.heap.size w w' := by
  have hb0 : Below w.heap.size w (w.alloc (.cells #[v] 31)) := (Below.refl _ _).alloc (Nat.le_refl _) _
  have hx := at_new w #[v] 31
  have cC := cloneG_w (h.below hb0) (Nat.le_trans hn (by decide))
  obtain ⟨W1, hW⟩ : ∃ W1, w.alloc (.cells #[v] 31) = W1 := ⟨_, rfl⟩
  rw [hW] at hb0 hx cC
  have x0 := (box1 hx).1
  have i3 : IntKind.i64.wrap ((i : Int) + 1) = (i : Int) + 1 := IntWalk.i64_in _ (by omega)
  have HN := Lib.hid (And.intro hn hi)
  clear h hx
  go_enter func128, ntmps128
  go_wp2_with fail
  try rw [hW]
  clear hW
  go_at_call 127
  refine cC.mono ?_
  rintro e w2 ⟨⟨u, rfl, hu⟩, hk2⟩
  have cD := deleteG_w (i := i) hu (Nat.le_trans HN.out.1 (by decide)) HN.out.2
  have HK := Lib.hid (And.intro hb0 hk2)
  clear cC hu hk2 x0 hb0
  go_wp2_with fail
  go_at_call 164
  refine cD.mono ?_
  rintro e w3 ⟨⟨u3, rfl, hu3⟩, hkp⟩
  have hb3 : Below w.heap.size w w3 := hkp w (HK.out.1.trans (HK.out.2.mono HK.out.1.size)) HK.out.1.size
  have hu4 := OwnRow.mono hu3 HK.out.1.size
  clear cD hkp hu3
  go_wp2_with fail
  go_ret
  exact ⟨⟨_, rfl, hu4⟩, hb3⟩
end Go.Proofs.Tryz
