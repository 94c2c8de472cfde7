/- Rows of structures as lists: appended, shortened, cleared; games with their lines; games sorted by the library. Plain: books with a game more, with a game less. -/
import Derived.Test.YtbfonnoebbjenaaGreatDoorAxTl
import Derived.Test.YtbfonnoebbjenaaGreatDoorAxTc
namespace Go.Proofs.Tryz
open Go Go.Am Go.RowKit Go.Op
set_option maxRecDepth 100000

/-- A handed row as a list of its elements' cells. -/
def HRow (w : World) (v : Value) (m : Nat) (l : List (List Value)) : Prop := Row w v m l.length fun i => l[i]?.getD []
theorem HRow.below {w W : World} {v : Value} {m : Nat} {l : List (List Value)} (h : HRow w v m l) (hb : Below w.heap.size w W) : HRow W v m l := Row.below h hb
theorem OwnRow.hrow {w : World} {base e m : Nat} {v : Value} {l : List (List Value)} (h : OwnRow w base e m v l) : HRow w v m l := h.row
theorem HRow.slice {w : World} {v : Value} {m : Nat} {l : List (List Value)} (h : HRow w v m l) : ∃ a c, v = .slice a l.length c ∧ l.length ≤ c := Row.slice h
theorem HRow.flat {w : World} {l : List (List Value)} {b off c m : Nat} (hm : ∀ x ∈ l, x.length = m) (h : HRow w (.slice (some ⟨b, off, none⟩) l.length c) m l) : ∀ j u, (flatR l)[j]? = some u → w.cell? ((⟨b, off, none⟩ : Addr).add j) = some u := fun j u hu => by
  have hlen := flatR_lenG hm
  have hj : j < l.length * m := by rw [← hlen]; exact (List.getElem?_eq_some_iff.1 hu).1
  have h0 : 0 < m := by
    rcases Nat.eq_zero_or_pos m with rfl | h
    · simp at hj
    · exact h
  have h1 : j / m < l.length := Nat.div_lt_of_lt_mul (by rwa [Nat.mul_comm])
  have h2 : j % m < m := Nat.mod_lt _ h0
  have hx : l[j / m]? = some l[j / m] := List.getElem?_eq_getElem h1
  have hl : j % m < l[j / m].length := by rw [hm _ (List.getElem_mem h1)]; exact h2
  have hu2 : l[j / m][j % m]? = some l[j / m][j % m] := List.getElem?_eq_getElem hl
  have h3 := flatR_get hm hx hu2
  have e : j / m * m + j % m = j := Nat.div_add_mod' j m
  rw [e, hu] at h3
  obtain ⟨a, c', e1, -, hr⟩ := h
  simp only [Value.slice.injEq, true_and] at e1
  obtain ⟨rfl, rfl⟩ := e1
  obtain ⟨b', off', e2, hr⟩ := hr (Nat.ne_of_gt (Nat.zero_lt_of_lt h1))
  simp only [Option.some.injEq, Addr.mk.injEq, and_true] at e2
  obtain ⟨rfl, rfl⟩ := e2
  have := hr (j / m) h1 (j % m) u (by show (l[j / m]?.getD [])[j % m]? = _; rw [hx, Option.getD_some, Option.some.inj h3]; exact hu2)
  rw [Nat.add_assoc, e] at this
  rw [add_adr]
  exact this
theorem flatR_app (l l2 : List (List Value)) : flatR (l ++ l2) = flatR l ++ flatR l2 := by simp [flatR]
theorem flat_one {l : List (List Value)} (h1 : ∀ x ∈ l, ∀ u ∈ x, u.oneCell' = true) : ∀ u ∈ flatR l, u.oneCell' = true := fun u hu => by
  obtain ⟨x, hx, hux⟩ := List.mem_flatten.1 hu
  exact h1 x hx u hux
theorem mem_app {l l2 : List (List Value)} {m : Nat} (h : ∀ x ∈ l, x.length = m) (h2 : ∀ x ∈ l2, x.length = m) : ∀ x ∈ l ++ l2, x.length = m := fun x hx => by
  rcases List.mem_append.1 hx with q | q
  · exact h x q
  · exact h2 x q
theorem hrow_some {w : World} {l : List (List Value)} {ad : Option Addr} {c m n : Nat} (h : HRow w (.slice ad n c) m l) (h0 : l ≠ []) : ∃ b off, ad = some ⟨b, off, none⟩ := by
  obtain ⟨a', c', e1, -, hr⟩ := h
  simp only [Value.slice.injEq] at e1
  obtain ⟨rfl, -, -⟩ := e1
  obtain ⟨b, off, e, -⟩ := hr (fun e => h0 (List.length_eq_zero_iff.1 e))
  exact ⟨b, off, e⟩
/-- A handed row appended onto a row of the call's own. -/
theorem run_appendH {t e : TypeId} {m : Nat} {iT : TypeInfo} {z : Value} {by' : Nat} (T : ElT t e m iT z by') (ty : TypeId) {w : World} {base : Nat} {l l2 : List (List Value)} {v v2 : Value} (h : OwnRow w base e m v l) (h2 : HRow w v2 m l2) (hm2 : ∀ x ∈ l2, x.length = m) (h1 : ∀ x ∈ l2, ∀ u ∈ x, u.oneCell' = true) (hn : l.length ≤ 100000) (hn2 : l2.length ≤ 100000) (hbase : base ≤ w.heap.size) :
    ∃ v' w', (Builtin.append_ #[t, t] ty #[v, v2]).run prog w = .ok v' w' ∧ OwnRow w' base e m v' (l ++ l2) ∧ w.grownBy w' v.ownBlock := by
  obtain ⟨ad, c, rfl, hc⟩ := h2.slice
  have hlen2 := flatR_lenG hm2
  have hb1 := T.hb1
  have key : ∀ a : Addr, (∀ j u, (flatR l2)[j]? = some u → w.cell? (a.add j) = some u) → ∃ v' w', (Builtin.append_ #[t, t] ty #[v, .slice (some a) l2.length c]).run prog w = .ok v' w' ∧ OwnRow w' base e m v' (l ++ l2) ∧ w.grownBy w' v.ownBlock := fun a ha => by
    obtain ⟨v', w', hr, ho, hg, -⟩ := run_append_own (P := prog) w base t ty e iT _ m by' T.ht T.hi T.hz T.hs T.hb T.hc T.h0 v _ _ h.1 a l2.length c (flatR l2) hlen2 ha (flat_one h1) (by unfold maxLen; omega) (by
      have : (l.length + l2.length) * by' ≤ 200000 * 1000 := Nat.mul_le_mul (by omega) hb1
      omega) hbase
    refine ⟨v', w', hr, ⟨?_, mem_app h.2 hm2⟩, hg⟩
    rw [flatR_app, List.length_append]
    exact ho
  by_cases h0 : l2 = []
  · subst h0
    cases ad with
    | some a => exact key a fun j u hu => by simp [flatR] at hu
    | none =>
      refine ⟨v, w, ?_, by rw [List.append_nil]; exact h, World.grownBy.refl _ _⟩
      rcases h.1.2 with ⟨rfl, e0⟩ | ⟨g, cap, cur, rfl, h1, h2, h3, h4, h5, h6⟩
      · simp [Builtin.append_, run_underlying T.ht, Go.sizeOf, typeInfo, T.hi, Builtin.lenOf, Builtin.firstCells]
      · simp [Builtin.append_, run_underlying T.ht, Go.sizeOf, typeInfo, T.hi, Builtin.lenOf, Builtin.firstCells, storeCells, h3]
  · obtain ⟨b, off, rfl⟩ := hrow_some h2 h0
    exact key _ (HRow.flat hm2 h2)
theorem wpList_appendH {t e : TypeId} {m : Nat} {iT : TypeInfo} {z : Value} {by' : Nat} (T : ElT t e m iT z by') {ops : Array Oper} {rest : List Oper} {o : Oper} {a : Act} {w : World} {Q : Exit → Act → World → Prop} (hgd : o.guard = none) (s x : Operand)
    (ho : o.op = .call { callee := .builtin .append, args := #[s, x], argTypes := #[t, t] }) {base : Nat} {l l2 : List (List Value)} {v v2 : Value} (hs : a.eval s = v) (hx : a.eval x = v2)
    (h : OwnRow w base e m v l) (h2 : HRow w v2 m l2) (hm2 : ∀ x ∈ l2, x.length = m) (h1 : ∀ x ∈ l2, ∀ u ∈ x, u.oneCell' = true) (hn : l.length ≤ 100000) (hn2 : l2.length ≤ 100000) (hbase : base ≤ w.heap.size)
    (hK : ∀ v' w', OwnRow w' base e m v' (l ++ l2) → w.grownBy w' v.ownBlock → wpList prog ops Q rest (a.put o.dst v') w') : wpList prog ops Q (o :: rest) a w := by
  obtain ⟨v', w', hr, hA, hg⟩ := run_appendH T o.type h h2 hm2 h1 hn hn2 hbase
  refine wpList_plain hgd fun K' hK' => ?_
  unfold Oper.wp execOp
  simp only [ho, resolve, invoke, builtin, Sem.run_bind, Sem.run_pure, Result.andThen_ok, List.map_toArray, List.map_cons, List.map_nil, hs, hx, hr]
  exact hK' _ _ (hK _ _ hA hg)
/-- The same where there is room: the row stays where it is. -/
theorem run_appendI {t e : TypeId} {m : Nat} {iT : TypeInfo} {z : Value} {by' : Nat} (T : ElT t e m iT z by') (ty : TypeId) {w : World} {base g cap b off c : Nat} {l l2 : List (List Value)} (h : OwnRow w base e m (.slice (some ⟨g, 0, none⟩) l.length cap) l) (h2 : HRow w (.slice (some ⟨b, off, none⟩) l2.length c) m l2) (hm2 : ∀ x ∈ l2, x.length = m) (h1 : ∀ x ∈ l2, ∀ u ∈ x, u.oneCell' = true) (hroom : l.length + l2.length ≤ cap) :
    ∃ w', (Builtin.append_ #[t, t] ty #[.slice (some ⟨g, 0, none⟩) l.length cap, .slice (some ⟨b, off, none⟩) l2.length c]).run prog w = .ok (.slice (some ⟨g, 0, none⟩) (l.length + l2.length) cap) w' ∧ OwnRow w' base e m (.slice (some ⟨g, 0, none⟩) (l.length + l2.length) cap) (l ++ l2) ∧ w.grownBy w' (some g) := by
  have hlen2 := flatR_lenG hm2
  have hms := T.hs
  rcases h.1.2 with ⟨e0, h0⟩ | ⟨g', cap', cur, e0, q1, q2, q3, q4, q5, q6⟩
  · cases e0
  · simp only [Value.slice.injEq, Option.some.injEq, Addr.mk.injEq, true_and, and_true] at e0
    obtain ⟨rfl, rfl⟩ := e0
    have hfit : l.length * iT.size + (flatR l2).length ≤ cur.size := by rw [hms, hlen2, q5, ← Nat.add_mul]; exact Nat.mul_le_mul_right _ hroom
    have hr := run_append_room (P := prog) w t ty e iT T.ht T.hi g l.length cap cur q2 ⟨b, off, none⟩ l2.length c (flatR l2) (by rw [hlen2, hms]) (HRow.flat hm2 h2) (flat_one h1) hroom hfit
    have hlen : (flatR (l ++ l2)).length = (l ++ l2).length * m := flatR_lenG (mem_app h.2 hm2)
    refine ⟨_, hr, ⟨⟨hlen, .inr ⟨g, cap, _, by rw [List.length_append], q1, setRow_heap w g cur _ e _ q2, by rw [List.length_append]; exact hroom, q4, ?_, ?_⟩⟩, mem_app h.2 hm2⟩, ⟨rfl, rfl, rfl, by simp, fun k _ hk => setRow_other w g k _ (fun e => hk (by rw [e]))⟩⟩
    · rw [hms] at hfit ⊢
      simp only [List.size_toArray, List.length_append, List.length_take, List.length_drop, Array.length_toList]
      omega
    · rw [hms, q6, ← flatR_app, ← hlen]
      exact List.take_left
theorem OwnRow.some_cap {w : World} {base e m g n cap : Nat} {l : List (List Value)} (h : OwnRow w base e m (.slice (some ⟨g, 0, none⟩) n cap) l) {j : Nat} (hj : j < cap * m) : (w.cell? ⟨g, j, none⟩).isSome = true ∧ w.frozen? ⟨g, j, none⟩ = false := by
  rcases h.1.2 with ⟨e0, h0⟩ | ⟨g', cap', cur, e0, h1, h2, h3, h4, h5, h6⟩
  · cases e0
  · simp only [Value.slice.injEq, Option.some.injEq, Addr.mk.injEq, and_true] at e0
    obtain ⟨rfl, rfl, rfl⟩ := e0
    have hs : j < cur.size := by rw [h5]; exact hj
    constructor
    · unfold World.cell?
      rw [h2]
      simp [hs]
    · unfold World.frozen?
      rw [h2]
      simp
theorem keeps_grown {base g : Nat} {w w' : World} (hg : base ≤ g) (h : w.grownBy w' (some g)) : Keeps base w w' := fun w0 h0 hb => h0.grown h h0.size (fun q hq => by cases hq; exact Nat.le_trans hb hg)
/-- 'clear' of what lies behind a row. -/
theorem run_clearB {t e : TypeId} {m : Nat} {iT : TypeInfo} {z : Value} {by' : Nat} (T : ElT t e m iT z by') (hz1 : ∀ r, r < m → (z.cells[r]!).oneCell' = true) {w : World} {base g cap n : Nat} {l : List (List Value)} (h : OwnRow w base e m (.slice (some ⟨g, 0, none⟩) n cap) l) (hbg : base ≤ g) (ty : TypeId) (o k c : Nat) (ho : l.length * m ≤ o) (hk : o + k * m ≤ cap * m) :
    ∃ w', (Builtin.clear_ #[t] ty #[.slice (some ⟨g, o, none⟩) k c]).run prog w = .ok (.tuple #[]) w' ∧ OwnRow w' base e m (.slice (some ⟨g, 0, none⟩) n cap) l ∧ Keeps base w w' := by
  by_cases hk0 : k = 0
  · subst hk0
    refine ⟨w, ?_, h, Keeps.refl _ _⟩
    simp only [Builtin.clear_]
    simp [run_underlying T.ht]
  obtain ⟨k', rfl⟩ : ∃ k', k = k' + 1 := ⟨k - 1, by omega⟩
  obtain ⟨zs, hzs⟩ : ∃ zs, (Builtin.zeroCells z.cells (k' + 1)).toList = zs := ⟨_, rfl⟩
  have hzl : zs.length = (k' + 1) * m := by rw [← hzs]; simp [Builtin.zeroCells, T.hc]
  have h1 : ∀ u ∈ zs, u.oneCell' = true := by
    intro u hu
    rw [← hzs, Array.mem_toList_iff] at hu
    unfold Builtin.zeroCells at hu
    obtain ⟨q, -, rfl⟩ := Array.mem_map.1 hu
    have := T.hc
    exact hz1 _ (by rw [this]; exact Nat.mod_lt _ T.h0)
  have hat : ∀ j, j < zs.length → (w.cell? ⟨g, o + 0 + j, none⟩).isSome = true ∧ w.frozen? ⟨g, o + 0 + j, none⟩ = false := fun j hj => OwnRow.some_cap h (by omega)
  have hst := run_storeCells_cells (P := prog) g o zs 0 w (fun j hj => (hat j hj).1) (fun j hj => (hat j hj).2) h1
  rw [Nat.add_zero, setCells_setN] at hst
  refine ⟨setN w g o zs, ?_, OwnRow.beyondN (vs := zs) (j := o) h ho, keeps_setN hbg⟩
  simp only [Builtin.clear_]
  have hzv : (zeroValue e).run prog w = .ok z w := by simp [zeroValue, typeInfo, T.hi, T.hz]
  simp [run_underlying T.ht, hzs, hst, hzv]

/-! ### games with their lines -/
structure GE where
  g : GmD
  ad : Option Addr
  c : Nat
def GE.lv (x : GE) : Value := .slice x.ad x.g.k x.c
def GE.cells (x : GE) : List Value := x.g.cells x.lv
theorem GE.len (x : GE) : x.cells.length = 8 := rfl
theorem GE.one (x : GE) : ∀ u ∈ x.cells, u.oneCell' = true := GmD.one _ _ _ _
theorem ge_len (L : List GE) : ∀ y ∈ L.map GE.cells, y.length = 8 := lenG GE.len L
theorem ge_one (L : List GE) : ∀ x ∈ L.map GE.cells, ∀ u ∈ x, u.oneCell' = true := fun x hx => by
  obtain ⟨y, -, rfl⟩ := List.mem_map.1 hx
  exact y.one
def LinesIn (w : World) (L : List GE) : Prop := ∀ x ∈ L, IsLines w x.lv x.g.l x.g.k
theorem LinesIn.below {w W : World} {L : List GE} (h : LinesIn w L) (hb : Below w.heap.size w W) : LinesIn W L := fun x hx => (h x hx).below hb
def gmL (L : List GE) : List GmD := L.map GE.g
theorem gmL_len (L : List GE) : (gmL L).length = L.length := List.length_map _
/-- A handed list of games. -/
def IsGE (w : World) (v : Value) (L : List GE) : Prop := HRow w v 8 (L.map GE.cells) ∧ LinesIn w L
theorem IsGE.below {w W : World} {v : Value} {L : List GE} (h : IsGE w v L) (hb : Below w.heap.size w W) : IsGE W v L := ⟨h.1.below hb, h.2.below hb⟩
theorem IsGE.slice {w : World} {v : Value} {L : List GE} (h : IsGE w v L) : ∃ a c, v = .slice a L.length c ∧ L.length ≤ c := by
  have := h.1.slice
  rw [List.length_map] at this
  exact this
theorem map_get {L : List GE} {i : Nat} {x : GE} (h : L[i]? = some x) : ((L.map GE.cells)[i]?).getD [] = x.cells := by rw [List.getElem?_map, h]; rfl
theorem gmL_at {L : List GE} {i : Nat} {x : GE} (h : L[i]? = some x) : atG (gmL L) i = x.g := by
  unfold atG gmL
  rw [List.getElem?_map, h]; rfl
theorem IsGE.is {w : World} {v : Value} {L : List GE} (h : IsGE w v L) : IsGames w v (atG (gmL L)) L.length := by
  refine ⟨fun i => (L[i]?.map GE.lv).getD (.bool false), ?_, fun i hi => ?_⟩
  · have h1 := h.1
    unfold HRow at h1
    rw [List.length_map] at h1
    refine h1.congr fun i hi => ?_
    have hx : L[i]? = some L[i] := List.getElem?_eq_getElem hi
    rw [map_get hx, gmL_at hx]
    show _ = L[i].g.cells ((L[i]?.map GE.lv).getD (.bool false))
    rw [hx]
    rfl
  · have hx : L[i]? = some L[i] := List.getElem?_eq_getElem hi
    rw [gmL_at hx]
    simp only [hx, Option.map_some, Option.getD_some]
    exact h.2 _ (List.getElem_mem hi)
def laV (v : Value) : Option Addr := match v with | .slice a _ _ => a | _ => none
def lcV (v : Value) : Nat := match v with | .slice _ _ c => c | _ => 0
def mkGE (g : Nat → GmD) (lv : Nat → Value) (n : Nat) : List GE := (List.range n).map fun i => ⟨g i, laV (lv i), lcV (lv i)⟩
theorem mkGE_len (g : Nat → GmD) (lv : Nat → Value) (n : Nat) : (mkGE g lv n).length = n := by simp [mkGE]
theorem mkGE_gm (g : Nat → GmD) (lv : Nat → Value) (n : Nat) : gmL (mkGE g lv n) = listG g n := by unfold gmL mkGE listG; rw [List.map_map]; rfl
theorem mkGE_get {g : Nat → GmD} {lv : Nat → Value} {n i : Nat} (hi : i < n) : (mkGE g lv n)[i]? = some ⟨g i, laV (lv i), lcV (lv i)⟩ := by simp [mkGE, hi]
theorem lv_eq {v : Value} {k : Nat} (h : ∃ a c, v = .slice a k c) : Value.slice (laV v) k (lcV v) = v := by
  obtain ⟨a, c, rfl⟩ := h; rfl
theorem IsGames.ge {w : World} {v : Value} {g : Nat → GmD} {n : Nat} (h : IsGames w v g n) : ∃ L, gmL L = listG g n ∧ IsGE w v L := by
  obtain ⟨lv, h1, h2⟩ := h
  have hs : ∀ i, i < n → Value.slice (laV (lv i)) (g i).k (lcV (lv i)) = lv i := fun i hi => lv_eq (by
    obtain ⟨a, c, e, -⟩ := Row.slice (h2 i hi)
    exact ⟨a, c, e⟩)
  refine ⟨mkGE g lv n, mkGE_gm _ _ _, ?_, fun x hx => ?_⟩
  · unfold HRow
    rw [List.length_map, mkGE_len]
    refine h1.congr fun i hi => ?_
    rw [map_get (mkGE_get hi)]
    unfold GE.cells GE.lv
    rw [hs i hi]
  · obtain ⟨i, hi, rfl⟩ := List.mem_map.1 hx
    have hi := List.mem_range.1 hi
    unfold GE.lv
    rw [hs i hi]
    exact h2 i hi
/-- Games in a row of the call's own, their lines anywhere. -/
abbrev OwnGL (w : World) (base e : Nat) (v : Value) (L : List GE) : Prop := OwnRow w base e 8 v (L.map GE.cells)
theorem OwnGL.ge {w : World} {base e : Nat} {v : Value} {L : List GE} (h : OwnGL w base e v L) (hl : LinesIn w L) : IsGE w v L := ⟨h.hrow, hl⟩
/-- Games in a row of the call's own, their lines too. -/
def OwnGE (w : World) (base e eL : Nat) (v : Value) (L : List GE) : Prop := OwnGL w base e v L ∧ ∀ x ∈ L, OwnLines w base eL x.lv x.g.l x.g.k
theorem OwnGE.lines {w : World} {base e eL : Nat} {v : Value} {L : List GE} (h : OwnGE w base e eL v L) : LinesIn w L := fun x hx => (h.2 x hx).is
theorem OwnGE.ge {w : World} {base e eL : Nat} {v : Value} {L : List GE} (h : OwnGE w base e eL v L) : IsGE w v L := ⟨h.1.hrow, h.lines⟩
theorem OwnGE.below {w W : World} {base e eL : Nat} {v : Value} {L : List GE} (h : OwnGE w base e eL v L) (hb : Below w.heap.size w W) : OwnGE W base e eL v L := ⟨OwnRow.below h.1 hb, fun x hx => (h.2 x hx).below hb⟩
theorem OwnGames.ge {w : World} {base e eL : Nat} {v : Value} {g : Nat → GmD} {n : Nat} (h : OwnGames w base e eL v g n) : ∃ L, gmL L = listG g n ∧ OwnGE w base e eL v L := by
  obtain ⟨lv, h1, h2⟩ := h
  have hs : ∀ i, i < n → Value.slice (laV (lv i)) (g i).k (lcV (lv i)) = lv i := fun i hi => lv_eq (h2 i hi).slice
  refine ⟨mkGE g lv n, mkGE_gm _ _ _, ?_, fun x hx => ?_⟩
  · have e : (mkGE g lv n).map GE.cells = gamesL g lv n := by
      unfold mkGE gamesL
      rw [List.map_map]
      refine List.map_congr_left fun i hi => ?_
      show (g i).cells (Value.slice (laV (lv i)) (g i).k (lcV (lv i))) = _
      rw [hs i (List.mem_range.1 hi)]
    unfold OwnGL
    rw [e]
    exact h1
  · obtain ⟨i, hi, rfl⟩ := List.mem_map.1 hx
    have hi := List.mem_range.1 hi
    unfold GE.lv
    rw [hs i hi]
    exact h2 i hi

/-! ### the sort -/
instance : Inhabited GE := ⟨⟨gm0, none, 0⟩⟩
def cfG (x y : GE) : Int := cmpG x.g y.g
theorem cfG_lt (x y : GE) : ltOf cfG x y = befB x.g y.g := by
  have h := cmpG_ge x.g y.g
  unfold ltOf cfG
  cases hb : befB x.g y.g with
  | true => rw [hb] at h; simp at h ⊢; omega
  | false => rw [hb] at h; simp at h ⊢; omega
theorem swoG : Go.Sort.SWO (ltOf cfG) := by
  refine ⟨fun x => ?_, fun x y z h1 h2 => ?_, fun x y z h1 h2 => ?_⟩
  · rw [cfG_lt]
    cases h : befB x.g x.g with
    | false => rfl
    | true => exact (ltG_irrefl x.g h).elim
  · rw [cfG_lt] at *
    exact ltG_trans (a := x.g) (b := y.g) (c := z.g) h1 h2
  · rw [cfG_lt] at *
    have h3 := ltG_ntrans (a := x.g) (b := y.g) (c := z.g) (by unfold ltG; rw [h1]; decide) (by unfold ltG; rw [h2]; decide)
    unfold ltG at h3
    simpa using h3
set_option maxHeartbeats 3200000 in
theorem compareG_w (a b : GmD) (ad ad' : Option Addr) (k c k' c' : Nat) (w : World) :
    Calls prog 121 #[a.val (.slice ad k c), b.val (.slice ad' k' c')] w fun e w' => e = .returned (.int .i64 (cmpG a b)) ∧ Grn w w' := by
  have hB : Grn w ((w.alloc (.cells (a.arr (.slice ad k c)) 110)).alloc (.cells (b.arr (.slice ad' k' c')) 110)) := ((Grn.refl w).alloc _).alloc _
  have hx := (at_new w (a.arr (.slice ad k c)) 110).alloc (.cells (b.arr (.slice ad' k' c')) 110)
  have hz : At ((w.alloc (.cells (a.arr (.slice ad k c)) 110)).alloc (.cells (b.arr (.slice ad' k' c')) 110)) (w.heap.size + 1) (b.arr (.slice ad' k' c')) 110 := by
    have := at_new (w.alloc (.cells (a.arr (.slice ad k c)) 110)) (b.arr (.slice ad' k' c')) 110
    simpa using this
  have cI := cmpI_w a.day b.day
  have cS := cmpS_w a.nm b.nm
  unfold cmpG
  obtain ⟨x, hxx⟩ : ∃ x, cmpI a.day b.day = x := ⟨_, rfl⟩
  obtain ⟨y, hyy⟩ : ∃ y, cmpS a.nm b.nm = y := ⟨_, rfl⟩
  rw [hxx] at cI ⊢
  rw [hyy] at cS ⊢
  clear hxx hyy
  obtain ⟨v, hv⟩ : ∃ v, fstE [x, y] = v := ⟨_, rfl⟩
  have cO : ∀ (b : Nat) (W : World), W.cell? ⟨b, 0, none⟩ = some (.int .i64 x) → W.cell? ⟨b, 1, none⟩ = some (.int .i64 y) → Calls prog 104 #[.slice (some ⟨b, 0, none⟩) 2 2] W fun e w' => e = .returned (.int .i64 v) ∧ w' = W := fun b W h0 h1 => by rw [← hv]; exact or2_w x y b 2 W h0 h1
  rw [hv]
  clear hv
  unfold GmD.val
  unfold GmD.arr at hB hx hz
  obtain ⟨nm1, ver1, d1, t01, t11, s01, s11, ls1, k1⟩ := a
  obtain ⟨nm2, ver2, d2, t02, t12, s02, s12, ls2, k2⟩ := b
  dsimp only at *
  obtain ⟨⟨x0, x1, x2, x3, x4, x5, x6, x7⟩, -⟩ := box8 hx
  obtain ⟨⟨z0, z1, z2, z3, z4, z5, z6, z7⟩, -⟩ := box8 hz
  go_enter func121, ntmps121
  go_wp2_with fail
  generalize hW1 : (w.alloc (.cells #[.string (bA nm1), .int .i64 ver1, .int .i64 d1, .string (bA t01), .string (bA t11), .int .i64 s01, .int .i64 s11, .slice ad k c] 110)).alloc (.cells #[.string (bA nm2), .int .i64 ver2, .int .i64 d2, .string (bA t02), .string (bA t12), .int .i64 s02, .int .i64 s12, .slice ad' k' c'] 110) = W1 at hB hx hz x0 x2 z0 z2 ⊢
  clear hW1 hx hz x1 x3 x4 x5 x6 x7 z1 z3 z4 z5 z6 z7
  have hdr : Grn w W1.drew := hB.drew
  have hdz : ∀ o, Grn w (W1.alloc o).drew := fun o => (hB.alloc o).drew
  have hdy : ∀ o, Grn w (W1.drew.alloc o) := fun o => hB.drew.alloc o
  go_region_held3 (fun W => (W.cell? ⟨w.heap.size, 0, none⟩ = some (.string (bA nm1)) ∧ W.cell? ⟨w.heap.size, 2, none⟩ = some (.int .i64 d1) ∧ W.cell? ⟨w.heap.size + 1, 0, none⟩ = some (.string (bA nm2)) ∧ W.cell? ⟨w.heap.size + 1, 2, none⟩ = some (.int .i64 d2)) ∧ Grn w W) (go_keep) (first | (go_at_call 101; refine (cI _).mono ?_; rintro e w' ⟨rfl, rfl⟩) | (go_at_call 105; refine (cS _).mono ?_; rintro e w' ⟨rfl, rfl⟩) | (go_at_call 104; refine (cO _ _ (by simp) (by simp)).mono ?_; rintro e w' ⟨rfl, rfl⟩))
  all_goals (go_wp2_with fail; go_ret; exact ⟨rfl, by first | exact hdz _ | exact hdy _ | assumption⟩)
theorem put_grown {α : Type} [Inhabited α] {enc : α → List Value} {m : Nat} {W : World} {g n : Nat} {d : Array α} {os : Array Obj} : W.grownBy (Go.Sort.grow (Go.Sort.putRowK enc m (Go.Sort.ahead W n) g 0 d) os) (some g) := by
  refine ⟨rfl, rfl, rfl, ?_, fun i hi hne => put_otherG hi (fun e => hne (by rw [e]))⟩
  rw [Go.Sort.size_grow]
  show W.heap.size ≤ (Go.Sort.putRow id (Go.Sort.ahead W n) g 0 _).heap.size + _
  rw [Go.Sort.size_putRow]
  exact Nat.le_add_right _ _
theorem sortGL_w {W : World} {base : Nat} {v : Value} {L : List GE} (h : OwnGE W base 110 132 v L) (hn : L.length ≤ 10000) (hd : NamesG (gmL L)) :
    Calls prog 163 #[v, .func (.func 121) #[] #[]] W fun e w' => e = .returned (.tuple #[]) ∧ (∃ L' : List GE, L'.Perm L ∧ SortG (gmL L') ∧ OwnGE w' base 110 132 v L') ∧ Keeps base W w' := by
  obtain ⟨h, hlin⟩ := h
  have hh := h
  rcases hh.1.2 with ⟨rfl, h0⟩ | ⟨g, cap, cur, rfl, h1, h2, h3, h4, h5, h6⟩
  · have hl : L = [] := by simpa using h0
    subst hl
    have hcon := AnyF.slices_SortFunc_none sortGSL none 0 (.func (.func 121) #[] #[]) W
    change Calls prog 163 _ _ _ at hcon
    refine hcon.mono ?_
    rintro e w' ⟨rfl, rfl⟩
    exact ⟨rfl, ⟨[], List.Perm.refl _, List.Pairwise.nil, h, fun x hx => absurd hx List.not_mem_nil⟩, Keeps.refl _ _⟩
  · rw [List.length_map] at h h3 ⊢
    have hown := h.1
    have hlt : g < W.heap.size := (Array.getElem?_eq_some_iff.1 h2).1
    have eg : ∀ args w, (callFunc 121 args).run prog w = .ok (.enter 121 args) w := enters_of func121 (by kernel_rfl) rfl
    have hcon := AnyQ.slices_SortFunc sortGSL 8 isAgg110 sizeOf110 GE.cells GE.len (fun x : GE => x.one) cfG swoG 121 #[] g 0 cap L.toArray W eg
      (fun _ _ _ _ x y => compareG_w x.g y.g x.ad y.ad x.g.k x.c y.g.k y.c _)
      (holdsG GE.len h) hlt (by simp; omega)
    change Calls prog 163 _ _ _ at hcon
    rw [List.size_toArray] at hcon
    refine hcon.mono ?_
    rintro e w' ⟨rfl, d', n, os, hp, hs, rfl⟩
    obtain ⟨q1, q2, q3⟩ := sorted_listG hp hs
    have hrow2 := putG GE.len (n := n) (os := os) h q3
    refine ⟨rfl, ⟨d'.toList, q1, ?_, hrow2, fun x hx => ?_⟩, keepsG h1⟩
    · have hd2 : NamesG (gmL d'.toList) := (List.Perm.pairwise_iff (fun {a b} h => Ne.symm h) (q1.map GE.g)).2 hd
      unfold NamesG gmL at hd2
      unfold SortG gmL
      rw [List.pairwise_map] at hd2 ⊢
      refine (List.Pairwise.and hd2 q2).imp ?_
      rintro x y ⟨hne, hno⟩
      rw [cfG_lt] at hno
      exact Classical.byContradiction fun hx => hne (ltG_conn hx (by unfold ltG; rw [hno]; decide))
    · exact OwnRow.grown (hlin x (q1.mem_iff.1 hx)) hown (by decide) put_grown
end Go.Proofs.Tryz

namespace Go.Proofs.Tryz
open Go Go.Am Go.RowKit Go.Op
set_option maxRecDepth 100000

theorem fndK_spec (g : Nat → GmD) (nm : List UInt8) : ∀ (k i : Nat), (fndK g nm i k = -1 ∧ ∀ j, i ≤ j → j < i + k → (g j).nm ≠ nm) ∨ ∃ j, i ≤ j ∧ j < i + k ∧ fndK g nm i k = (j : Int) ∧ (g j).nm = nm
  | 0, i => .inl ⟨rfl, fun j h1 h2 => by omega⟩
  | k + 1, i => by
    unfold fndK
    by_cases h : (g i).nm = nm
    · exact .inr ⟨i, Nat.le_refl _, by omega, by rw [if_pos (by simpa using h)], h⟩
    · rw [if_neg (by simpa using h)]
      rcases fndK_spec g nm k (i + 1) with ⟨e, ha⟩ | ⟨j, h1, h2, e, hj⟩
      · refine .inl ⟨e, fun j h1 h2 => ?_⟩
        rcases Nat.lt_or_eq_of_le h1 with q | rfl
        · exact ha j q (by omega)
        · exact h
      · exact .inr ⟨j, by omega, by omega, e, hj⟩
theorem fnd_cases (g : Nat → GmD) (nm : List UInt8) (n : Nat) : (fndK g nm 0 n = -1 ∧ ∀ y ∈ listG g n, y.nm ≠ nm) ∨ ∃ j, j < n ∧ fndK g nm 0 n = (j : Int) ∧ (g j).nm = nm := by
  rcases fndK_spec g nm n 0 with ⟨e, ha⟩ | ⟨j, -, h2, e, hj⟩
  · refine .inl ⟨e, fun y hy => ?_⟩
    obtain ⟨i, hi, rfl⟩ := List.mem_map.1 hy
    exact ha i (Nat.zero_le _) (by have := List.mem_range.1 hi; omega)
  · exact .inr ⟨j, by omega, e, hj⟩
theorem names_put {L : List GmD} {x : GmD} (h : NamesG L) (hx : ∀ y ∈ L, y.nm ≠ x.nm) : NamesG (L ++ [x]) := by
  unfold NamesG
  refine List.pairwise_append.2 ⟨h, List.pairwise_singleton _ _, fun a ha b hb => ?_⟩
  rw [List.mem_singleton.1 hb]
  exact hx a ha
theorem names_erase {L : List GmD} (h : NamesG L) {k : Nat} {y : GmD} (hy : L[k]? = some y) : ∀ z ∈ L.eraseIdx k, z.nm ≠ y.nm := by
  intro z hz
  obtain ⟨hk, rfl⟩ := List.getElem?_eq_some_iff.1 hy
  rw [List.mem_eraseIdx_iff_getElem?] at hz
  obtain ⟨i, hik, hi⟩ := hz
  obtain ⟨hi2, rfl⟩ := List.getElem?_eq_some_iff.1 hi
  unfold NamesG at h
  rw [List.pairwise_iff_getElem] at h
  rcases Nat.lt_or_gt_of_ne hik with q | q
  · exact h i k hi2 hk q
  · exact (h k i hk hi2 q).symm
theorem names_sub {L M : List GmD} (h : NamesG L) (hs : M.Sublist L) : NamesG M := List.Pairwise.sublist hs h
theorem sort_sub {L M : List GmD} (h : SortG L) (hs : M.Sublist L) : SortG M := List.Pairwise.sublist hs h
theorem names_rep {L : List GmD} (h : NamesG L) {k : Nat} {y x : GmD} (hy : L[k]? = some y) (hx : y.nm = x.nm) : NamesG (L.eraseIdx k ++ [x]) :=
  names_put (names_sub h (List.eraseIdx_sublist _ _)) fun z hz => by rw [← hx]; exact names_erase h hy z hz
theorem gmL_erase (L : List GE) (k : Nat) : gmL (L.eraseIdx k) = (gmL L).eraseIdx k := by unfold gmL; rw [List.eraseIdx_eq_take_drop_succ, List.eraseIdx_eq_take_drop_succ, List.map_append, List.map_take, List.map_drop]
theorem lines_sub {w : World} {L M : List GE} (h : LinesIn w L) (hs : ∀ x ∈ M, x ∈ L) : LinesIn w M := fun x hx => h x (hs x hx)
end Go.Proofs.Tryz
