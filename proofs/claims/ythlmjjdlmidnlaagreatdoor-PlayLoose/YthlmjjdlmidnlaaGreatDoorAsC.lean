/- slices.Compact at this program, by the shelf's contract; the closures of canonical. Rows of moves: copied, appended onto an empty row; the reference's sort: by the kit's walk. canonical of the program, by the kit's walk. -/
import Derived.Test.YthlmjjdlmidnlaaGreatDoorArWh
import Derived.Test.YthlmjjdlmidnlaaGreatDoorArVf
import Derived.Shelf.SlIterI.Nil
import Derived.Shelf.SortM.Plain
import Derived.Shelf.SortM.SortNone
import Derived.Ground.GgzProg
import Derived.Ground.SlgmProg
import Derived.Test.YthlmjjdlmidnlaaGreatDoorProg
import Derived.Test.YthlmjjdlmidnlaaGreatDoorArVc
import Derived.Lib.Hide
import Derived.Shelf.Slices.CompactI
import Derived.Lib.OwnBridge
import Derived.Laws.CopyOwn
import Derived.Test.YthlmjjdlmidnlaaGreatDoorArO
namespace Go.Proofs
open Go.Shelf
def Tryz.compactL_ren : Go.Shelf.Ren := ⟨fun | 20 => 141 | n => n, fun | 22 => 25 | 3 => 3 | 4 => 4 | 0 => 0 | n => n, fun | n => n⟩
theorem Tryz.compactL : Go.Proofs.Lays2.n20 Tryz.prog Tryz.compactL_ren := {
  mixed := by kernel_rfl
  f20 := Tryz.func141.trans (congrArg some (by kernel_rfl))
  t0 := Tryz.underlying0
  a0 := Tryz.isAgg0
  z0 := Tryz.sizeOf0
  v0 := Tryz.zeroValue0
  t3 := Tryz.underlying3
  a3 := Tryz.isAgg3
  z3 := Tryz.sizeOf3
  v3 := Tryz.zeroValue3
  t4 := Tryz.underlying4
  a4 := Tryz.isAgg4
  z4 := Tryz.sizeOf4
  v4 := Tryz.zeroValue4
  t22 := Tryz.underlying25
  a22 := Tryz.isAgg25
  z22 := Tryz.sizeOf25
  v22 := Tryz.zeroValue25
  i3 := by kernel_rfl }
end Go.Proofs
namespace Go.Proofs.Tryz
open Go Go.Am Go.RowKit Go.Dr
set_option maxRecDepth 100000

theorem compact_nil (a : Option Addr) (c : Nat) (w : World) : Calls prog 141 #[.slice a 0 c] w fun e w' => e = .returned (.slice a 0 c) ∧ w' = w := Any.slices_Compact_int_empty compactL a c w
theorem compact_w {w : World} {base n : Nat} {v : Value} {zs : List Int} (h : w.ownsRow base 3 1 v n (vsOf zs)) (hn : n ≤ 1000000) :
    Calls prog 141 #[v] w fun e w' => ∃ v', e = .returned v' ∧ w'.ownsRow base 3 1 v' (Lib.compact zs).length (vsOf (Lib.compact zs)) ∧ Below base w w' := by
  by_cases hv : v = .slice none 0 0
  · subst hv
    refine (compact_nil _ _ _).mono ?_
    rintro e w' ⟨rfl, rfl⟩
    have hz : zs = [] := by
      rcases h.2 with ⟨_, rfl⟩ | ⟨g, cap, cur, e, _⟩
      · have := h.1; simp [vsOf] at this; exact this
      · cases e
    subst hz
    exact ⟨_, rfl, World.ownsRow_nil _ _ _ _, Below.refl _ _⟩
  · obtain ⟨g, cap, rfl, hb, hg, hnc, hm, hl, hH⟩ := Lib.holds_of_ownsRow (enc := Value.int .i64) h hv
    subst hl
    have cC : Calls prog 141 #[.slice (some ⟨g, 0, none⟩) zs.length cap] w _ := Any.slices_Compact_int compactL g 0 cap zs w hH (by omega) (by omega)
    refine cC.mono ?_
    rintro e w' ⟨rfl, q, rfl⟩
    have hle := length_compact_le zs
    have := Lib.ownsRow_putRow (enc := Value.int .i64) (q := q) (k := (Lib.compact zs).length) (ys := Lib.compact zs ++ List.replicate (zs.length - (Lib.compact zs).length) 0) h (by simp; omega) hle
    rw [List.take_left] at this
    exact ⟨_, rfl, this, Lib.below_putRow (Below.refl _ _) hb⟩

theorem big138 (f1 f2 : Int) (xb : Bool) (s : ByteArray) (a : Option Addr) (k c : Nat) (W : World) : Calls prog 138 #[.agg #[.int .i64 f1, .int .i64 f2, .bool xb, .string s, .slice a k c]] W fun e w' => e = .returned (.bool (decide (36 < (k : Int)))) ∧ Below W.heap.size W w' := by
  go_enter func138, ntmps138
  go_wp2
  go_ret
  exact ⟨rfl, (Below.refl _ _).alloc (Nat.le_refl _) _⟩
theorem out144 (f1 f2 : Int) (xb : Bool) (s : ByteArray) (a : Option Addr) (k c : Nat) (W : World) : Calls prog 144 #[.agg #[.int .i64 f1, .int .i64 f2, .bool xb, .string s, .slice a k c]] W fun e w' => e = .returned (.bool xb) ∧ Below W.heap.size W w' := by
  go_enter func144, ntmps144
  go_wp2
  go_ret
  exact ⟨rfl, (Below.refl _ _).alloc (Nat.le_refl _) _⟩
theorem nstay142 (m : M5) (w : World) (hL : Laid w) : Calls prog 142 #[.agg #[.int .i64 m.f1, .int .i64 m.f2, .bool m.xb, .string m.s, .slice m.a m.k m.c]] w fun e w' => e = .returned (.bool (!stayB m)) ∧ Below w.heap.size w w' := by
  have hB : Below w.heap.size w (w.alloc (.cells #[.int .i64 m.f1, .int .i64 m.f2, .bool m.xb, .string m.s, .slice m.a m.k m.c] 27)) := (Below.refl _ _).alloc (Nat.le_refl _) _
  have cS := stays_w m _ (hL.below hB)
  obtain ⟨r, hr⟩ : ∃ r, stayB m = r := ⟨_, rfl⟩
  rw [hr] at cS ⊢
  clear hr
  go_enter func142, ntmps142
  go_wp2_with fail
  go_at_call 143
  refine cS.mono ?_
  rintro e w2 ⟨rfl, hk2⟩
  go_wp2
  go_ret
  exact ⟨rfl, hB.trans (hk2.mono (by simp))⟩

/-! ### the row of a play's moves, asked -/
section
variable {w : World} {ad : Option Addr} {n c : Nat} {d : Nat → MvD}
theorem large_w (hm : IsMoves w (.slice ad n c) d n) (hn : n ≤ 1000000) : Calls prog 137 #[.slice ad n c, .func (.func 138) #[] #[]] w fun e w' => e = .returned (.bool (anyK (fun i => decide (36 < (d i).bn)) n)) ∧ Below w.heap.size w w' := by
  obtain ⟨a1, c1, e1, hnc, hM0⟩ := hm
  simp only [Value.slice.injEq, true_and] at e1
  obtain ⟨rfl, rfl⟩ := e1
  by_cases h0 : n = 0
  · subst h0; exact any138_0 _ _ _
  obtain ⟨b, off, rfl, hM⟩ := hM0 h0
  refine any138_w (cs := csOf w b off) (p := fun i => decide (36 < (d i).bn)) hn (fun i hi => let ⟨f1, f2, xb, s, a, k, c, e1, e2, _⟩ := cs_of (hM i hi); ⟨f1, f2, xb, s, a, k, c, e1, e2⟩) (fun i hi W _ => ?_)
  obtain ⟨f1, f2, xb, s, a, k, c, e1, -, -, -, -, -, hi⟩ := cs_of (hM i hi)
  rw [e1]
  obtain ⟨a', m', c', e, -, hm', -⟩ := hi
  simp only [Value.slice.injEq] at e
  obtain ⟨rfl, rfl, rfl⟩ := e
  have := big138 f1 f2 xb s a k c W
  rw [hm'] at this
  exact this
theorem anyRun_w (hm : IsMoves w (.slice ad n c) d n) (hn : n ≤ 1000000) : Calls prog 137 #[.slice ad n c, .func (.func 100) #[] #[]] w fun e w' => e = .returned (.bool (anyK (fun i => runQ (d i)) n)) ∧ Below w.heap.size w w' := by
  obtain ⟨a1, c1, e1, hnc, hM0⟩ := hm
  simp only [Value.slice.injEq, true_and] at e1
  obtain ⟨rfl, rfl⟩ := e1
  by_cases h0 : n = 0
  · subst h0; exact any100_0 _ _ _
  obtain ⟨b, off, rfl, hM⟩ := hM0 h0
  refine any100_w (cs := csOf w b off) (p := fun i => runQ (d i)) hn (fun i hi => let ⟨f1, f2, xb, s, a, k, c, e1, e2, _⟩ := cs_of (hM i hi); ⟨f1, f2, xb, s, a, k, c, e1, e2⟩) (fun i hi W _ => ?_)
  obtain ⟨f1, f2, xb, s, a, k, c, e1, -, -, et, ex, -⟩ := cs_of (hM i hi)
  rw [e1]
  have := run100 f1 f2 xb s a k c W
  have eq : runQ (d i) = (!xb && decide (f2 = 4)) := by unfold runQ; rw [← et, ← ex]; simp
  rw [eq]; exact this
theorem anyOut_w (hm : IsMoves w (.slice ad n c) d n) (hn : n ≤ 1000000) : Calls prog 137 #[.slice ad n c, .func (.func 144) #[] #[]] w fun e w' => e = .returned (.bool (anyK (fun i => outQ (d i)) n)) ∧ Below w.heap.size w w' := by
  obtain ⟨a1, c1, e1, hnc, hM0⟩ := hm
  simp only [Value.slice.injEq, true_and] at e1
  obtain ⟨rfl, rfl⟩ := e1
  by_cases h0 : n = 0
  · subst h0; exact any144_0 _ _ _
  obtain ⟨b, off, rfl, hM⟩ := hM0 h0
  refine any144_w (cs := csOf w b off) (p := fun i => outQ (d i)) hn (fun i hi => let ⟨f1, f2, xb, s, a, k, c, e1, e2, _⟩ := cs_of (hM i hi); ⟨f1, f2, xb, s, a, k, c, e1, e2⟩) (fun i hi W _ => ?_)
  obtain ⟨f1, f2, xb, s, a, k, c, e1, -, -, -, ex, -⟩ := cs_of (hM i hi)
  rw [e1]
  have := out144 f1 f2 xb s a k c W
  have eq : outQ (d i) = xb := by unfold outQ; exact ex
  rw [eq]; exact this
end

/-- The moves of a row as cells. -/
theorem m5_of {w : World} {b off n : Nat} {d : Nat → MvD} (hM : ∀ i, i < n → IsMv w (cellsAt w b (off + 5 * i) 5) (d i)) : ∃ f : Nat → M5, ∀ i, i < n → cellsAt w b (off + 5 * i) 5 = (f i).vals.map some ∧ M5Ok w (f i) (d i) := by
  have hx : ∀ i, ∃ m : M5, i < n → cellsAt w b (off + 5 * i) 5 = m.vals.map some ∧ M5Ok w m (d i) := fun i => by
    by_cases hi : i < n
    · obtain ⟨f1, f2, xb, s, a, k, c, e1, e2, h1, h2, h3, h4, h5⟩ := cs_of (hM i hi)
      refine ⟨⟨f1, f2, xb, s, a, k, c⟩, fun _ => ⟨?_, h1.symm, h2.symm, h3.symm, h4, h5⟩⟩
      rw [e2, e1]; rfl
    · exact ⟨⟨0, 0, false, ⟨#[]⟩, none, 0, 0⟩, fun q => absurd q hi⟩
  exact ⟨fun i => (hx i).choose, fun i => (hx i).choose_spec⟩
end Go.Proofs.Tryz

namespace Go.Proofs.Tryz
open Go Go.Am Go.RowKit Go.Dr
set_option maxRecDepth 100000

theorem oneCell_flat {l : List M5} : ∀ u ∈ flat l, u.oneCell' = true := fun u hu => by
  simp only [flat, List.mem_flatMap, M5.vals] at hu
  obtain ⟨m, -, hm⟩ := hu
  simp only [List.mem_cons, List.not_mem_nil, or_false] at hm
  rcases hm with rfl | rfl | rfl | rfl | rfl <;> rfl

theorem wpList_copyM (w : World) {ops : Array Oper} {rest : List Oper} {o : Oper} {a : Act} {Q : Exit → Act → World → Prop} (hgd : o.guard = none) (dd ss : Operand)
    (ho : o.op = .call { callee := .builtin .copy, args := #[dd, ss], argTypes := #[22, 22] }) (base g n c : Nat) (ad : Option Addr) (hd : a.eval dd = .slice (some ⟨g, 0, none⟩) n n) (hs : a.eval ss = .slice ad n c)
    (xs : List Value) (hown : w.ownsRow base 27 5 (.slice (some ⟨g, 0, none⟩) n n) n xs) (l : List M5) (hl : l.length = n)
    (hsrc : n ≠ 0 → ∃ b off, ad = some ⟨b, off, none⟩ ∧ ∀ j u, (flat l)[j]? = some u → w.cell? ⟨b, off + j, none⟩ = some u) (w0 : World) (hb : Below base w0 w)
    (h : ∀ w', w'.ownsRow base 27 5 (.slice (some ⟨g, 0, none⟩) n n) n (flat l) → Below base w0 w' → wpList prog ops Q rest (a.put o.dst (goInt n)) w') : wpList prog ops Q (o :: rest) a w := by
  obtain ⟨i27, hi, hz0, hz1, hz2⟩ := info_more info27
  refine wpList_plain hgd fun K hK => ?_
  unfold Oper.wp
  by_cases h0 : n = 0
  · subst h0
    have e0 : l = [] := List.length_eq_zero_iff.1 hl
    subst e0
    have hl0 : ∀ (x : Addr), (loadCells x 0).run prog w = .ok #[] w := fun x => by simpa using run_loadCells_list (P := prog) w x [] (by simp)
    have hrun : (Builtin.copy_ #[22, 22] o.type #[.slice (some ⟨g, 0, none⟩) 0 0, .slice ad 0 c]).run prog w = .ok (goInt 0) w := by
      cases ad <;> simp [Builtin.copy_, run_underlying underlying22, Builtin.lenOf, Builtin.firstCells, sizeOf, typeInfo, hi, storeCells, hl0]
    simp [execOp, ho, resolve, invoke, builtin, hd, hs, hrun, Result.andThen]
    have hx : xs = flat [] := by
      have := hown.1
      simp only [Nat.zero_mul, List.length_eq_zero_iff] at this
      rw [this]; rfl
    exact hK _ _ (h w (hx ▸ hown) hb)
  · obtain ⟨b, off, rfl, hc⟩ := hsrc h0
    have hfl : (flat l).length = n * 5 := by rw [length_flat, hl]; omega
    rcases hown.2 with ⟨e, _⟩ | ⟨g', cap, cur, e, q1, q2, q3, q4, q5, q6⟩
    · cases e
    · simp only [Value.slice.injEq, Option.some.injEq, Addr.mk.injEq, true_and, and_true] at e
      obtain ⟨rfl, rfl⟩ := e
      have hsr : ∀ j u, (flat l)[j]? = some u → w.cell? ((⟨b, off, none⟩ : Addr).add j) = some u := fun j u hj => by rw [add_adr]; exact hc j u hj
      have hld := run_loadCells_list (P := prog) w ⟨b, off, none⟩ (flat l) hsr
      have hst := run_storeCells_at prog g 0 27 (flat l) 0 cur w q2 (by simp; omega) oneCell_flat
      rw [hfl] at hld
      have hrun : (Builtin.copy_ #[22, 22] o.type #[.slice (some ⟨g, 0, none⟩) n n, .slice (some ⟨b, off, none⟩) n c]).run prog w = .ok (goInt n) (w.setRow g (cur.toList.take (0 + 0) ++ flat l ++ cur.toList.drop (0 + 0 + (flat l).length)).toArray) := by
        simp [Builtin.copy_, run_underlying underlying22, Builtin.lenOf, Builtin.firstCells, sizeOf, typeInfo, hi, hz1, hld] at hst ⊢
        simp [hst]
      simp [execOp, ho, resolve, invoke, builtin, hd, hs, hrun, Result.andThen]
      refine hK _ _ (h _ ?_ ?_)
      · have hh := setRow_heap w g cur (cur.toList.take (0 + 0) ++ flat l ++ cur.toList.drop (0 + 0 + (flat l).length)).toArray 27 (0, 0) q2
        simp only [Nat.add_zero, List.take_zero, List.nil_append, Nat.zero_add] at hh ⊢
        refine ⟨hfl, .inr ⟨g, n, _, rfl, q1, by simpa using hh, Nat.le_refl _, q4, ?_, ?_⟩⟩
        · simp [hfl, q5]
        · simp [← hfl]
      · exact below_setRow hb q1 _

/-- 'append([]api.Move{}, l...)', nil or not. -/
theorem wpList_append0M (w : World) {ops : Array Oper} {rest : List Oper} {o : Oper} {a : Act} {Q : Exit → Act → World → Prop} (hgd : o.guard = none) (s x : Operand)
    (ho : o.op = .call { callee := .builtin .append, args := #[s, x], argTypes := #[22, 22] }) (base g : Nat) (hs : a.eval s = .slice (some ⟨g, 0, none⟩) 0 0) (hown : w.ownsRow base 27 5 (.slice (some ⟨g, 0, none⟩) 0 0) 0 [])
    (ad : Option Addr) (n c : Nat) (l : List M5) (hl : l.length = n) (hx : a.eval x = .slice ad n c) (hsrc : n ≠ 0 → ∃ b off, ad = some ⟨b, off, none⟩ ∧ ∀ j u, (flat l)[j]? = some u → w.cell? ⟨b, off + j, none⟩ = some u) (hn : n ≤ 1000000) (hbase : base ≤ w.heap.size)
    (h : ∀ v' w', w'.ownsRow base 27 5 v' n (flat l) → w.grownBy w' (some g) → wpList prog ops Q rest (a.put o.dst v') w') : wpList prog ops Q (o :: rest) a w := by
  obtain ⟨i27, hi, hz0, hz1, hz2⟩ := info_more info27
  have zz : ((.agg #[.int .i64 0, .int .i64 0, .bool false, .string ⟨#[]⟩, .slice none 0 0] : Value)).cells.size = 5 := rfl
  have hfl : (flat l).length = n * 5 := by rw [length_flat, hl]; omega
  have go : ∀ (ad' : Addr), ad = some ad' → (∀ j u, (flat l)[j]? = some u → w.cell? (ad'.add j) = some u) → wpList prog ops Q (o :: rest) a w := fun ad' e hc => by
    subst e
    refine wpList_append_own w hgd s x 22 ho base 27 i27 _ 5 64 underlying22 hi hz0 hz1 hz2 zz (by decide) _ 0 [] hs hown ad' n c (flat l) hx hfl hc oneCell_flat (by unfold maxLen; omega) (by omega) hbase ?_
    intro v' w' h1 h2 _
    exact h v' w' (by simpa using h1) h2
  by_cases h0 : n = 0
  · subst h0
    have e0 : l = [] := List.length_eq_zero_iff.1 hl
    subst e0
    cases ad with
    | some ad' => exact go ad' rfl fun j u hj => by simp [flat] at hj
    | none =>
      have hrun : (Builtin.append_ #[22, 22] o.type #[.slice (some ⟨g, 0, none⟩) 0 0, .slice none 0 c]).run prog w = .ok (.slice (some ⟨g, 0, none⟩) 0 0) w := by
        have hst : ∀ k, (storeCells ((⟨g, 0, none⟩ : Addr).add k) []).run prog w = .ok () w := fun _ => rfl
        simp [Builtin.append_, run_underlying underlying22, sizeOf, typeInfo, hi, Builtin.lenOf, Builtin.firstCells, hst]
      refine wpList_plain hgd fun K' hK' => ?_
      unfold Oper.wp execOp
      simp only [ho, resolve, invoke, builtin, Sem.run_bind, Sem.run_pure, Result.andThen_ok, List.map_toArray, List.map_cons, List.map_nil, hs, hx, hrun]
      exact hK' _ _ (h _ _ (by simpa [flat] using hown) (World.grownBy.refl _ _))
  · obtain ⟨b2, o2, e, hc⟩ := hsrc h0
    exact go _ e fun j u hj => by rw [add_adr]; exact hc j u hj

/-- The cells of a row of moves, one by one. -/
theorem src_of {w : World} {b off n : Nat} {f : Nat → M5} (h : ∀ i, i < n → cellsAt w b (off + 5 * i) 5 = (f i).vals.map some) : ∀ j u, (flat ((List.range n).map f))[j]? = some u → w.cell? ⟨b, off + j, none⟩ = some u := by
  intro j u hj
  have hlt := (List.getElem?_eq_some_iff.1 hj).1
  rw [length_flat, List.length_map, List.length_range] at hlt
  obtain ⟨i, k, hk, rfl⟩ : ∃ i k, k < 5 ∧ j = 5 * i + k := ⟨j / 5, j % 5, by omega, by omega⟩
  have hi : i < n := by omega
  have hm : ((List.range n).map f)[i]? = some (f i) := by simp [hi]
  obtain ⟨e0, e1, e2, e3, e4⟩ := flat_get hm
  have hc := h i hi
  simp only [cellsAt, M5.vals, List.map_cons, List.map_nil, List.cons.injEq, and_true] at hc
  obtain ⟨c0, c1, c2, c3, c4⟩ := hc
  rw [← Nat.add_assoc]
  match k, hk with
  | 0, _ => rw [Nat.add_zero] at hj ⊢; rw [c0, ← e0, hj]
  | 1, _ => rw [c1, ← e1, hj]
  | 2, _ => rw [show off + 5 * i + 2 = off + 5 * i + 1 + 1 from rfl, c2, ← e2, hj]
  | 3, _ => rw [show off + 5 * i + 3 = off + 5 * i + 1 + 1 + 1 from rfl, c3, ← e3, hj]
  | 4, _ => rw [show off + 5 * i + 4 = off + 5 * i + 1 + 1 + 1 + 1 from rfl, c4, ← e4, hj]
end Go.Proofs.Tryz

namespace Go.Proofs.Tryz
open Go Go.Am Go.RowKit Go.Dr
set_option maxRecDepth 100000

/-- A play's data. -/
structure PlD where
  s1 : ByteArray
  s2 : ByteArray
  lx : Bool
  L : List MvD
def zeroP : PlD := ⟨⟨#[]⟩, ⟨#[]⟩, false, []⟩
/-- A play and an error are answered. -/
def PlAns (w' : World) (e : Ending) (k : Int) (P : PlD) : Prop := ∃ mv, e = .returned (.tuple #[.agg #[.string P.s1, .string P.s2, .bool P.lx, mv], .int .i64 k]) ∧ IsMoves w' mv (dOf P.L) P.L.length
theorem zero_is (w : World) : IsMoves w (.slice none 0 0) (dOf zeroP.L) zeroP.L.length := ⟨none, 0, rfl, Nat.le_refl _, fun q => absurd rfl q⟩
/-- The canonical form. -/
def canP (s1 s2 : ByteArray) (lx : Bool) (y0 : Int → Int) (yo yn : Int) (y1 : Int → Int) (eo en : Int) (d : Nat → MvD) (n : Nat) : PlD :=
  if canE y0 yo yn y1 eo en d n = 0 then ⟨s1, s2, lateC lx (canL d n), canL d n⟩ else zeroP

theorem chk_b {w : World} {y0 y1 : Int → Int} {yo yn eo en : Int} {d : Nat → MvD} {n : Nat} {pvv ev mv : Value} (b : Bool) (h : Laid w) (hp : IsStr pvv y0 yo yn) (he : IsStr ev y1 eo en) (hm : IsMoves w mv d n) :
    Chk w (.agg #[pvv, ev, .bool b, mv]) (plV y0 yo yn y1 eo en d n) := by
  cases b
  · exact chk_of (lx := 0) h hp he hm
  · exact chk_of (lx := 1) h hp he hm

theorem RowM.setLast {w : World} {base g n c : Nat} {l : List M5} (h : RowM w base g n c l) {i : Nat} {m : M5} (hm : l[i]? = some m) (a : Option Addr) (k c' : Nat) :
    RowM (w.setCell ⟨g, i * 5 + 4, none⟩ (.slice a k c')) base g n c (l.set i { m with a := a, k := k, c := c' }) := by
  have h1 := World.ownsRow.stored h (i * 5 + 4) (.slice a k c')
  have e := flat_last l i m (a := a) (k := k) (c := c') hm
  rw [show 5 * i = i * 5 by omega] at e
  unfold RowM
  rw [← e]
  exact h1.1

/-- The moves of a play on the way to the canonical form: i are done. -/
structure LoopC (wr : World) (base : Nat) (f : Nat → M5) (d : Nat → MvD) (ys : List Nat) (i : Nat) (l : List M5) : Prop where
  len : l.length = ys.length
  done : ∀ j k, j < i → ys[j]? = some k → ∃ c, l[j]? = some c ∧ M5Own wr base c (plainM (d k))
  left : ∀ j k, i ≤ j → ys[j]? = some k → l[j]? = some (f k)
  adj : ∀ j a b, j + 1 < i → ys[j]? = some a → ys[j + 1]? = some b → (d a).fr ≠ (d b).fr
theorem LoopC.below {w W : World} {base : Nat} {f : Nat → M5} {d : Nat → MvD} {ys : List Nat} {i : Nat} {l : List M5} (h : LoopC w base f d ys i l) (hb : Below w.heap.size w W) : LoopC W base f d ys i l :=
  ⟨h.len, fun j k h1 h2 => let ⟨c, e, o⟩ := h.done j k h1 h2; ⟨c, e, o.below hb⟩, h.left, h.adj⟩
theorem LoopC.start {w : World} {base : Nat} {f : Nat → M5} {d : Nat → MvD} {ys : List Nat} : LoopC w base f d ys 0 (ys.map f) :=
  ⟨by simp, fun j k h => absurd h (Nat.not_lt_zero _), fun j k _ h => by simp [h], fun j a b h => by omega⟩
theorem LoopC.next {w : World} {base g n cap : Nat} {f : Nat → M5} {d : Nat → MvD} {ys : List Nat} {i k : Nat} {l : List M5} (h : LoopC w base f d ys i l) (hr : RowM w base g n cap l) (hk : ys[i]? = some k) {a : Option Addr} {m c : Nat}
    (ho : M5Own w base { f k with a := a, k := m, c := c } (plainM (d k))) (hadj : ∀ j b, i = j + 1 → ys[j]? = some b → (d b).fr ≠ (d k).fr) :
    LoopC (w.setCell ⟨g, i * 5 + 4, none⟩ (.slice a m c)) base f d ys (i + 1) (l.set i { f k with a := a, k := m, c := c }) := by
  have hi := (List.getElem?_eq_some_iff.1 hk).1
  refine ⟨by simp [h.len], fun j x hj hx => ?_, fun j x hj hx => ?_, fun j a b hj ha hb => ?_⟩
  · by_cases e : j = i
    · subst e
      rw [hk] at hx; cases hx
      exact ⟨_, by rw [List.getElem?_set, if_pos rfl, if_pos (by rw [h.len]; exact hi)], ho.set hr _ _⟩
    · obtain ⟨c', e1, o⟩ := h.done j x (by omega) hx
      exact ⟨c', by rw [List.getElem?_set, if_neg (by omega)]; exact e1, o.set hr _ _⟩
  · rw [List.getElem?_set, if_neg (by omega)]
    exact h.left j x (by omega) hx
  · by_cases e : j + 1 = i
    · subst e
      rw [hk] at hb; cases hb
      exact hadj j a rfl ha
    · exact h.adj j a b (by omega) ha hb
/-- The kept moves of a row that is done. -/
theorem LoopC.kept {w : World} {base : Nat} {f : Nat → M5} {d : Nat → MvD} {ys : List Nat} {l : List M5} (h : LoopC w base f d ys ys.length l) : F2 (M5Ok w) (l.filter fun c => !stayB c) ((ys.map fun i => plainM (d i)).filter fun m => !stayD m) := by
  have hF : F2 (M5Ok w) l (ys.map fun i => plainM (d i)) := F2.of_get (by simp [h.len]) fun i a b ha hb => by
    rw [List.getElem?_map] at hb
    cases hk : ys[i]? with
    | none => rw [hk] at hb; cases hb
    | some k =>
      rw [hk] at hb
      simp only [Option.map_some, Option.some.injEq] at hb
      subst hb
      obtain ⟨c, e, o⟩ := h.done i k (List.getElem?_eq_some_iff.1 hk).1 hk
      rw [ha] at e; cases e
      exact o.ok
  exact hF.filter fun a b hab => by rw [stayB_eq hab]

section
variable {w : World} {y0 y1 : Int → Int} {yo yn eo en : Int} {lx : Bool} {d : Nat → MvD} {n : Nat} {s1 s2 : ByteArray} {ad : Option Addr} {c : Nat}
theorem can_big (hp : IsStr (.string s1) y0 yo yn) (hm : IsMoves w (.slice ad n c) d n) (hn : n ≤ 1000000) (hbig : BigC yn d n) :
    Calls prog 101 #[.agg #[.string s1, .string s2, .bool lx, .slice ad n c]] w fun e w' => PlAns w' e 5 zeroP ∧ Below w.heap.size w w' := by
  have hsz := str_size hp
  have hB : Below w.heap.size w ((w.alloc (.cells #[.string s1, .string s2, .bool lx, .slice ad n c] 24)).alloc (.cells #[.string ⟨#[]⟩, .string ⟨#[]⟩, .bool false, .slice none 0 0] 24)) := ((Below.refl _ _).alloc (Nat.le_refl _) _).alloc (by simp) _
  have cL := large_w (hm.below hB) hn
  unfold BigC at hbig
  obtain ⟨r, hr⟩ : ∃ r, anyK (fun i => decide (36 < (d i).bn)) n = r := ⟨_, rfl⟩
  rw [hr] at cL hbig
  have hbig' : (24 : Int) < (s1.size : Int) ∨ (4 : Int) < (n : Int) ∨ r = true := by
    rcases hbig with h | h | h
    · left; omega
    · right; left; omega
    · right; right; exact h
  clear hp hm hbig hr hsz
  go_enter func101, ntmps101
  go_wp2_with fail
  go_at_call 137
  refine cL.mono ?_
  rintro e w2 ⟨rfl, hk2⟩
  have hx := (at2_0 _ _ _ _ _).below hk2 (by rw [size2]; omega)
  have hz := (at2_1 _ _ _ _ _).below hk2 (by rw [size2]; omega)
  obtain ⟨⟨x0, x1, x2, x3⟩, -⟩ := box4 hx
  obtain ⟨⟨z0, z1, z2, z3⟩, g0, g1, g2, g3⟩ := box4 hz
  have hb2 : Below w.heap.size w w2 := hB.trans (hk2.mono (by rw [size2]; omega))
  clear cL
  have fin : Below w.heap.size w ((((w2.setCell ⟨w.heap.size + 1, 0, none⟩ (.string ⟨#[]⟩)).setCell ⟨w.heap.size + 1, 1, none⟩ (.string ⟨#[]⟩)).setCell ⟨w.heap.size + 1, 2, none⟩ (.bool false)).setCell ⟨w.heap.size + 1, 3, none⟩ (.slice none 0 0)) :=
    (((hb2.setCell (p := ⟨w.heap.size + 1, 0, none⟩) (by simp) _).setCell (p := ⟨w.heap.size + 1, 1, none⟩) (by simp) _).setCell (p := ⟨w.heap.size + 1, 2, none⟩) (by simp) _).setCell (p := ⟨w.heap.size + 1, 3, none⟩) (by simp) _
  by_cases h1 : (24 : Int) < (s1.size : Int)
  · clear hbig'
    go_wp2
    refine bodyPost_ret (v := .tuple #[.agg #[.string ⟨#[]⟩, .string ⟨#[]⟩, .bool false, .slice none 0 0], .int .i64 5]) (by simp [results, results101, go_sem, World.cell?_setCell_same, z0, z1, z2, z3]) rfl ⟨⟨_, rfl, zero_is _⟩, fin⟩
  by_cases h2 : (4 : Int) < (n : Int)
  · clear hbig'
    go_wp2
    refine bodyPost_ret (v := .tuple #[.agg #[.string ⟨#[]⟩, .string ⟨#[]⟩, .bool false, .slice none 0 0], .int .i64 5]) (by simp [results, results101, go_sem, World.cell?_setCell_same, z0, z1, z2, z3]) rfl ⟨⟨_, rfl, zero_is _⟩, fin⟩
  have hr : r = true := by rcases hbig' with h | h | h; exact absurd h h1; exact absurd h h2; exact h
  subst hr
  clear hbig'
  go_wp2
  refine bodyPost_ret (v := .tuple #[.agg #[.string ⟨#[]⟩, .string ⟨#[]⟩, .bool false, .slice none 0 0], .int .i64 5]) (by simp [results, results101, go_sem, World.cell?_setCell_same, z0, z1, z2, z3]) rfl ⟨⟨_, rfl, zero_is _⟩, fin⟩
end
end Go.Proofs.Tryz
