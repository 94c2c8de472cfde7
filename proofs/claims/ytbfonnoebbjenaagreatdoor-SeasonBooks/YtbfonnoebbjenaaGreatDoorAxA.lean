/- On the season seat: blocks, strings and rows, as the kit's walk wants them. On the season seat: rows of games and lines that are handed, opened. -/
import Derived.Test.YtbfonnoebbjenaaGreatDoorAmZd
import Derived.WalkKit
import Derived.BigRegion
import Derived.OneCell
import Derived.Lib.OwnKind
import Derived.Lib.SliceRun
import Derived.Lib.Hide
import Derived.OwnWalk
import Derived.Laws.AppendOwn
import Derived.Laws.OwnMore
import Derived.Test.YtbfonnoebbjenaaGreatDoorRows
import Derived.ProofKit
import Derived.LaidMore
import Derived.OpenShut
import Derived.Carry
import Derived.Lay
import Derived.Stop.Joined
namespace Go.Proofs.Tryz
open Go Go.Am Go.RowKit
set_option maxRecDepth 100000

theorem cell_under {w : World} {b o : Nat} {v : Value} (h : w.cell? ⟨b, o, none⟩ = some v) : b < w.heap.size := by
  simp only [World.cell?] at h
  split at h
  · rename_i hb; exact (Array.getElem?_eq_some_iff.1 hb).1
  · cases h
def numOf' : Value → Int
  | .int _ n => n
  | _ => 0
theorem old1 {w : World} {k : Nat} {o : Obj} (h : w.heap[k]? = some o) (Z : Obj) : (w.alloc Z).heap[k]? = some o := by
  have hk := (Array.getElem?_eq_some_iff.1 h).1
  show (w.heap.push Z)[k]? = _
  rw [Array.getElem?_push, if_neg (by omega)]; exact h
theorem owns_below {w w' : World} {base : Nat} {e : TypeId} {size n : Nat} {v : Value} {xs : List Value} (h : w.ownsRow base e size v n xs) (hb : Below w.heap.size w w') : w'.ownsRow base e size v n xs := by
  refine ⟨h.1, ?_⟩
  rcases h.2 with q | ⟨g, cap, cur, hv, h1, h2, h3⟩
  · exact .inl q
  · exact .inr ⟨g, cap, cur, hv, h1, (hb.block _ (lt_of_block h2)).trans h2, h3⟩
theorem owns_base {w : World} {base b2 : Nat} {e : TypeId} {size n : Nat} {v : Value} {xs : List Value} (h : w.ownsRow base e size v n xs) (hb : b2 ≤ base) : w.ownsRow b2 e size v n xs := by
  refine ⟨h.1, ?_⟩
  rcases h.2 with q | ⟨g, cap, cur, hv, h1, h2⟩
  · exact .inl q
  · exact .inr ⟨g, cap, cur, hv, Nat.le_trans hb h1, h2⟩
theorem kinds_ne {w : World} {b1 b2 e1 e2 s1 s2 n1 n2 : Nat} {v1 v2 : Value} {x1 x2 : List Value} (h1 : w.ownsRow b1 e1 s1 v1 n1 x1) (h2 : w.ownsRow b2 e2 s2 v2 n2 x2) (hne : e1 ≠ e2) : v1.ownBlock = none ∨ v1.ownBlock ≠ v2.ownBlock := by
  cases hb : v1.ownBlock with
  | none => exact .inl rfl
  | some k =>
    refine .inr fun e => ?_
    obtain ⟨c, fz, hc⟩ := Lib.ownsRow_kind h1 k hb
    obtain ⟨c', fz', hc'⟩ := Lib.ownsRow_kind h2 k e.symm
    rw [hc] at hc'
    simp only [Option.some.injEq, Obj.cells.injEq] at hc'
    exact hne hc'.2.1
/-- A block as it lies. -/
def At (w : World) (b : Nat) (cs : Array Value) (e : TypeId) : Prop := w.heap[b]? = some (.cells cs e (0, 0))
theorem At.below {w W : World} {b : Nat} {cs : Array Value} {e : TypeId} (h : At w b cs e) {B : Nat} (hb : Below B w W) (hB : b < B) : At W b cs e := (hb.block b hB).trans h
theorem At.alloc {w : World} {b : Nat} {cs : Array Value} {e : TypeId} (h : At w b cs e) (o : Obj) : At (w.alloc o) b cs e := old1 h o
theorem At.lt {w : World} {b : Nat} {cs : Array Value} {e : TypeId} (h : At w b cs e) : b < w.heap.size := lt_of_block h
theorem at_new (w : World) (A : Array Value) (e : TypeId) : At (w.alloc (.cells A e)) w.heap.size A e := heap_alloc_new _ _
theorem At.setCell {w : World} {b : Nat} {cs : Array Value} {e : TypeId} (h : At w b cs e) {a : Addr} (ha : b ≠ a.block) (u : Value) : At (w.setCell a u) b cs e := (Below.heap_setCell _ _ _ _ ha).trans h
theorem At.set {w : World} {b : Nat} {cs : Array Value} {e : TypeId} (h : At w b cs e) (i : Nat) (u : Value) : At (w.setCell ⟨b, i, none⟩ u) b (cs.setIfInBounds i u) e := by
  unfold At at h ⊢
  have hb := lt_of_block h
  simp only [World.setCell, Array.getElem?_modify, h]
  simp
/-- Two lists, one element beside the other. -/
inductive F2 {α β : Type} (R : α → β → Prop) : List α → List β → Prop
  | nil : F2 R [] []
  | cons {a : α} {b : β} {l : List α} {m : List β} (h : R a b) (t : F2 R l m) : F2 R (a :: l) (b :: m)
/-- A string of bytes. -/
def bA (l : List UInt8) : ByteArray := ⟨l.toArray⟩
theorem bA_size (l : List UInt8) : (bA l).size = l.length := by simp [bA, ByteArray.size]
theorem bA_list (l : List UInt8) : (bA l).toList = l := by rw [Lib.toList_data]; rfl
theorem bA_data (s : ByteArray) : bA s.data.toList = s := by
  cases s
  simp [bA]
theorem box1 {w : World} {b : Nat} {c0 : Value} {e : TypeId} (h : At w b #[c0] e) : w.cell? ⟨b, 0, none⟩ = some c0 ∧ w.frozen? ⟨b, 0, none⟩ = false := by
  unfold At at h
  constructor
  · unfold World.cell?; rw [h]; rfl
  · unfold World.frozen?; rw [h]; rfl
/-! ### rows that are handed -/
/-- A slice of n elements of m cells each. -/
def Row (w : World) (v : Value) (m n : Nat) (f : Nat → List Value) : Prop :=
  ∃ a c, v = .slice a n c ∧ n ≤ c ∧ (n ≠ 0 → ∃ b off, a = some ⟨b, off, none⟩ ∧ ∀ i, i < n → ∀ j u, (f i)[j]? = some u → w.cell? ⟨b, off + i * m + j, none⟩ = some u)
theorem Row.below {w W : World} {v : Value} {m n : Nat} {f : Nat → List Value} (h : Row w v m n f) (hb : Below w.heap.size w W) : Row W v m n f := by
  obtain ⟨a, c, rfl, h1, h2⟩ := h
  refine ⟨a, c, rfl, h1, fun h0 => ?_⟩
  obtain ⟨b, off, e, h3⟩ := h2 h0
  exact ⟨b, off, e, fun i hi j u hu => (hb.cell (cell_under (h3 i hi j u hu))).trans (h3 i hi j u hu)⟩
theorem Row.slice {w : World} {v : Value} {m n : Nat} {f : Nat → List Value} (h : Row w v m n f) : ∃ a c, v = .slice a n c ∧ n ≤ c := let ⟨a, c, e, h1, _⟩ := h; ⟨a, c, e, h1⟩
theorem Row.at {w : World} {v : Value} {m n i : Nat} {f : Nat → List Value} (h : Row w v m n f) (hi : i < n) : ∃ b off c, v = .slice (some ⟨b, off, none⟩) n c ∧ n ≤ c ∧ ∀ j u, (f i)[j]? = some u → w.cell? ⟨b, off + i * m + j, none⟩ = some u := by
  obtain ⟨a, c, rfl, h1, h2⟩ := h
  obtain ⟨b, off, rfl, h3⟩ := h2 (by omega)
  exact ⟨b, off, c, rfl, h1, h3 i hi⟩
theorem Row.nil (w : World) (m : Nat) (f : Nat → List Value) : Row w (.slice none 0 0) m 0 f := ⟨none, 0, rfl, Nat.le_refl _, fun h => absurd rfl h⟩
theorem Row.congr {w : World} {v : Value} {m n : Nat} {f g : Nat → List Value} (h : Row w v m n f) (e : ∀ i, i < n → f i = g i) : Row w v m n g := by
  obtain ⟨a, c, rfl, h1, h2⟩ := h
  refine ⟨a, c, rfl, h1, fun h0 => ?_⟩
  obtain ⟨b, off, ea, h3⟩ := h2 h0
  exact ⟨b, off, ea, fun i hi j u hu => h3 i hi j u (by rw [e i hi]; exact hu)⟩

/-! ### rows of the call's own, built one by one -/
def flatR (l : List (List Value)) : List Value := l.flatten
theorem flatR_snoc (l : List (List Value)) (x : List Value) : flatR (l ++ [x]) = flatR l ++ x := by simp [flatR]
theorem flatR_get {m : Nat} : ∀ {l : List (List Value)} {i j : Nat} {x : List Value} {u : Value}, (∀ y ∈ l, y.length = m) → l[i]? = some x → x[j]? = some u → (flatR l)[i * m + j]? = some u
  | [], _, _, _, _, _, h, _ => by simp at h
  | y :: l, 0, j, x, u, _, h, hu => by
    simp only [List.getElem?_cons_zero, Option.some.injEq] at h
    subst h
    have hj := (List.getElem?_eq_some_iff.1 hu).1
    rw [Nat.zero_mul, Nat.zero_add]
    show (y ++ l.flatten)[j]? = _
    rw [List.getElem?_append_left hj]; exact hu
  | y :: l, i + 1, j, x, u, hm, h, hu => by
    simp only [List.getElem?_cons_succ] at h
    have ih := flatR_get (fun z hz => hm z (by simp [hz])) h hu
    have hy := hm y (by simp)
    show (y ++ l.flatten)[(i + 1) * m + j]? = _
    rw [List.getElem?_append_right (by rw [hy, Nat.add_mul]; omega), hy, show (i + 1) * m + j - m = i * m + j by rw [Nat.add_mul]; omega]
    exact ih
def OwnRow (w : World) (base : Nat) (e : TypeId) (m : Nat) (v : Value) (l : List (List Value)) : Prop := w.ownsRow base e m v l.length (flatR l) ∧ ∀ x ∈ l, x.length = m
theorem OwnRow.start (w : World) (base : Nat) (e : TypeId) (m : Nat) : OwnRow w base e m (.slice none 0 0) [] := ⟨World.ownsRow_nil _ _ _ _, fun _ h => absurd h List.not_mem_nil⟩
theorem OwnRow.below {w W : World} {base : Nat} {e : TypeId} {m : Nat} {v : Value} {l : List (List Value)} (h : OwnRow w base e m v l) (hb : Below w.heap.size w W) : OwnRow W base e m v l := ⟨owns_below h.1 hb, h.2⟩
theorem OwnRow.mono {w : World} {base b2 : Nat} {e : TypeId} {m : Nat} {v : Value} {l : List (List Value)} (h : OwnRow w base e m v l) (hb : b2 ≤ base) : OwnRow w b2 e m v l := ⟨owns_base h.1 hb, h.2⟩
theorem OwnRow.slice {w : World} {base : Nat} {e : TypeId} {m : Nat} {v : Value} {l : List (List Value)} (h : OwnRow w base e m v l) : ∃ a c, v = .slice a l.length c := by
  rcases h.1.2 with ⟨rfl, h0⟩ | ⟨g, cap, cur, rfl, _⟩
  · exact ⟨none, 0, by rw [h0]⟩
  · exact ⟨_, _, rfl⟩
theorem OwnRow.lt {w : World} {base : Nat} {e : TypeId} {m : Nat} {v : Value} {l : List (List Value)} (h : OwnRow w base e m v l) : ∀ q, v.ownBlock = some q → base ≤ q ∧ q < w.heap.size := h.1.lt
theorem OwnRow.grown {w w' : World} {base base2 : Nat} {e e2 : TypeId} {m m2 k : Nat} {v u : Value} {l : List (List Value)} {xs : List Value} (h : OwnRow w base e m v l) (hu : w.ownsRow base2 e2 m2 u k xs) (hne : e ≠ e2) (hg : w.grownBy w' u.ownBlock) : OwnRow w' base e m v l := ⟨h.1.kept hg (kinds_ne h.1 hu hne), h.2⟩
theorem OwnRow.row {w : World} {base : Nat} {e : TypeId} {m : Nat} {v : Value} {l : List (List Value)} (h : OwnRow w base e m v l) : Row w v m l.length fun i => l[i]?.getD [] := by
  rcases h.1.2 with ⟨rfl, h0⟩ | ⟨g, cap, cur, rfl, h1, h2, h3, h4⟩
  · rw [h0]; exact Row.nil _ _ _
  · refine ⟨_, cap, rfl, h3, fun _ => ⟨g, 0, rfl, fun i hi j u hu => ?_⟩⟩
    have hx : l[i]? = some l[i] := List.getElem?_eq_getElem hi
    simp only [hx, Option.getD_some] at hu
    have hq := flatR_get h.2 hx hu
    have hlt := (List.getElem?_eq_some_iff.1 hq).1
    have := h.1.cellAt (i * m + j) (by rw [← h.1.1]; exact hlt)
    rw [Nat.zero_add, this]
    exact hq
/-- What a slice type's elements are. -/
structure ElT (t e : TypeId) (m : Nat) (i : TypeInfo) (z : Value) (by' : Nat) : Prop where
  ht : prog.underlying t = some (.slice e)
  hi : prog.info? e = some i
  hz : i.zero = some z
  hs : i.size = m
  hb : i.bytes = by'
  hc : z.cells.size = m
  h0 : 0 < m
  hb1 : by' ≤ 1000
/-- What the append of one element leaves. -/
structure AppR (w w' : World) (base : Nat) (e : TypeId) (m : Nat) (l : List (List Value)) (x : List Value) (v u : Value) : Prop where
  row : OwnRow w' base e m u (l ++ [x])
  size : w.heap.size ≤ w'.heap.size
  old : ∀ q, q < base → q < w.heap.size → w'.heap[q]? = w.heap[q]?
  below : ∀ w0 : World, Below w0.heap.size w0 w → w0.heap.size ≤ base → Below w0.heap.size w0 w'
  grown : ∃ k xs, w.ownsRow base e m v k xs ∧ w.grownBy w' v.ownBlock
theorem run_appendR {t ty e : TypeId} {m : Nat} {i : TypeInfo} {z : Value} {by' : Nat} (T : ElT t e m i z by') (w : World) (base b : Nat) (l : List (List Value)) (v : Value) (h : OwnRow w base e m v l) (hn : l.length ≤ 1000000) (x : List Value) (hx : x.length = m) (h1 : ∀ u ∈ x, u.oneCell' = true)
    (hb : At w b x.toArray e) (k1 : Nat) (hbase : base ≤ w.heap.size) :
    ∃ a' k' c' w', (Builtin.append_ #[t, t] ty #[v, .slice (some ⟨b, 0, none⟩) 1 k1]).run prog w = .ok (.slice a' k' c') w' ∧ AppR w w' base e m l x v (.slice a' k' c') := by
  have hl := h.lt
  have hb1 := T.hb1
  obtain ⟨v', w', hr, ho, hg, -⟩ := run_append_own (P := prog) w base t ty e i z m by' T.ht T.hi T.hz T.hs T.hb T.hc T.h0 v l.length (flatR l) h.1 ⟨b, 0, none⟩ 1 k1 x (by omega) (fun j u hj => by
      rw [add_adr, Nat.zero_add]
      unfold At at hb
      unfold World.cell?
      rw [hb]
      simpa using hj) h1 (by unfold maxLen; omega) (by
        have : (l.length + 1) * by' ≤ 1000001 * 1000 := Nat.mul_le_mul (by omega) hb1
        omega) hbase
  have hrow : OwnRow w' base e m v' (l ++ [x]) := ⟨by rw [flatR_snoc, List.length_append]; exact ho, fun y hy => by
    rcases List.mem_append.1 hy with hy | hy
    · exact h.2 y hy
    · rw [List.mem_singleton.1 hy]; exact hx⟩
  obtain ⟨a9, c9, rfl⟩ := hrow.slice
  exact ⟨a9, _, c9, w', hr, hrow, hg.size, fun q hq hq2 => hg.block q hq2 (fun e => by have := (hl _ e.symm).1; omega),
    fun w0 h0 hw0 => h0.grown hg h0.size (fun q hq => by have := (hl q hq).1; omega), ⟨_, _, h.1, hg⟩⟩
def Halt (p : Prop) : Prop := p
theorem wpList_appendR {t e : TypeId} {m : Nat} {i : TypeInfo} {z : Value} {by' : Nat} (T : ElT t e m i z by') (w : World) {ops : Array Oper} {rest : List Oper} {o : Oper} {a : Act} {Q : Exit → Act → World → Prop} (hgd : o.guard = none) (s x : Operand)
    (ho : o.op = .call { callee := .builtin .append, args := #[s, x], argTypes := #[t, t] }) (base b : Nat) (L : List (List Value)) (v : Value) (hs : a.eval s = v) (k1 : Nat) (hx : a.eval x = .slice (some ⟨b, 0, none⟩) 1 k1)
    (h : OwnRow w base e m v L) (hn : L.length ≤ 1000000) (c : List Value) (hc : c.length = m) (h1 : ∀ u ∈ c, u.oneCell' = true) (hb : At w b c.toArray e) (hbase : base ≤ w.heap.size)
    (hK : ∀ a' k' c' w', AppR w w' base e m L c v (.slice a' k' c') → wpList prog ops Q rest (a.put o.dst (.slice a' k' c')) w') : wpList prog ops Q (o :: rest) a w := by
  obtain ⟨a', k', c', w', hr, hA⟩ := run_appendR (ty := o.type) T w base b L v h hn c hc h1 hb k1 hbase
  refine wpList_plain hgd fun K' hK' => ?_
  unfold Oper.wp execOp
  simp only [ho, resolve, invoke, builtin, Sem.run_bind, Sem.run_pure, Result.andThen_ok, List.map_toArray, List.map_cons, List.map_nil, hs, hx, hr]
  exact hK' _ _ (hK _ _ _ _ hA)
/-- One aggregate laid into a row of its own. -/
theorem haltR {ops : Array Oper} {rest : List Oper} {d : Option Tmp} {ts t : TypeId} {p : String} {f : Array Edge} {g : Option (Nat × Bool)} {x : Operand} {a : Act} {w : World} {Q : Exit → Act → World → Prop} (h : Halt (wpList prog ops Q (⟨d, Op.buildSlice ts 1 #[(0, x)], t, p, f, g⟩ :: rest) a w)) : wpList prog ops Q (⟨d, Op.buildSlice ts 1 #[(0, x)], t, p, f, g⟩ :: rest) a w := h
theorem wpList_sliceR {ts e : TypeId} {cs : Array Value} (hrun : ∀ w : World, (Instr.buildSlice ts 1 #[(0, .agg cs)]).run prog w = .ok (.slice (some ⟨w.heap.size, 0, none⟩) 1 1) (w.alloc (.cells cs e))) (w : World) {ops : Array Oper} {rest : List Oper} {o : Oper} {a : Act} {Q : Exit → Act → World → Prop} (hgd : o.guard = none) (x : Operand) (ho : o.op = .buildSlice ts 1 #[(0, x)])
    (hx : a.eval x = .agg cs) (h : wpList prog ops Q rest (a.put o.dst (.slice (some ⟨w.heap.size, 0, none⟩) 1 1)) (w.alloc (.cells cs e))) : wpList prog ops Q (o :: rest) a w := by
  refine wpList_plain hgd fun K' hK' => ?_
  unfold Oper.wp execOp
  simp only [ho, List.map_toArray, List.map_cons, List.map_nil, hx, Sem.run_bind, hrun, Result.andThen_ok, Sem.run_pure]
  exact hK' _ _ h
end Go.Proofs.Tryz

namespace Go.Proofs.Tryz
open Go Go.Am Go.ChangeShapes Go.WideShapes Go.ChangeAt Go.RowKit
set_option maxRecDepth 100000

/-- A line of a game. -/
structure LnD where
  p : List UInt8
  t : List UInt8
  c : Nat → Int
def ints (n : Nat) (c : Nat → Int) : List Value := (List.range n).map fun i => .int .i64 (c i)
theorem ints_len (n : Nat) (c : Nat → Int) : (ints n c).length = n := by simp [ints]
theorem ints_get {n i : Nat} {c : Nat → Int} (h : i < n) : (ints n c)[i]? = some (.int .i64 (c i)) := by simp [ints, h]
def LnD.cells (x : LnD) : List Value := .string (bA x.p) :: .string (bA x.t) :: ints 12 x.c
theorem LnD.len (x : LnD) : x.cells.length = 14 := by simp [LnD.cells, ints_len]
/-- A game. -/
structure GmD where
  nm : List UInt8
  ver : Int
  day : Int
  t0 : List UInt8
  t1 : List UInt8
  s0 : Int
  s1 : Int
  l : Nat → LnD
  k : Nat
def GmD.cells (g : GmD) (lv : Value) : List Value := [.string (bA g.nm), .int .i64 g.ver, .int .i64 g.day, .string (bA g.t0), .string (bA g.t1), .int .i64 g.s0, .int .i64 g.s1, lv]
theorem GmD.len (g : GmD) (lv : Value) : (g.cells lv).length = 8 := rfl
def IsLines (w : World) (v : Value) (l : Nat → LnD) (k : Nat) : Prop := Row w v 14 k fun i => (l i).cells
def IsGames (w : World) (v : Value) (g : Nat → GmD) (n : Nat) : Prop := ∃ lv : Nat → Value, Row w v 8 n (fun i => (g i).cells (lv i)) ∧ ∀ i, i < n → IsLines w (lv i) (g i).l (g i).k
theorem IsLines.below {w W : World} {v : Value} {l : Nat → LnD} {k : Nat} (h : IsLines w v l k) (hb : Below w.heap.size w W) : IsLines W v l k := Row.below h hb
theorem IsGames.below {w W : World} {v : Value} {g : Nat → GmD} {n : Nat} (h : IsGames w v g n) (hb : Below w.heap.size w W) : IsGames W v g n :=
  let ⟨lv, h1, h2⟩ := h; ⟨lv, h1.below hb, fun i hi => (h2 i hi).below hb⟩
theorem IsLines.at {w : World} {v : Value} {l : Nat → LnD} {k i : Nat} (h : IsLines w v l k) (hi : i < k) : ∃ b off c, v = .slice (some ⟨b, off, none⟩) k c ∧ k ≤ c ∧ w.cell? ⟨b, off + i * 14, none⟩ = some (.string (bA (l i).p)) ∧ w.cell? ⟨b, off + i * 14 + 1, none⟩ = some (.string (bA (l i).t)) ∧ ∀ j, j < 12 → w.cell? ⟨b, off + i * 14 + (2 + j), none⟩ = some (.int .i64 ((l i).c j)) := by
  obtain ⟨b, off, c, e, h1, h2⟩ := Row.at h hi
  refine ⟨b, off, c, e, h1, h2 0 _ rfl, h2 1 _ rfl, fun j hj => h2 (2 + j) _ ?_⟩
  rw [Nat.add_comm]
  exact ints_get hj
theorem IsGames.at {w : World} {v : Value} {g : Nat → GmD} {n i : Nat} (h : IsGames w v g n) (hi : i < n) : ∃ b off c ad kc, v = .slice (some ⟨b, off, none⟩) n c ∧ n ≤ c ∧ IsLines w (.slice ad (g i).k kc) (g i).l (g i).k ∧ w.cell? ⟨b, off + i * 8, none⟩ = some (.string (bA (g i).nm)) ∧ w.cell? ⟨b, off + i * 8 + 1, none⟩ = some (.int .i64 (g i).ver) ∧
    w.cell? ⟨b, off + i * 8 + 2, none⟩ = some (.int .i64 (g i).day) ∧ w.cell? ⟨b, off + i * 8 + 3, none⟩ = some (.string (bA (g i).t0)) ∧ w.cell? ⟨b, off + i * 8 + 4, none⟩ = some (.string (bA (g i).t1)) ∧ w.cell? ⟨b, off + i * 8 + 5, none⟩ = some (.int .i64 (g i).s0) ∧ w.cell? ⟨b, off + i * 8 + 6, none⟩ = some (.int .i64 (g i).s1) ∧ w.cell? ⟨b, off + i * 8 + 7, none⟩ = some (.slice ad (g i).k kc) := by
  obtain ⟨lv, h1, h2⟩ := h
  obtain ⟨b, off, c, e, h3, h4⟩ := h1.at hi
  have h5 := h2 i hi
  obtain ⟨ad, kc, e2, -⟩ := Row.slice h5
  rw [e2] at h5 h4
  exact ⟨b, off, c, ad, kc, e, h3, h5, h4 0 _ rfl, h4 1 _ rfl, h4 2 _ rfl, h4 3 _ rfl, h4 4 _ rfl, h4 5 _ rfl, h4 6 _ rfl, h4 7 _ rfl⟩

/-! ### opened -/
theorem field_at {fs : Array Field} {l : List (TypeId × Nat)} (h : (fs.toList.map fun f => (f.type, f.offset)) = l) {i : Nat} {t o : Nat} (hi : l[i]? = some (t, o)) : ∃ f, fs[i]? = some f ∧ f.type = t ∧ f.offset = o := by
  rw [← h, List.getElem?_map, Option.map_eq_some_iff] at hi
  obtain ⟨f, h1, h2⟩ := hi
  simp only [Prod.mk.injEq] at h2
  exact ⟨f, by simpa using h1, h2.1, h2.2⟩
theorem spot_none {w : World} {a : Addr} {v : Value} (h : w.cell? a = some v) : a = ⟨a.block, a.off, none⟩ := by
  unfold World.cell? at h
  split at h
  · cases hs : a.spot with
    | none => obtain ⟨b, o, s⟩ := a; simp only at hs; subst hs; rfl
    | some x => rw [hs] at h; simp at h
  · cases h
section
variable {H : Type} {enc : TypeId × Value → H} {w : World} {base : Nat} {spare : Nat → Bool} {held : Bool}
/-- An array of n integers, as it lies. -/
theorem arr_int {fuel t e n : Nat} {cs : List Value} {x : DataW H × List MemPlace} (ht : prog.underlying t = some (.array n e)) (he : prog.underlying e = some (.int .i64)) (hc : prog.cellsOf e = 1) (hct : prog.cellsOf t = n) (h : DataW.trod enc prog w base spare held fuel t cs = some x) : ∃ f : Nat → Int, cs = ints n f := by
  obtain ⟨xs, m, _, _, hl, hn, hel⟩ := DataW.trod_array ht h
  rw [hct] at hl
  refine ⟨fun i => match cs[i]? with | some (.int _ z) => z | _ => 0, List.ext_getElem? fun i => ?_⟩
  by_cases hi : i < n
  · have h1 := hel i hi
    rw [hc, Nat.mul_one, List.getElem?_eq_getElem (by omega)] at h1
    obtain ⟨z, e1, -⟩ := DataW.trod_int he h1
    have e2 := congrArg (fun l => l[0]?) e1
    simp only [List.getElem?_take, List.getElem?_drop, List.getElem?_cons_zero] at e2
    simp at e2
    rw [ints_get hi, e2]
  · rw [List.getElem?_eq_none (by omega), List.getElem?_eq_none (by rw [ints_len]; omega)]
/-- An array of two strings, as it lies. -/
theorem arr_str2 {fuel t e : Nat} {cs : List Value} {x : DataW H × List MemPlace} (ht : prog.underlying t = some (.array 2 e)) (he : prog.underlying e = some .string) (hc : prog.cellsOf e = 1) (hct : prog.cellsOf t = 2) (h : DataW.trod enc prog w base spare held fuel t cs = some x) : ∃ a b : List UInt8, cs = [.string (bA a), .string (bA b)] := by
  obtain ⟨xs, m, _, _, hl, hn, hel⟩ := DataW.trod_array ht h
  rw [hct] at hl
  match cs, hl with
  | [v0, v1], _ =>
    have h0 := hel 0 (by omega)
    have h1 := hel 1 (by omega)
    rw [hc, List.getElem?_eq_getElem (by omega)] at h0 h1
    obtain ⟨s0, e0, -⟩ := DataW.trod_string he h0
    obtain ⟨s1, e1, -⟩ := DataW.trod_string he h1
    simp at e0 e1
    subst e0 e1
    exact ⟨s0.data.toList, s1.data.toList, by rw [bA_data, bA_data]⟩
/-- A slice of whatever elements. -/
theorem row_open {fuel t e m : Nat} {v : Value} {x : DataW H × List MemPlace} (ht : prog.underlying t = some (.slice e)) (hc : prog.cellsOf e = m) (hm : 0 < m) {D : Type} (d0 : D) (C : D → List Value → Prop) (hlen : ∀ d cs, C d cs → cs.length = m)
    (ho : ∀ {fuel : Nat} {cs : List Value} {x : DataW H × List MemPlace}, DataW.trod enc prog w base spare held fuel e cs = some x → ∃ d, C d cs) (h : DataW.trod enc prog w base spare held fuel t [v] = some x) :
    ∃ (n : Nat) (d : Nat → D) (f : Nat → List Value), Row w v m n f ∧ ∀ i, i < n → C (d i) (f i) := by
  rcases DataW.trod_slice ht h with ⟨h1, _⟩ | ⟨a, len, cap, elems, rest, q, _, h1, _, _, hlc, _, hle, hel, _⟩
  · simp only [List.cons.injEq, and_true] at h1
    subst h1
    exact ⟨0, fun _ => d0, fun _ => [], Row.nil _ _ _, fun i hi => absurd hi (Nat.not_lt_zero _)⟩
  · simp only [List.cons.injEq, and_true] at h1
    subst h1
    have each : ∀ i, i < len → ∃ (d : D) (cs : List Value), C d cs ∧ ∀ j u, cs[j]? = some u → w.cell? ((a.add (i * m)).add j) = some u := fun i hi => by
      have h3 := hel i hi
      rw [hc, List.getElem?_eq_getElem (by omega), Option.bind_eq_some_iff] at h3
      obtain ⟨cs, hcs, h4⟩ := h3
      obtain ⟨d, hd⟩ := ho h4
      have hh := (World.cells?_some hcs).2.2
      refine ⟨d, cs, hd, fun j u hu => ?_⟩
      have hj := (List.getElem?_eq_some_iff.1 hu).1
      rw [hlen d cs hd] at hj
      rw [hh j hj, hu]
    refine ⟨len, fun i => if h : i < len then (each i h).choose else d0, fun i => if h : i < len then (each i h).choose_spec.choose else [], ⟨some a, cap, rfl, hlc, fun h0 => ?_⟩, fun i hi => ?_⟩
    · have ha : a = ⟨a.block, a.off, none⟩ := by
        obtain ⟨h4, h5⟩ := (each 0 (by omega)).choose_spec.choose_spec
        have hl := hlen _ _ h4
        have := spot_none (h5 0 _ (List.getElem?_eq_getElem (by omega)))
        simpa [Addr.add] using this
      refine ⟨a.block, a.off, by rw [← ha], fun i hi j u hu => ?_⟩
      simp only [dif_pos hi] at hu
      have := (each i hi).choose_spec.choose_spec.2 j u hu
      rw [ha, add_adr, add_adr] at this
      exact this
    · simp only [dif_pos hi]
      exact (each i hi).choose_spec.choose_spec.1
end
end Go.Proofs.Tryz
