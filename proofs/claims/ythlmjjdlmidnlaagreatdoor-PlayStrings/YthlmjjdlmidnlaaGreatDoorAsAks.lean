/- Rows of moves that are built one by one. A move appended onto a row of moves that is built: one law for all places. Comparisons of rows and moves: whatever they hold, by the kit's walk. Two rows of moves, two plays, compared: by the kit's walk. canonical of the program, its sizes being right: by the kit's walk. SamePlay of the reference; Canonical and Equal of the program: by the kit's walk. SamePlay and Equal in full. A row of moves is the same as itself. -/
import Derived.Test.YthlmjjdlmidnlaaGreatDoorArWes
import Derived.OwnWalkIn
import Derived.Test.YthlmjjdlmidnlaaGreatDoorArVfs
import Derived.Deep.RegionHeld3
import Derived.Deep.RegionWith
import Derived.Deep.DeepCutAuto
import Derived.BigRegion
import Derived.Deep.QuietTactic
import Derived.BigQuiet
namespace Go.Proofs.Tryz
open Go Go.Am Go.RowKit Go.Dr
set_option maxRecDepth 100000

theorem F2.snocL {α β : Type} {R : α → β → Prop} {l : List α} {m : List β} (h : F2 R l m) {a : α} {b : β} (hab : R a b) : F2 R (l ++ [a]) (m ++ [b]) := by
  induction h with
  | nil => exact .cons hab .nil
  | cons h _ ih => exact .cons h ih
theorem M5Own.atL {w : World} {base b : Nat} {c : M5} {m : MvD} {cs : Array Value} {e : TypeId} (h : M5Own w base c m) (ha : At w b cs e) (he : e ≠ 3) (o : Nat) (u : Value) : M5Own (w.setCell ⟨b, o, none⟩ u) base c m := by
  refine ⟨h.1, h.2.1, h.2.2.1, h.2.2.2.1, ownsRow_setCell_other h.2.2.2.2.1 (fun q => ?_) u, h.2.2.2.2.2⟩
  obtain ⟨cs', fz, hc⟩ := Lib.ownsRow_kind h.2.2.2.2.1 _ q
  unfold At at ha
  rw [ha] at hc
  simp only [Option.some.injEq, Obj.cells.injEq] at hc
  exact he hc.2.1
theorem M5Own.grownL {w w' : World} {base base2 k : Nat} {c : M5} {m : MvD} {v : Value} {xs : List Value} (h : M5Own w base c m) (hv : w.ownsRow base2 27 5 v k xs) (hg : w.grownBy w' v.ownBlock) : M5Own w' base c m :=
  ⟨h.1, h.2.1, h.2.2.1, h.2.2.2.1, h.2.2.2.2.1.kept hg (kinds_ne h.2.2.2.2.1 hv (by decide)), h.2.2.2.2.2⟩
/-- The moves built so far. -/
def LsR (wr : World) (base : Nat) (l : List MvD) (v : Value) : Prop := ∃ lk, wr.ownsRow base 27 5 v lk.length (flat lk) ∧ F2 (M5Own wr base) lk l
theorem LsR.start (wr : World) (base : Nat) : LsR wr base [] (.slice none 0 0) := ⟨[], World.ownsRow_nil _ _ _ _, .nil⟩
theorem LsR.below {w W : World} {base : Nat} {l : List MvD} {v : Value} (h : LsR w base l v) (hb : Below w.heap.size w W) : LsR W base l v :=
  let ⟨lk, h1, h2⟩ := h; ⟨lk, owns_below h1 hb, h2.imp fun _ _ o => o.below hb⟩
theorem LsR.slice {w : World} {base : Nat} {l : List MvD} {v : Value} (h : LsR w base l v) : ∃ a k c, v = .slice a k c := let ⟨_, h1, _⟩ := h; owns_slice h1
theorem LsR.set {w : World} {base : Nat} {l : List MvD} {v : Value} (h : LsR w base l v) {b : Nat} (hb : b < base) (o : Nat) (u : Value) : LsR (w.setCell ⟨b, o, none⟩ u) base l v :=
  let ⟨lk, h1, h2⟩ := h
  ⟨lk, ownsRow_setCell_below h1 (by exact hb) u, h2.imp fun _ _ o' => ⟨o'.1, o'.2.1, o'.2.2.1, o'.2.2.2.1, ownsRow_setCell_below o'.2.2.2.2.1 (by exact hb) u, o'.2.2.2.2.2⟩⟩
theorem LsR.setM {w : World} {base : Nat} {l : List MvD} {v : Value} (h : LsR w base l v) {b : Nat} {cs : Array Value} (ha : At w b cs 27) (hv : v.ownBlock ≠ some b) (o : Nat) (u : Value) : LsR (w.setCell ⟨b, o, none⟩ u) base l v :=
  let ⟨lk, h1, h2⟩ := h
  ⟨lk, ownsRow_setCell_other h1 hv u, h2.imp fun _ _ o' => o'.atL ha (by decide) _ _⟩
theorem LsR.more {w w' : World} {base m : Nat} {l : List MvD} {v v' : Value} {lk : List M5} {x : MvD} (h1 : w.ownsRow base 27 5 v m (flat lk)) (h2 : F2 (M5Own w base) lk l) {c : M5} (hc : M5Own w base c x)
    (hg : w.grownBy w' v.ownBlock) (ho : w'.ownsRow base 27 5 v' (m + 1) (flat lk ++ c.vals)) : LsR w' base (l ++ [x]) v' := by
  have hm : m = lk.length := by have := h1.1; rw [length_flat] at this; omega
  subst hm
  refine ⟨lk ++ [c], ?_, (h2.imp fun _ _ o => o.grownL h1 hg).snocL (hc.grownL h1 hg)⟩
  have e : flat (lk ++ [c]) = flat lk ++ c.vals := by rw [flat_append]; simp [flat]
  rw [List.length_append, e]; exact ho
theorem LsR.row {w : World} {base : Nat} {l : List MvD} {v : Value} (h : LsR w base l v) : IsMoves w v (dOf l) l.length := by
  obtain ⟨lk, h1, h2⟩ := h
  exact (moves_flat h1 (h2.imp fun _ _ o => o.ok)).2
theorem LsR.count {w : World} {base k c : Nat} {l : List MvD} {a : Option Addr} (h : LsR w base l (.slice a k c)) : k = l.length := by
  obtain ⟨a', c', e, -⟩ := h.row
  simp only [Value.slice.injEq] at e
  exact e.2.1
end Go.Proofs.Tryz

namespace Go.Proofs.Tryz
open Go Go.Am Go.RowKit Go.Dr
set_option maxRecDepth 100000

theorem LsR.lt {w : World} {base : Nat} {l : List MvD} {v : Value} (h : LsR w base l v) : ∀ q, v.ownBlock = some q → base ≤ q ∧ q < w.heap.size := let ⟨_, h1, _⟩ := h; h1.lt
theorem M5Own.le {w : World} {base base' : Nat} {c : M5} {m : MvD} (h : M5Own w base c m) (hb : base' ≤ base) : M5Own w base' c m :=
  ⟨h.1, h.2.1, h.2.2.1, h.2.2.2.1, ⟨h.2.2.2.2.1.1, h.2.2.2.2.1.2.imp id fun ⟨g, cap, cur, e, hbg, r⟩ => ⟨g, cap, cur, e, Nat.le_trans hb hbg, r⟩⟩, h.2.2.2.2.2⟩
/-- What the append of one move leaves. -/
structure AppM (w w' : World) (base : Nat) (L : List MvD) (c : M5) (v u : Value) : Prop where
  row : ∀ m, M5Own w base c m → LsR w' base (L ++ [m]) u
  size : w.heap.size ≤ w'.heap.size
  old : ∀ q, q < base → q < w.heap.size → w'.heap[q]? = w.heap[q]?
  new : ∀ q, v.ownBlock ≠ some q → q < w.heap.size → w'.heap[q]? = w.heap[q]?
  below : ∀ w0 : World, Below w0.heap.size w0 w → w0.heap.size ≤ base → Below w0.heap.size w0 w'
  grown : ∃ k xs, w.ownsRow base 27 5 v k xs ∧ w.grownBy w' v.ownBlock
/-- The cells of a move. -/
def M5.arr (c : M5) : Array Value := #[.int .i64 c.f1, .int .i64 c.f2, .bool c.xb, .string c.s, .slice c.a c.k c.c]
theorem run_appendM (w : World) (base b : Nat) (ty : TypeId) (L : List MvD) (v : Value) (h : LsR w base L v) (hn : L.length ≤ 1000000) (c : M5) (hb : At w b c.arr 27) (k1 : Nat) (hbase : base ≤ w.heap.size) :
    ∃ a' k' c' w', (Builtin.append_ #[22, 22] ty #[v, .slice (some ⟨b, 0, none⟩) 1 k1]).run prog w = .ok (.slice a' k' c') w' ∧ AppM w w' base L c v (.slice a' k' c') := by
  obtain ⟨i27, hi, hz0, hz1, hz2⟩ := info_more info27
  have zz : ((.agg #[.int .i64 0, .int .i64 0, .bool false, .string ⟨#[]⟩, .slice none 0 0] : Value)).cells.size = 5 := rfl
  have hl := h.lt
  obtain ⟨lk, h1, h2⟩ := h
  have hlen := h2.len
  obtain ⟨v', w', hr, ho, hg, -⟩ := run_append_own (P := prog) w base 22 ty 27 i27 _ 5 64 underlying22 hi hz0 hz1 hz2 zz (by decide) v lk.length (flat lk) h1 ⟨b, 0, none⟩ 1 k1 c.vals rfl (fun j u hj => by
      rw [add_adr, Nat.zero_add]
      unfold At at hb
      unfold World.cell?
      rw [hb]
      simpa [M5.arr, M5.vals] using hj) (fun u hu => by
      simp only [M5.vals, List.mem_cons, List.not_mem_nil, or_false] at hu
      rcases hu with rfl | rfl | rfl | rfl | rfl <;> rfl) (by unfold maxLen; omega) (by omega) hbase
  obtain ⟨a9, k9, c9, rfl⟩ := owns_slice ho
  exact ⟨a9, k9, c9, w', hr, fun m hm => LsR.more h1 h2 hm hg ho, hg.size, fun q hq hq2 => hg.block q hq2 (fun e => by have := (hl _ e.symm).1; omega), fun q hq hq2 => hg.block q hq2 (fun e => hq e.symm),
    fun w0 h0 hw0 => h0.grown hg h0.size (fun q hq => by have := (hl q hq).1; omega), ⟨_, _, h1, hg⟩⟩

theorem wpList_appendM (w : World) {ops : Array Oper} {rest : List Oper} {o : Oper} {a : Act} {Q : Exit → Act → World → Prop} (hgd : o.guard = none) (s x : Operand)
    (ho : o.op = .call { callee := .builtin .append, args := #[s, x], argTypes := #[22, 22] }) (base b : Nat) (L : List MvD) (v : Value) (hs : a.eval s = v) (k1 : Nat) (hx : a.eval x = .slice (some ⟨b, 0, none⟩) 1 k1)
    (h : LsR w base L v) (hn : L.length ≤ 1000000) (c : M5) (hb : At w b c.arr 27) (hbase : base ≤ w.heap.size)
    (hK : ∀ a' k' c' w', AppM w w' base L c v (.slice a' k' c') → wpList prog ops Q rest (a.put o.dst (.slice a' k' c')) w') : wpList prog ops Q (o :: rest) a w := by
  obtain ⟨a', k', c', w', hr, hA⟩ := run_appendM w base b o.type L v h hn c hb k1 hbase
  refine wpList_plain hgd fun K' hK' => ?_
  unfold Oper.wp execOp
  simp only [ho, resolve, invoke, builtin, Sem.run_bind, Sem.run_pure, Result.andThen_ok, List.map_toArray, List.map_cons, List.map_nil, hs, hx, hr]
  exact hK' _ _ (hK _ _ _ _ hA)

theorem wpListIn_appendM {F : Fence} {n : Nat} (w : World) {ops : Array Oper} {rest : List Oper} {o : Oper} {a : Act} {Q : Exit → Act → World → Prop} (hgd : o.guard = none) (s x : Operand)
    (ho : o.op = .call { callee := .builtin .append, args := #[s, x], argTypes := #[22, 22] }) (base b : Nat) (L : List MvD) (v : Value) (hs : a.eval s = v) (k1 : Nat) (hx : a.eval x = .slice (some ⟨b, 0, none⟩) 1 k1)
    (h : LsR w base L v) (hn : L.length ≤ 1000000) (c : M5) (hb : At w b c.arr 27) (hbase : base ≤ w.heap.size)
    (hK : ∀ a' k' c' w', AppM w w' base L c v (.slice a' k' c') → wpListIn F n prog ops Q rest (a.put o.dst (.slice a' k' c')) w') : wpListIn F n prog ops Q (o :: rest) a w := by
  obtain ⟨a', k', c', w', hr, hA⟩ := run_appendM w base b o.type L v h hn c hb k1 hbase
  refine wpListIn_plain hgd fun K' hK' => ?_
  unfold Oper.wpIn
  refine ⟨?_, ?_⟩
  · simp [Oper.about, ho, resolve, Target.leads, Sem.run_pure]
  · rw [Oper.semAt_plain F _ _ (by rw [ho]; intro c hc'; cases hc')]
    simp [execOp, ho, resolve, invoke, builtin, hs, hx, hr, Result.andThen]
    exact hK' _ _ (hK _ _ _ _ hA)
/-- One move laid into a row of its own. -/
theorem run_sliceM (w : World) (f1 f2 : Int) (xb : Bool) (s : ByteArray) (a : Option Addr) (k c : Nat) : (Instr.buildSlice 22 1 #[(0, .agg #[.int .i64 f1, .int .i64 f2, .bool xb, .string s, .slice a k c])]).run prog w = .ok (.slice (some ⟨w.heap.size, 0, none⟩) 1 1) (w.alloc (.cells #[.int .i64 f1, .int .i64 f2, .bool xb, .string s, .slice a k c] 27)) := by
  simp [go_sem]
/-- A halt of the walk. -/
def Halt (p : Prop) : Prop := p
theorem haltM {ops : Array Oper} {rest : List Oper} {d : Option Tmp} {t : TypeId} {p : String} {f : Array Edge} {g : Option (Nat × Bool)} {x : Operand} {a : Act} {w : World} {Q : Exit → Act → World → Prop} (h : Halt (wpList prog ops Q (⟨d, Op.buildSlice 22 1 #[(0, x)], t, p, f, g⟩ :: rest) a w)) : wpList prog ops Q (⟨d, Op.buildSlice 22 1 #[(0, x)], t, p, f, g⟩ :: rest) a w := h
theorem haltM_in {F : Fence} {n : Nat} {ops : Array Oper} {rest : List Oper} {d : Option Tmp} {t : TypeId} {p : String} {f : Array Edge} {g : Option (Nat × Bool)} {x : Operand} {a : Act} {w : World} {Q : Exit → Act → World → Prop} (h : Halt (wpListIn F n prog ops Q (⟨d, Op.buildSlice 22 1 #[(0, x)], t, p, f, g⟩ :: rest) a w)) : wpListIn F n prog ops Q (⟨d, Op.buildSlice 22 1 #[(0, x)], t, p, f, g⟩ :: rest) a w := h
theorem halt_at {ops : Array Oper} {rest : List Oper} {d : Option Tmp} {t : TypeId} {p : String} {f : Array Edge} {g : Option (Nat × Bool)} {x : Operand} {a : Act} {w : World} {Q : Exit → Act → World → Prop} (h : Halt (wpList prog ops Q (⟨d, Op.fieldAddr 24 x 3, t, p, f, g⟩ :: rest) a w)) : wpList prog ops Q (⟨d, Op.fieldAddr 24 x 3, t, p, f, g⟩ :: rest) a w := h
theorem halt_in {F : Fence} {n : Nat} {ops : Array Oper} {rest : List Oper} {d : Option Tmp} {t : TypeId} {p : String} {f : Array Edge} {g : Option (Nat × Bool)} {x : Operand} {a : Act} {w : World} {Q : Exit → Act → World → Prop} (h : Halt (wpListIn F n prog ops Q (⟨d, Op.fieldAddr 24 x 3, t, p, f, g⟩ :: rest) a w)) : wpListIn F n prog ops Q (⟨d, Op.fieldAddr 24 x 3, t, p, f, g⟩ :: rest) a w := h
theorem wpList_sliceM (w : World) {ops : Array Oper} {rest : List Oper} {o : Oper} {a : Act} {Q : Exit → Act → World → Prop} (hgd : o.guard = none) (x : Operand) (ho : o.op = .buildSlice 22 1 #[(0, x)]) (f1 f2 : Int) (xb : Bool) (s : ByteArray) (ad : Option Addr) (k c : Nat)
    (hx : a.eval x = .agg #[.int .i64 f1, .int .i64 f2, .bool xb, .string s, .slice ad k c])
    (h : wpList prog ops Q rest (a.put o.dst (.slice (some ⟨w.heap.size, 0, none⟩) 1 1)) (w.alloc (.cells #[.int .i64 f1, .int .i64 f2, .bool xb, .string s, .slice ad k c] 27))) : wpList prog ops Q (o :: rest) a w := by
  refine wpList_plain hgd fun K' hK' => ?_
  unfold Oper.wp execOp
  simp only [ho, List.map_toArray, List.map_cons, List.map_nil, hx, Sem.run_bind, run_sliceM, Result.andThen_ok, Sem.run_pure]
  exact hK' _ _ h
theorem wpListIn_sliceM {F : Fence} {n : Nat} (w : World) {ops : Array Oper} {rest : List Oper} {o : Oper} {a : Act} {Q : Exit → Act → World → Prop} (hgd : o.guard = none) (x : Operand) (ho : o.op = .buildSlice 22 1 #[(0, x)]) (f1 f2 : Int) (xb : Bool) (s : ByteArray) (ad : Option Addr) (k c : Nat)
    (hx : a.eval x = .agg #[.int .i64 f1, .int .i64 f2, .bool xb, .string s, .slice ad k c])
    (h : wpListIn F n prog ops Q rest (a.put o.dst (.slice (some ⟨w.heap.size, 0, none⟩) 1 1)) (w.alloc (.cells #[.int .i64 f1, .int .i64 f2, .bool xb, .string s, .slice ad k c] 27))) : wpListIn F n prog ops Q (o :: rest) a w := by
  refine wpListIn_plain hgd fun K' hK' => ?_
  unfold Oper.wpIn
  refine ⟨?_, ?_⟩
  · simp [Oper.about, ho]
  · rw [Oper.semAt_plain F _ _ (by rw [ho]; intro c hc'; cases hc')]
    simp only [execOp, ho, List.map_toArray, List.map_cons, List.map_nil, hx, Sem.run_bind, run_sliceM, Result.andThen_ok, Sem.run_pure]
    exact hK' _ _ h
end Go.Proofs.Tryz

namespace Go.Proofs.Tryz
open Go Go.Am Go.RowKit Go.Dr
set_option maxRecDepth 100000

theorem intsL_eq {t t' : Int → Int} {o o' : Int} {m : Nat} : (intsL t o m == intsL t' o' m) = true ↔ ∀ j : Nat, j < m → t (o + j) = t' (o' + j) := by
  rw [beq_iff_eq]
  constructor
  · intro h j hj
    have := congrArg (fun l => l[j]?) h
    simp only [intsL_get hj, Option.some.injEq] at this
    exact this
  · intro h
    apply List.ext_getElem?
    intro j
    by_cases hj : j < m
    · rw [intsL_get hj, intsL_get hj, h j hj]
    · rw [List.getElem?_eq_none (by rw [length_intsL]; omega), List.getElem?_eq_none (by rw [length_intsL]; omega)]
theorem intsL_ne {t t' : Int → Int} {o o' : Int} {m j : Nat} (hj : j < m) (h : t (o + j) ≠ t' (o' + j)) : (intsL t o m == intsL t' o' m) = false := by
  cases hq : intsL t o m == intsL t' o' m with
  | false => rfl
  | true => exact absurd (intsL_eq.1 hq j hj) h
theorem intsL_len {t t' : Int → Int} {o o' : Int} {m m' : Nat} (h : m ≠ m') : (intsL t o m == intsL t' o' m') = false := by
  cases hq : intsL t o m == intsL t' o' m' with
  | false => rfl
  | true =>
    have := congrArg List.length (beq_iff_eq.1 hq)
    rw [length_intsL, length_intsL] at this
    exact absurd this h

/-- Two moves' cells, compared; the touches' answer last. -/
def sameB (a b : M5) (r : Bool) : Bool := decide (a.f1 = b.f1) && decide (a.f2 = b.f2) && (a.xb == b.xb) && (a.s.toList == b.s.toList) && r

theorem same66_len (a1 a2 : Option Addr) (n m c1 c2 : Nat) (hne : n ≠ m) (w : World) : Calls prog 66 #[.slice a1 n c1, .slice a2 m c2] w fun e w' => e = .returned (.bool false) ∧ Below w.heap.size w w' := by
  have hne' : (n : Int) ≠ (m : Int) := by omega
  go_enter func66, ntmps66
  go_wp2
  go_ret
  exact ⟨rfl, Below.refl _ _⟩
theorem same66_0 (a1 a2 : Option Addr) (c1 c2 : Nat) (w : World) : Calls prog 66 #[.slice a1 0 c1, .slice a2 0 c2] w fun e w' => e = .returned (.bool true) ∧ Below w.heap.size w w' := by
  go_enter func66, ntmps66
  go_wp2
  refine wp_loop_rounds 1 ?_
  rw [rounds_succ]
  go_wp2
  go_ret
  exact ⟨rfl, Below.refl _ _⟩
theorem same66_some (b1 o1 b2 o2 m c1 c2 : Nat) (t t' : Int → Int) (o o' : Int) (w : World) (hm : m ≤ 1000000) (h1 : ∀ j, j < m → w.cell? ⟨b1, o1 + j, none⟩ = some (.int .i64 (t (o + (j : Int))))) (h2 : ∀ j, j < m → w.cell? ⟨b2, o2 + j, none⟩ = some (.int .i64 (t' (o' + (j : Int))))) :
    Calls prog 66 #[.slice (some ⟨b1, o1, none⟩) m c1, .slice (some ⟨b2, o2, none⟩) m c2] w fun e w' => e = .returned (.bool (intsL t o m == intsL t' o' m)) ∧ Below w.heap.size w w' := by
  obtain ⟨r, hr⟩ : ∃ r, (intsL t o m == intsL t' o' m) = r := ⟨_, rfl⟩
  have HR : Hid ((intsL t o m == intsL t' o' m) = r) := Lib.hid hr
  rw [hr]
  clear hr
  go_enter func66, ntmps66
  go_wp2
  go_loopw [5] (fun c wr => ∃ k : Nat, k ≤ m ∧ c = .int .i64 k ∧ (∀ j : Nat, j < k → t (o + j) = t' (o' + j)) ∧ Below w.heap.size w wr) (fun c _ => m - (numOf' c).toNat)
  case atStart => exact ⟨0, Nat.zero_le _, rfl, fun j hj => absurd hj (Nat.not_lt_zero _), Below.refl _ _⟩
  case round =>
    obtain ⟨k, hk, rfl, hall, hbel⟩ := hrel
    by_cases hlt : k < m
    · have e1 : wr.cell? ⟨b1, o1 + k, none⟩ = some (.int .i64 (t (o + (k : Int)))) := (hbel.cell (cell_under (h1 k hlt))).trans (h1 k hlt)
      have e2 : wr.cell? ⟨b2, o2 + k, none⟩ = some (.int .i64 (t' (o' + (k : Int)))) := (hbel.cell (cell_under (h2 k hlt))).trans (h2 k hlt)
      clear h1 h2
      by_cases hx : t (o + (k : Int)) = t' (o' + (k : Int))
      · have hall' : Hid (∀ j : Nat, j < k + 1 → t (o + j) = t' (o' + j)) := Lib.hid fun j hj => by
          by_cases e : j = k
          · subst e; exact hx
          · exact hall j (by omega)
        obtain ⟨z, hz⟩ : ∃ z, t' (o' + (k : Int)) = z := ⟨_, rfl⟩
        rw [hx, hz] at e1
        rw [hz] at e2
        clear hall hx hz
        go_wp2
        go_region
        go_wp2
        go_roundw
        case rel => exact ⟨k + 1, by omega, by go_num, hall'.out, hbel.drew⟩
        case measure => simp [numOf'] <;> omega
      · have hf : r = false := by rw [← HR.out]; exact intsL_ne hlt hx
        subst hf
        obtain ⟨z, hz⟩ : ∃ z, t (o + (k : Int)) = z := ⟨_, rfl⟩
        obtain ⟨z', hz'⟩ : ∃ z, t' (o' + (k : Int)) = z := ⟨_, rfl⟩
        rw [hz] at e1 hx
        rw [hz'] at e2 hx
        clear hall hz hz'
        go_wp2
        go_region
        go_wp2
        go_ret
        exact ⟨rfl, hbel.drew⟩
    · obtain rfl : k = m := by omega
      have ht : r = true := by rw [← HR.out]; exact intsL_eq.2 hall
      subst ht
      clear hall h1 h2
      go_wp2
      go_ret
      exact ⟨rfl, hbel⟩
theorem same66_any {a b : Value} {t t' : Int → Int} {o o' n n' : Int} {w : World} (h1 : IsInts w a t o n) (h2 : IsInts w b t' o' n') (hn : n ≤ 1000000) : Calls prog 66 #[a, b] w fun e w' => e = .returned (.bool (intsL t o n.toNat == intsL t' o' n'.toNat)) ∧ Below w.heap.size w w' := by
  obtain ⟨a1, m1, c1, rfl, k1, rfl, k3⟩ := h1
  obtain ⟨a2, m2, c2, rfl, q1, rfl, q3⟩ := h2
  rw [Int.toNat_natCast, Int.toNat_natCast]
  by_cases he : m1 = m2
  · subst he
    by_cases hm : m1 = 0
    · subst hm; exact same66_0 _ _ _ _ _
    · obtain ⟨b1, o1, rfl, f1⟩ := k3 hm
      obtain ⟨b2, o2, rfl, f2⟩ := q3 hm
      exact same66_some b1 o1 b2 o2 m1 c1 c2 t t' o o' w (by omega) f1 f2
  · rw [intsL_len he]
    exact same66_len _ _ _ _ _ _ he _

theorem move36_b (a b : M5) (r : Bool) (w : World) (hc : ∀ W, Below w.heap.size w W → Calls prog 66 #[.slice a.a a.k a.c, .slice b.a b.k b.c] W fun e w' => e = .returned (.bool r) ∧ Below W.heap.size W w') :
    Calls prog 36 #[.agg #[.int .i64 a.f1, .int .i64 a.f2, .bool a.xb, .string a.s, .slice a.a a.k a.c], .agg #[.int .i64 b.f1, .int .i64 b.f2, .bool b.xb, .string b.s, .slice b.a b.k b.c]] w fun e w' => e = .returned (.bool (sameB a b r)) ∧ Below w.heap.size w w' := by
  obtain ⟨f1, f2, xb, s, aa, ak, ac⟩ := a
  obtain ⟨g1, g2, yb, z, ba, bk, bc⟩ := b
  dsimp only at hc ⊢
  have hB : Below w.heap.size w ((w.alloc (.cells #[.int .i64 f1, .int .i64 f2, .bool xb, .string s, .slice aa ak ac] 27)).alloc (.cells #[.int .i64 g1, .int .i64 g2, .bool yb, .string z, .slice ba bk bc] 27)) := ((Below.refl _ _).alloc (Nat.le_refl _) _).alloc (by simp) _
  have cS := hc _ hB
  unfold sameB
  dsimp only
  clear hc
  by_cases h1 : f1 = g1
  case neg =>
    have e : (decide (f1 = g1) && decide (f2 = g2) && (xb == yb) && (s.toList == z.toList) && r) = false := by simp [h1]
    rw [e]
    clear e
    go_enter func36, ntmps36
    go_wp2
    go_ret
    exact ⟨rfl, hB⟩
  by_cases h2 : f2 = g2
  case neg =>
    have e : (decide (f1 = g1) && decide (f2 = g2) && (xb == yb) && (s.toList == z.toList) && r) = false := by simp [h2]
    rw [e]
    clear e
    subst h1
    go_enter func36, ntmps36
    go_wp2
    go_ret
    exact ⟨rfl, hB⟩
  by_cases h3 : xb = yb
  case neg =>
    have e : (decide (f1 = g1) && decide (f2 = g2) && (xb == yb) && (s.toList == z.toList) && r) = false := by simp [h3]
    rw [e]
    clear e
    subst h1 h2
    go_enter func36, ntmps36
    cases xb <;> cases yb <;> first | exact absurd rfl h3 | (go_wp2; go_ret; exact ⟨rfl, hB⟩)
  cases h4 : (s.toList == z.toList)
  case false =>
    have e : (decide (f1 = g1) && decide (f2 = g2) && (xb == yb) && false && r) = false := by simp
    rw [e]
    clear e
    subst h1 h2 h3
    go_enter func36, ntmps36
    cases xb <;> (go_wp2; go_ret; exact ⟨rfl, hB⟩)
  case true =>
    have e : (decide (f1 = g1) && decide (f2 = g2) && (xb == yb) && true && r) = r := by simp [h1, h2, h3]
    rw [e]
    clear e
    subst h1 h2 h3
    go_enter func36, ntmps36
    cases xb <;>
    · go_wp2_with (first
        | (go_at_call 66; refine cS.mono ?_; rintro e w2 ⟨rfl, hk2⟩)
        | go_in)
      go_ret
      exact ⟨rfl, hB.trans (hk2.mono (by rw [size2]; omega))⟩

end Go.Proofs.Tryz

namespace Go.Proofs.Tryz
open Go Go.Am Go.RowKit Go.Dr
set_option maxRecDepth 100000

/-- The bytes of a string's data. -/
def strL (y : Int → Int) (o n : Int) : List UInt8 := (List.range n.toNat).map fun (j : Nat) => UInt8.ofNat (y (o + (j : Int))).toNat
theorem str_list {s : ByteArray} {y : Int → Int} {o n : Int} (h : IsStr (.string s) y o n) : s.toList = strL y o n := by
  obtain ⟨l, e, h1, h2⟩ := h
  cases e
  rw [Lib.toList_data]
  show l = _
  subst h1
  apply List.ext_getElem?
  intro j
  unfold strL
  rw [Int.toNat_natCast]
  by_cases hj : j < l.length
  · have := h2 j l[j] (List.getElem?_eq_getElem hj)
    rw [List.getElem?_eq_getElem hj]
    simp only [List.getElem?_map, List.getElem?_range hj, Option.map_some, Option.some.injEq]
    rw [← this, Int.toNat_natCast]
    apply UInt8.toNat.inj
    rw [UInt8.toNat_ofNat']
    have := UInt8.toNat_lt l[j]
    omega
  · rw [List.getElem?_eq_none (by omega), List.getElem?_eq_none (by simp; omega)]

/-- Two moves are the same. -/
def sameMD (a b : MvD) : Bool := decide (a.fr = b.fr) && decide (a.to = b.to) && (decide (a.x ≠ 0) == decide (b.x ≠ 0)) && (strL a.y a.so a.sn == strL b.y b.so b.sn) && (tchs a == tchs b)
theorem sameB_eq {w : World} {c c' : M5} {m m' : MvD} (h : M5Ok w c m) (h' : M5Ok w c' m') : sameB c c' (tchs m == tchs m') = sameMD m m' := by
  unfold sameB sameMD
  rw [h.1, h.2.1, h.2.2.1, h'.1, h'.2.1, h'.2.2.1, str_list h.2.2.2.1, str_list h'.2.2.2.1]
def allK (p : Nat → Bool) : Nat → Bool
  | 0 => true
  | i + 1 => allK p i && p i
theorem allK_no {p : Nat → Bool} {i n : Nat} (hi : i < n) (h : p i = false) : allK p n = false := by
  induction n with
  | zero => omega
  | succ n ih =>
    rw [allK]
    by_cases e : i = n
    · subst e; rw [h, Bool.and_false]
    · rw [ih (by omega), Bool.false_and]
/-- Two rows of moves are the same. -/
def sameN (d : Nat → MvD) (n : Nat) (d' : Nat → MvD) (n' : Nat) : Bool := decide (n = n') && allK (fun i => sameMD (d i) (d' i)) n

theorem m5_row {w : World} {ad : Option Addr} {n c : Nat} {d : Nat → MvD} (hm : IsMoves w (.slice ad n c) d n) (h0 : n ≠ 0) :
    ∃ b off, ad = some ⟨b, off, none⟩ ∧ n ≤ c ∧ ∃ f : Nat → M5, (∀ i, i < n → M5Ok w (f i) (d i)) ∧ ∀ i, i < n → (w.cell? ⟨b, off + i * 5, none⟩ = some (.int .i64 (f i).f1) ∧ w.cell? ⟨b, off + i * 5 + 1, none⟩ = some (.int .i64 (f i).f2) ∧ w.cell? ⟨b, off + i * 5 + 2, none⟩ = some (.bool (f i).xb) ∧ w.cell? ⟨b, off + i * 5 + 3, none⟩ = some (.string (f i).s) ∧ w.cell? ⟨b, off + i * 5 + 4, none⟩ = some (.slice (f i).a (f i).k (f i).c)) := by
  obtain ⟨a1, c1, e1, hnc, hM0⟩ := hm
  simp only [Value.slice.injEq, true_and] at e1
  obtain ⟨rfl, rfl⟩ := e1
  obtain ⟨b, off, rfl, hM⟩ := hM0 h0
  obtain ⟨f, hf⟩ := m5_of hM
  refine ⟨b, off, rfl, hnc, f, fun i hi => (hf i hi).2, fun i hi => ?_⟩
  have hc := (hf i hi).1
  rw [show off + 5 * i = off + i * 5 by omega] at hc
  simp only [cellsAt, M5.vals, List.map_cons, List.map_nil, List.cons.injEq, and_true] at hc
  exact hc
theorem cell_b {w W : World} {B : Nat} {a : Addr} {v : Value} (h : w.cell? a = some v) (hb : Below B w W) (hB : a.block < B) : W.cell? a = some v := by
  rw [hb.cell hB]; exact h

section
variable {w : World} {d d' : Nat → MvD} {n n' c c' : Nat} {ad ad' : Option Addr}
end
end Go.Proofs.Tryz

namespace Go.Proofs.Tryz
open Go Go.Am Go.RowKit Go.Dr
set_option maxRecDepth 100000

theorem IsMoves.but {W W' : World} {g : Nat} {v : Value} {d : Nat → MvD} {n : Nat} (h : IsMoves W v d n) (hk : ∀ k, k ≠ g → W'.heap[k]? = W.heap[k]?) (hg : ∀ j z, W.cell? ⟨g, j, none⟩ ≠ some (.int .i64 z)) : IsMoves W' v d n := by
  have hc : ∀ b o, b ≠ g → W'.cell? ⟨b, o, none⟩ = W.cell? ⟨b, o, none⟩ := fun b o hb => by
    unfold World.cell?
    rw [hk b hb]
  have hne : ∀ b o z, W.cell? ⟨b, o, none⟩ = some (.int .i64 z) → b ≠ g := fun b o z e q => by subst q; exact hg o z e
  obtain ⟨a, c, rfl, hnc, hr⟩ := h
  refine ⟨a, c, rfl, hnc, fun h0 => ?_⟩
  obtain ⟨b, off, ha, hi⟩ := hr h0
  refine ⟨b, off, ha, fun i hin => ?_⟩
  obtain ⟨sv, bv, e, hs, ad, m, c', rfl, h1, h2, h3⟩ := hi i hin
  have hb : b ≠ g := by
    simp only [cellsAt, List.cons.injEq] at e
    exact hne _ _ _ e.1
  refine ⟨sv, _, ?_, hs, ad, m, c', rfl, h1, h2, fun q => ?_⟩
  · rw [← e]
    simp only [cellsAt, hc b _ hb]
  · obtain ⟨b2, o2, e2, f2⟩ := h3 q
    refine ⟨b2, o2, e2, fun j hj => ?_⟩
    have := f2 j hj
    rw [hc b2 _ (hne _ _ _ this)]
    exact this
section
variable {w : World} {y0 y1 : Int → Int} {yo yn eo en : Int} {lx : Bool} {d : Nat → MvD} {n : Nat} {s1 s2 : ByteArray} {ad : Option Addr} {c : Nat}
end
end Go.Proofs.Tryz

namespace Go.Proofs.Tryz
open Go Go.Am Go.RowKit Go.Dr
set_option maxRecDepth 100000

section
variable {w : World} {E : Int} {P : PlD} {s1 s2 : ByteArray} {lx : Bool} {ad : Option Addr} {n c : Nat}
end

section
variable {w : World} {s1 s2 z1 z2 : ByteArray} {lx zx : Bool} {d d' : Nat → MvD} {n n' c c' : Nat} {ad ad' : Option Addr}
/-- Two plays with the same strings. -/
def headB (s1 s2 z1 z2 : ByteArray) (lx zx : Bool) (n n' : Nat) : Bool := (s1.toList == z1.toList) && (s2.toList == z2.toList) && (lx == zx) && decide (n = n')
theorem sp_no (h : headB s1 s2 z1 z2 lx zx n n' = false) : Calls prog 25 #[.agg #[.string s1, .string s2, .bool lx, .slice ad n c], .agg #[.string z1, .string z2, .bool zx, .slice ad' n' c']] w fun e w' => e = .returned (.bool false) ∧ Below w.heap.size w w' := by
  have hB : Below w.heap.size w ((w.alloc (.cells #[.string s1, .string s2, .bool lx, .slice ad n c] 24)).alloc (.cells #[.string z1, .string z2, .bool zx, .slice ad' n' c'] 24)) := ((Below.refl _ _).alloc (Nat.le_refl _) _).alloc (by simp) _
  unfold headB at h
  cases h1 : (s1.toList == z1.toList) with
  | false =>
    clear h
    go_enter func25, ntmps25
    go_wp2
    go_ret
    exact ⟨rfl, hB⟩
  | true =>
    cases h2 : (s2.toList == z2.toList) with
    | false =>
      clear h
      go_enter func25, ntmps25
      go_wp2
      go_ret
      exact ⟨rfl, hB⟩
    | true =>
      by_cases h3 : lx = zx
      · subst h3
        have hn : (n : Int) ≠ (n' : Int) := by
          rw [h1, h2] at h
          simp at h
          omega
        clear h
        go_enter func25, ntmps25
        cases lx <;> (go_wp2; go_ret; exact ⟨rfl, hB⟩)
      · clear h
        go_enter func25, ntmps25
        cases lx <;> cases zx <;> first | exact absurd rfl h3 | (go_wp2; go_ret; exact ⟨rfl, hB⟩)
set_option maxHeartbeats 3200000 in
theorem sp_go (hm : IsMoves w (.slice ad n c) d n) (hm' : IsMoves w (.slice ad' n c') d' n) (hn : n ≤ 1000000) (hb : ∀ i, i < n → (d i).bn ≤ 1000000) (h1 : (s1.toList == z1.toList) = true) (h2 : (s2.toList == z2.toList) = true) :
    Calls prog 25 #[.agg #[.string s1, .string s2, .bool lx, .slice ad n c], .agg #[.string z1, .string z2, .bool lx, .slice ad' n c']] w fun e w' => e = .returned (.bool (allK (fun i => sameMD (d i) (d' i)) n)) ∧ Below w.heap.size w w' := by
  have hB : Below w.heap.size w ((w.alloc (.cells #[.string s1, .string s2, .bool lx, .slice ad n c] 24)).alloc (.cells #[.string z1, .string z2, .bool lx, .slice ad' n c'] 24)) := ((Below.refl _ _).alloc (Nat.le_refl _) _).alloc (by simp) _
  have hx0 := at2_0 w #[.string s1, .string s2, .bool lx, .slice ad n c] #[.string z1, .string z2, .bool lx, .slice ad' n c'] 24 24
  have hy0 := at2_1 w #[.string s1, .string s2, .bool lx, .slice ad n c] #[.string z1, .string z2, .bool lx, .slice ad' n c'] 24 24
  by_cases h0 : n = 0
  · subst h0
    go_enter func25, ntmps25
    cases lx <;>
    · go_wp2
      refine wp_loop_rounds 1 ?_
      rw [rounds_succ]
      go_wp2
      go_ret
      exact ⟨rfl, hB⟩
  obtain ⟨r, hr⟩ : ∃ r, allK (fun i => sameMD (d i) (d' i)) n = r := ⟨_, rfl⟩
  have HR : Hid (allK (fun i => sameMD (d i) (d' i)) n = r) := Lib.hid hr
  rw [hr]
  obtain ⟨b, off, rfl, hnc, f, hf, hc1⟩ := m5_row hm h0
  obtain ⟨b', off', rfl, hnc', f', hf', hc2⟩ := m5_row hm' h0
  clear hr hm hm'
  go_enter func25, ntmps25
  obtain ⟨xb, hxb⟩ : ∃ xb, lx = xb := ⟨_, rfl⟩
  rw [hxb] at hx0 hy0 hB ⊢
  clear hxb
  have hxx : (xb == xb) = true := by simp
  have hxn : (xb != xb) = false := by simp
  have hxd : decide (xb = xb) = true := by simp
  go_wp2
  go_loopw [5] (fun z wr => ∃ i : Nat, i ≤ n ∧ z = .int .i64 i ∧ allK (fun i => sameMD (d i) (d' i)) i = true ∧ At wr w.heap.size #[.string s1, .string s2, .bool xb, .slice (some ⟨b, off, none⟩) n c] 24 ∧ At wr (w.heap.size + 1) #[.string z1, .string z2, .bool xb, .slice (some ⟨b', off', none⟩) n c'] 24 ∧ Below w.heap.size w wr) (fun z _ => n - (numOf' z).toNat)
  case atStart => exact ⟨0, Nat.zero_le _, rfl, rfl, hx0, hy0, hB⟩
  case round =>
    clear hx0 hy0 hB
    obtain ⟨i, hi, rfl, hall, hx, hy, hbel⟩ := hrel
    obtain ⟨⟨-, -, -, x3⟩, -⟩ := box4 hx
    obtain ⟨⟨-, -, -, y3⟩, -⟩ := box4 hy
    by_cases hin : i < n
    · have h1 := hf i hin
      have h2 := hf' i hin
      obtain ⟨p0, p1, p2, p3, p4⟩ := hc1 i hin
      obtain ⟨q0, q1, q2, q3, q4⟩ := hc2 i hin
      have hs := sameB_eq h1 h2
      have cT : ∀ W, Below w.heap.size w W → Calls prog 66 #[.slice (f i).a (f i).k (f i).c, .slice (f' i).a (f' i).k (f' i).c] W fun e w' => e = .returned (.bool (tchs (d i) == tchs (d' i))) ∧ Below W.heap.size W w' := fun W hW => same66_any (h1.below hW).2.2.2.2 (h2.below hW).2.2.2.2 (hb i hin)
      have hcel : ∀ {b o : Nat} {v : Value}, w.cell? ⟨b, o, none⟩ = some v → ∀ {W}, Below w.heap.size w W → W.cell? ⟨b, o, none⟩ = some v := fun h _ hW => cell_b h hW (cell_under h)
      have CP : Hid (∀ W, Below w.heap.size w W → (W.cell? ⟨b, off + i * 5, none⟩ = some (.int .i64 (f i).f1) ∧ W.cell? ⟨b, off + i * 5 + 1, none⟩ = some (.int .i64 (f i).f2) ∧ W.cell? ⟨b, off + i * 5 + 2, none⟩ = some (.bool (f i).xb) ∧ W.cell? ⟨b, off + i * 5 + 3, none⟩ = some (.string (f i).s) ∧ W.cell? ⟨b, off + i * 5 + 4, none⟩ = some (.slice (f i).a (f i).k (f i).c)) ∧
          (W.cell? ⟨b', off' + i * 5, none⟩ = some (.int .i64 (f' i).f1) ∧ W.cell? ⟨b', off' + i * 5 + 1, none⟩ = some (.int .i64 (f' i).f2) ∧ W.cell? ⟨b', off' + i * 5 + 2, none⟩ = some (.bool (f' i).xb) ∧ W.cell? ⟨b', off' + i * 5 + 3, none⟩ = some (.string (f' i).s) ∧ W.cell? ⟨b', off' + i * 5 + 4, none⟩ = some (.slice (f' i).a (f' i).k (f' i).c))) :=
        Lib.hid fun W hW => ⟨⟨hcel p0 hW, hcel p1 hW, hcel p2 hW, hcel p3 hW, hcel p4 hW⟩, hcel q0 hW, hcel q1 hW, hcel q2 hW, hcel q3 hW, hcel q4 hW⟩
      clear p0 p1 p2 p3 p4 q0 q1 q2 q3 q4
      generalize f i = m at CP cT hs
      generalize f' i = m' at CP cT hs
      have cM : ∀ W, Below w.heap.size w W → Calls prog 36 #[.agg #[.int .i64 m.f1, .int .i64 m.f2, .bool m.xb, .string m.s, .slice m.a m.k m.c], .agg #[.int .i64 m'.f1, .int .i64 m'.f2, .bool m'.xb, .string m'.s, .slice m'.a m'.k m'.c]] W fun e w' => e = .returned (.bool (sameMD (d i) (d' i))) ∧ Below W.heap.size W w' := fun W hW => by
        have := move36_b m m' (tchs (d i) == tchs (d' i)) W (fun W' hW' => cT W' (hW.trans (hW'.mono hW.size)))
        rw [hs] at this
        exact this
      clear hc1 hc2 hf hf' h1 h2 hcel hb hs cT
      have i0 : (0 : Int) ≤ (i : Int) := by omega
      have i1 : (i : Int) < (n : Int) := by omega
      have hdr : Below wr.heap.size wr wr.drew := (Below.refl _ _).drew
      obtain ⟨⟨p0, p1, p2, p3, p4⟩, q0, q1, q2, q3, q4⟩ := CP.out wr hbel
      obtain ⟨sm, hsm⟩ : ∃ sm, sameMD (d i) (d' i) = sm := ⟨_, rfl⟩
      rw [hsm] at cM
      have HS : Hid (sameMD (d i) (d' i) = sm) := Lib.hid hsm
      have HA : Hid (allK (fun i => sameMD (d i) (d' i)) i = true) := Lib.hid hall
      clear hsm hall
      cases sm with
      | false =>
        have hrf : r = false := by rw [← HR.out]; exact allK_no hin HS.out
        subst hrf
        go_wp2_with fail
        go_region_held3 (fun W => W.cell? ⟨w.heap.size, 3, none⟩ = some (.slice (some ⟨b, off, none⟩) n c) ∧ W.cell? ⟨w.heap.size + 1, 3, none⟩ = some (.slice (some ⟨b', off', none⟩) n c') ∧ W.cell? ⟨b, off + i * 5, none⟩ = some (.int .i64 m.f1) ∧ W.cell? ⟨b, off + i * 5 + 1, none⟩ = some (.int .i64 m.f2) ∧ W.cell? ⟨b, off + i * 5 + 2, none⟩ = some (.bool m.xb) ∧ W.cell? ⟨b, off + i * 5 + 3, none⟩ = some (.string m.s) ∧ W.cell? ⟨b, off + i * 5 + 4, none⟩ = some (.slice m.a m.k m.c) ∧ W.cell? ⟨b', off' + i * 5, none⟩ = some (.int .i64 m'.f1) ∧ W.cell? ⟨b', off' + i * 5 + 1, none⟩ = some (.int .i64 m'.f2) ∧ W.cell? ⟨b', off' + i * 5 + 2, none⟩ = some (.bool m'.xb) ∧ W.cell? ⟨b', off' + i * 5 + 3, none⟩ = some (.string m'.s) ∧ W.cell? ⟨b', off' + i * 5 + 4, none⟩ = some (.slice m'.a m'.k m'.c) ∧ Below wr.heap.size wr W)
          (go_keep)
          (first
            | (go_at_call 36; refine Calls.mono (cM _ ?_) ?_; (exact hbel.trans (Below.mono (B := wr.heap.size) (by assumption) hbel.size)); rintro e W ⟨rfl, hkk⟩; have hbk := Below.trans (B := wr.heap.size) (a := wr) (by assumption) (Below.mono hkk (Below.size (B := wr.heap.size) (w := wr) (by assumption))); obtain ⟨⟨p0, p1, p2, p3, p4⟩, q0, q1, q2, q3, q4⟩ := CP.out W (hbel.trans (hbk.mono hbel.size)); obtain ⟨⟨-, -, -, x3⟩, -⟩ := box4 (hx.below hbk hx.lt); obtain ⟨⟨-, -, -, y3⟩, -⟩ := box4 (hy.below hbk hy.lt)))
        all_goals (go_wp2; go_ret; exact ⟨rfl, hbel.trans (hbk.mono hbel.size)⟩)
      | true =>
        have hall' : Hid (allK (fun i => sameMD (d i) (d' i)) (i + 1) = true) := Lib.hid (by rw [allK, HA.out, HS.out]; rfl)
        go_wp2_with fail
        go_region_held3 (fun W => W.cell? ⟨w.heap.size, 3, none⟩ = some (.slice (some ⟨b, off, none⟩) n c) ∧ W.cell? ⟨w.heap.size + 1, 3, none⟩ = some (.slice (some ⟨b', off', none⟩) n c') ∧ W.cell? ⟨b, off + i * 5, none⟩ = some (.int .i64 m.f1) ∧ W.cell? ⟨b, off + i * 5 + 1, none⟩ = some (.int .i64 m.f2) ∧ W.cell? ⟨b, off + i * 5 + 2, none⟩ = some (.bool m.xb) ∧ W.cell? ⟨b, off + i * 5 + 3, none⟩ = some (.string m.s) ∧ W.cell? ⟨b, off + i * 5 + 4, none⟩ = some (.slice m.a m.k m.c) ∧ W.cell? ⟨b', off' + i * 5, none⟩ = some (.int .i64 m'.f1) ∧ W.cell? ⟨b', off' + i * 5 + 1, none⟩ = some (.int .i64 m'.f2) ∧ W.cell? ⟨b', off' + i * 5 + 2, none⟩ = some (.bool m'.xb) ∧ W.cell? ⟨b', off' + i * 5 + 3, none⟩ = some (.string m'.s) ∧ W.cell? ⟨b', off' + i * 5 + 4, none⟩ = some (.slice m'.a m'.k m'.c) ∧ Below wr.heap.size wr W)
          (go_keep)
          (first
            | (go_at_call 36; refine Calls.mono (cM _ ?_) ?_; (exact hbel.trans (Below.mono (B := wr.heap.size) (by assumption) hbel.size)); rintro e W ⟨rfl, hkk⟩; have hbk := Below.trans (B := wr.heap.size) (a := wr) (by assumption) (Below.mono hkk (Below.size (B := wr.heap.size) (w := wr) (by assumption))); obtain ⟨⟨p0, p1, p2, p3, p4⟩, q0, q1, q2, q3, q4⟩ := CP.out W (hbel.trans (hbk.mono hbel.size)); obtain ⟨⟨-, -, -, x3⟩, -⟩ := box4 (hx.below hbk hx.lt); obtain ⟨⟨-, -, -, y3⟩, -⟩ := box4 (hy.below hbk hy.lt)))
        all_goals (go_wp2; go_roundw; (case rel => exact ⟨i + 1, by omega, by go_num, hall'.out, hx.below hbk hx.lt, hy.below hbk hy.lt, hbel.trans (hbk.mono hbel.size)⟩); (case measure => simp [numOf'] <;> omega))
    · obtain rfl : i = n := by omega
      have hrt : r = true := by rw [← HR.out]; exact hall
      subst hrt
      clear hc1 hc2 hf hf' hb hall
      go_wp2
      go_ret
      exact ⟨rfl, hbel⟩
end
end Go.Proofs.Tryz

namespace Go.Proofs.Tryz
open Go Go.Am Go.RowKit Go.Dr
set_option maxRecDepth 100000

theorem allK_same (d d' : Nat → MvD) (n : Nat) : sameN d n d' n = allK (fun i => sameMD (d i) (d' i)) n := by simp [sameN]
section
variable {w : World} {s1 s2 z1 z2 : ByteArray} {lx zx : Bool} {d d' : Nat → MvD} {n n' c c' : Nat} {ad ad' : Option Addr}
theorem samePlay_w (hm : IsMoves w (.slice ad n c) d n) (hm' : IsMoves w (.slice ad' n' c') d' n') (hn : n ≤ 1000000) (hb : ∀ i, i < n → (d i).bn ≤ 1000000) :
    Calls prog 25 #[.agg #[.string s1, .string s2, .bool lx, .slice ad n c], .agg #[.string z1, .string z2, .bool zx, .slice ad' n' c']] w fun e w' => e = .returned (.bool ((s1.toList == z1.toList) && (s2.toList == z2.toList) && (lx == zx) && sameN d n d' n')) ∧ Below w.heap.size w w' := by
  cases hh : headB s1 s2 z1 z2 lx zx n n' with
  | false =>
    have e : ((s1.toList == z1.toList) && (s2.toList == z2.toList) && (lx == zx) && sameN d n d' n') = false := by
      unfold headB at hh
      unfold sameN
      by_cases h4 : n = n'
      · simp only [h4, decide_true, Bool.and_true, Bool.true_and] at hh ⊢
        rw [hh]; rfl
      · simp [h4]
    rw [e]
    exact sp_no hh
  | true =>
    unfold headB at hh
    simp only [Bool.and_eq_true, decide_eq_true_eq, beq_iff_eq] at hh
    obtain ⟨⟨⟨h1, h2⟩, h3⟩, h4⟩ := hh
    subst h3 h4
    have e : ((s1.toList == z1.toList) && (s2.toList == z2.toList) && (lx == lx) && sameN d n d' n) = allK (fun i => sameMD (d i) (d' i)) n := by
      rw [allK_same]; simp [h1, h2]
    rw [e]
    exact sp_go hm hm' hn hb (by simp [h1]) (by simp [h2])
end

section
variable {w : World} {E1 E2 : Int} {P1 P2 : PlD} {s1 s2 z1 z2 : ByteArray} {lx zx : Bool} {n n' c c' : Nat} {ad ad' : Option Addr}
end
end Go.Proofs.Tryz

namespace Go.Proofs.Tryz
open Go Go.Am Go.RowKit Go.Dr
set_option maxRecDepth 100000

theorem sameMD_refl (m : MvD) : sameMD m m = true := by simp [sameMD]
theorem allK_all (p : Nat → Bool) (h : ∀ i, p i = true) : ∀ n, allK p n = true
  | 0 => rfl
  | n + 1 => by rw [allK, allK_all p h n, h n]; rfl
theorem sameN_refl (d : Nat → MvD) (n : Nat) : sameN d n d n = true := by rw [allK_same]; exact allK_all _ (fun i => sameMD_refl _) n
end Go.Proofs.Tryz
