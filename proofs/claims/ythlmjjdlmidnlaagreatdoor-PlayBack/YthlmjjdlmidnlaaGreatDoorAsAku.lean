/- Rows of moves that are built one by one. A move appended onto a row of moves that is built: one law for all places. Rows of moves that a call has made: as they lie. -/
import Derived.Test.YthlmjjdlmidnlaaGreatDoorAsOfu
import Derived.OwnWalkIn
namespace Go.Proofs.Tryz
open Go Go.Am Go.RowKit Go.Dr
set_option maxRecDepth 100000

theorem F2.snocL {α β : Type} {R : α → β → Prop} {l : List α} {m : List β} (h : F2 R l m) {a : α} {b : β} (hab : R a b) : F2 R (l ++ [a]) (m ++ [b]) := by
  induction h with
  | nil => exact .cons hab .nil
  | cons h _ ih => exact .cons h ih
theorem M5Own.atL {w : World} {base b : Nat} {c : M5} {m : MvD} {cs : Array Value} {e : TypeId} (h : M5Own w base c m) (ha : At w b cs e) (he : e ≠ 3) (o : Nat) (u : Value) : M5Own (w.setCell ⟨b, o, none⟩ u) base c m := by
  refine ⟨h.1, h.2.1, h.2.2.1, h.2.2.2.1, ownsRow_setCell_other h.2.2.2.2.1 (fun q => ?_) u, h.2.2.2.2.2⟩
  obtain ⟨cs', fz, hc⟩ := Lib.ownsRow_kind h.2.2.2.2.1 _ q
  unfold At at ha
  rw [ha] at hc
  simp only [Option.some.injEq, Obj.cells.injEq] at hc
  exact he hc.2.1
theorem M5Own.grownL {w w' : World} {base base2 k : Nat} {c : M5} {m : MvD} {v : Value} {xs : List Value} (h : M5Own w base c m) (hv : w.ownsRow base2 27 5 v k xs) (hg : w.grownBy w' v.ownBlock) : M5Own w' base c m :=
  ⟨h.1, h.2.1, h.2.2.1, h.2.2.2.1, h.2.2.2.2.1.kept hg (kinds_ne h.2.2.2.2.1 hv (by decide)), h.2.2.2.2.2⟩
/-- The moves built so far. -/
def LsR (wr : World) (base : Nat) (l : List MvD) (v : Value) : Prop := ∃ lk, wr.ownsRow base 27 5 v lk.length (flat lk) ∧ F2 (M5Own wr base) lk l
theorem LsR.start (wr : World) (base : Nat) : LsR wr base [] (.slice none 0 0) := ⟨[], World.ownsRow_nil _ _ _ _, .nil⟩
theorem LsR.below {w W : World} {base : Nat} {l : List MvD} {v : Value} (h : LsR w base l v) (hb : Below w.heap.size w W) : LsR W base l v :=
  let ⟨lk, h1, h2⟩ := h; ⟨lk, owns_below h1 hb, h2.imp fun _ _ o => o.below hb⟩
theorem LsR.slice {w : World} {base : Nat} {l : List MvD} {v : Value} (h : LsR w base l v) : ∃ a k c, v = .slice a k c := let ⟨_, h1, _⟩ := h; owns_slice h1
theorem LsR.set {w : World} {base : Nat} {l : List MvD} {v : Value} (h : LsR w base l v) {b : Nat} (hb : b < base) (o : Nat) (u : Value) : LsR (w.setCell ⟨b, o, none⟩ u) base l v :=
  let ⟨lk, h1, h2⟩ := h
  ⟨lk, ownsRow_setCell_below h1 (by exact hb) u, h2.imp fun _ _ o' => ⟨o'.1, o'.2.1, o'.2.2.1, o'.2.2.2.1, ownsRow_setCell_below o'.2.2.2.2.1 (by exact hb) u, o'.2.2.2.2.2⟩⟩
theorem LsR.setM {w : World} {base : Nat} {l : List MvD} {v : Value} (h : LsR w base l v) {b : Nat} {cs : Array Value} (ha : At w b cs 27) (hv : v.ownBlock ≠ some b) (o : Nat) (u : Value) : LsR (w.setCell ⟨b, o, none⟩ u) base l v :=
  let ⟨lk, h1, h2⟩ := h
  ⟨lk, ownsRow_setCell_other h1 hv u, h2.imp fun _ _ o' => o'.atL ha (by decide) _ _⟩
theorem LsR.more {w w' : World} {base m : Nat} {l : List MvD} {v v' : Value} {lk : List M5} {x : MvD} (h1 : w.ownsRow base 27 5 v m (flat lk)) (h2 : F2 (M5Own w base) lk l) {c : M5} (hc : M5Own w base c x)
    (hg : w.grownBy w' v.ownBlock) (ho : w'.ownsRow base 27 5 v' (m + 1) (flat lk ++ c.vals)) : LsR w' base (l ++ [x]) v' := by
  have hm : m = lk.length := by have := h1.1; rw [length_flat] at this; omega
  subst hm
  refine ⟨lk ++ [c], ?_, (h2.imp fun _ _ o => o.grownL h1 hg).snocL (hc.grownL h1 hg)⟩
  have e : flat (lk ++ [c]) = flat lk ++ c.vals := by rw [flat_append]; simp [flat]
  rw [List.length_append, e]; exact ho
theorem LsR.row {w : World} {base : Nat} {l : List MvD} {v : Value} (h : LsR w base l v) : IsMoves w v (dOf l) l.length := by
  obtain ⟨lk, h1, h2⟩ := h
  exact (moves_flat h1 (h2.imp fun _ _ o => o.ok)).2
theorem LsR.count {w : World} {base k c : Nat} {l : List MvD} {a : Option Addr} (h : LsR w base l (.slice a k c)) : k = l.length := by
  obtain ⟨a', c', e, -⟩ := h.row
  simp only [Value.slice.injEq] at e
  exact e.2.1
end Go.Proofs.Tryz

namespace Go.Proofs.Tryz
open Go Go.Am Go.RowKit Go.Dr
set_option maxRecDepth 100000

theorem LsR.lt {w : World} {base : Nat} {l : List MvD} {v : Value} (h : LsR w base l v) : ∀ q, v.ownBlock = some q → base ≤ q ∧ q < w.heap.size := let ⟨_, h1, _⟩ := h; h1.lt
theorem M5Own.le {w : World} {base base' : Nat} {c : M5} {m : MvD} (h : M5Own w base c m) (hb : base' ≤ base) : M5Own w base' c m :=
  ⟨h.1, h.2.1, h.2.2.1, h.2.2.2.1, ⟨h.2.2.2.2.1.1, h.2.2.2.2.1.2.imp id fun ⟨g, cap, cur, e, hbg, r⟩ => ⟨g, cap, cur, e, Nat.le_trans hb hbg, r⟩⟩, h.2.2.2.2.2⟩
/-- What the append of one move leaves. -/
structure AppM (w w' : World) (base : Nat) (L : List MvD) (c : M5) (v u : Value) : Prop where
  row : ∀ m, M5Own w base c m → LsR w' base (L ++ [m]) u
  size : w.heap.size ≤ w'.heap.size
  old : ∀ q, q < base → q < w.heap.size → w'.heap[q]? = w.heap[q]?
  new : ∀ q, v.ownBlock ≠ some q → q < w.heap.size → w'.heap[q]? = w.heap[q]?
  below : ∀ w0 : World, Below w0.heap.size w0 w → w0.heap.size ≤ base → Below w0.heap.size w0 w'
  grown : ∃ k xs, w.ownsRow base 27 5 v k xs ∧ w.grownBy w' v.ownBlock
/-- The cells of a move. -/
def M5.arr (c : M5) : Array Value := #[.int .i64 c.f1, .int .i64 c.f2, .bool c.xb, .string c.s, .slice c.a c.k c.c]
theorem run_appendM (w : World) (base b : Nat) (ty : TypeId) (L : List MvD) (v : Value) (h : LsR w base L v) (hn : L.length ≤ 1000000) (c : M5) (hb : At w b c.arr 27) (k1 : Nat) (hbase : base ≤ w.heap.size) :
    ∃ a' k' c' w', (Builtin.append_ #[22, 22] ty #[v, .slice (some ⟨b, 0, none⟩) 1 k1]).run prog w = .ok (.slice a' k' c') w' ∧ AppM w w' base L c v (.slice a' k' c') := by
  obtain ⟨i27, hi, hz0, hz1, hz2⟩ := info_more info27
  have zz : ((.agg #[.int .i64 0, .int .i64 0, .bool false, .string ⟨#[]⟩, .slice none 0 0] : Value)).cells.size = 5 := rfl
  have hl := h.lt
  obtain ⟨lk, h1, h2⟩ := h
  have hlen := h2.len
  obtain ⟨v', w', hr, ho, hg, -⟩ := run_append_own (P := prog) w base 22 ty 27 i27 _ 5 64 underlying22 hi hz0 hz1 hz2 zz (by decide) v lk.length (flat lk) h1 ⟨b, 0, none⟩ 1 k1 c.vals rfl (fun j u hj => by
      rw [add_adr, Nat.zero_add]
      unfold At at hb
      unfold World.cell?
      rw [hb]
      simpa [M5.arr, M5.vals] using hj) (fun u hu => by
      simp only [M5.vals, List.mem_cons, List.not_mem_nil, or_false] at hu
      rcases hu with rfl | rfl | rfl | rfl | rfl <;> rfl) (by unfold maxLen; omega) (by omega) hbase
  obtain ⟨a9, k9, c9, rfl⟩ := owns_slice ho
  exact ⟨a9, k9, c9, w', hr, fun m hm => LsR.more h1 h2 hm hg ho, hg.size, fun q hq hq2 => hg.block q hq2 (fun e => by have := (hl _ e.symm).1; omega), fun q hq hq2 => hg.block q hq2 (fun e => hq e.symm),
    fun w0 h0 hw0 => h0.grown hg h0.size (fun q hq => by have := (hl q hq).1; omega), ⟨_, _, h1, hg⟩⟩

theorem wpList_appendM (w : World) {ops : Array Oper} {rest : List Oper} {o : Oper} {a : Act} {Q : Exit → Act → World → Prop} (hgd : o.guard = none) (s x : Operand)
    (ho : o.op = .call { callee := .builtin .append, args := #[s, x], argTypes := #[22, 22] }) (base b : Nat) (L : List MvD) (v : Value) (hs : a.eval s = v) (k1 : Nat) (hx : a.eval x = .slice (some ⟨b, 0, none⟩) 1 k1)
    (h : LsR w base L v) (hn : L.length ≤ 1000000) (c : M5) (hb : At w b c.arr 27) (hbase : base ≤ w.heap.size)
    (hK : ∀ a' k' c' w', AppM w w' base L c v (.slice a' k' c') → wpList prog ops Q rest (a.put o.dst (.slice a' k' c')) w') : wpList prog ops Q (o :: rest) a w := by
  obtain ⟨a', k', c', w', hr, hA⟩ := run_appendM w base b o.type L v h hn c hb k1 hbase
  refine wpList_plain hgd fun K' hK' => ?_
  unfold Oper.wp execOp
  simp only [ho, resolve, invoke, builtin, Sem.run_bind, Sem.run_pure, Result.andThen_ok, List.map_toArray, List.map_cons, List.map_nil, hs, hx, hr]
  exact hK' _ _ (hK _ _ _ _ hA)

theorem wpListIn_appendM {F : Fence} {n : Nat} (w : World) {ops : Array Oper} {rest : List Oper} {o : Oper} {a : Act} {Q : Exit → Act → World → Prop} (hgd : o.guard = none) (s x : Operand)
    (ho : o.op = .call { callee := .builtin .append, args := #[s, x], argTypes := #[22, 22] }) (base b : Nat) (L : List MvD) (v : Value) (hs : a.eval s = v) (k1 : Nat) (hx : a.eval x = .slice (some ⟨b, 0, none⟩) 1 k1)
    (h : LsR w base L v) (hn : L.length ≤ 1000000) (c : M5) (hb : At w b c.arr 27) (hbase : base ≤ w.heap.size)
    (hK : ∀ a' k' c' w', AppM w w' base L c v (.slice a' k' c') → wpListIn F n prog ops Q rest (a.put o.dst (.slice a' k' c')) w') : wpListIn F n prog ops Q (o :: rest) a w := by
  obtain ⟨a', k', c', w', hr, hA⟩ := run_appendM w base b o.type L v h hn c hb k1 hbase
  refine wpListIn_plain hgd fun K' hK' => ?_
  unfold Oper.wpIn
  refine ⟨?_, ?_⟩
  · simp [Oper.about, ho, resolve, Target.leads, Sem.run_pure]
  · rw [Oper.semAt_plain F _ _ (by rw [ho]; intro c hc'; cases hc')]
    simp [execOp, ho, resolve, invoke, builtin, hs, hx, hr, Result.andThen]
    exact hK' _ _ (hK _ _ _ _ hA)
/-- One move laid into a row of its own. -/
theorem run_sliceM (w : World) (f1 f2 : Int) (xb : Bool) (s : ByteArray) (a : Option Addr) (k c : Nat) : (Instr.buildSlice 22 1 #[(0, .agg #[.int .i64 f1, .int .i64 f2, .bool xb, .string s, .slice a k c])]).run prog w = .ok (.slice (some ⟨w.heap.size, 0, none⟩) 1 1) (w.alloc (.cells #[.int .i64 f1, .int .i64 f2, .bool xb, .string s, .slice a k c] 27)) := by
  simp [go_sem]
/-- A halt of the walk. -/
def Halt (p : Prop) : Prop := p
theorem haltM {ops : Array Oper} {rest : List Oper} {d : Option Tmp} {t : TypeId} {p : String} {f : Array Edge} {g : Option (Nat × Bool)} {x : Operand} {a : Act} {w : World} {Q : Exit → Act → World → Prop} (h : Halt (wpList prog ops Q (⟨d, Op.buildSlice 22 1 #[(0, x)], t, p, f, g⟩ :: rest) a w)) : wpList prog ops Q (⟨d, Op.buildSlice 22 1 #[(0, x)], t, p, f, g⟩ :: rest) a w := h
theorem haltM_in {F : Fence} {n : Nat} {ops : Array Oper} {rest : List Oper} {d : Option Tmp} {t : TypeId} {p : String} {f : Array Edge} {g : Option (Nat × Bool)} {x : Operand} {a : Act} {w : World} {Q : Exit → Act → World → Prop} (h : Halt (wpListIn F n prog ops Q (⟨d, Op.buildSlice 22 1 #[(0, x)], t, p, f, g⟩ :: rest) a w)) : wpListIn F n prog ops Q (⟨d, Op.buildSlice 22 1 #[(0, x)], t, p, f, g⟩ :: rest) a w := h
theorem halt_at {ops : Array Oper} {rest : List Oper} {d : Option Tmp} {t : TypeId} {p : String} {f : Array Edge} {g : Option (Nat × Bool)} {x : Operand} {a : Act} {w : World} {Q : Exit → Act → World → Prop} (h : Halt (wpList prog ops Q (⟨d, Op.fieldAddr 24 x 3, t, p, f, g⟩ :: rest) a w)) : wpList prog ops Q (⟨d, Op.fieldAddr 24 x 3, t, p, f, g⟩ :: rest) a w := h
theorem halt_in {F : Fence} {n : Nat} {ops : Array Oper} {rest : List Oper} {d : Option Tmp} {t : TypeId} {p : String} {f : Array Edge} {g : Option (Nat × Bool)} {x : Operand} {a : Act} {w : World} {Q : Exit → Act → World → Prop} (h : Halt (wpListIn F n prog ops Q (⟨d, Op.fieldAddr 24 x 3, t, p, f, g⟩ :: rest) a w)) : wpListIn F n prog ops Q (⟨d, Op.fieldAddr 24 x 3, t, p, f, g⟩ :: rest) a w := h
theorem wpList_sliceM (w : World) {ops : Array Oper} {rest : List Oper} {o : Oper} {a : Act} {Q : Exit → Act → World → Prop} (hgd : o.guard = none) (x : Operand) (ho : o.op = .buildSlice 22 1 #[(0, x)]) (f1 f2 : Int) (xb : Bool) (s : ByteArray) (ad : Option Addr) (k c : Nat)
    (hx : a.eval x = .agg #[.int .i64 f1, .int .i64 f2, .bool xb, .string s, .slice ad k c])
    (h : wpList prog ops Q rest (a.put o.dst (.slice (some ⟨w.heap.size, 0, none⟩) 1 1)) (w.alloc (.cells #[.int .i64 f1, .int .i64 f2, .bool xb, .string s, .slice ad k c] 27))) : wpList prog ops Q (o :: rest) a w := by
  refine wpList_plain hgd fun K' hK' => ?_
  unfold Oper.wp execOp
  simp only [ho, List.map_toArray, List.map_cons, List.map_nil, hx, Sem.run_bind, run_sliceM, Result.andThen_ok, Sem.run_pure]
  exact hK' _ _ h
theorem wpListIn_sliceM {F : Fence} {n : Nat} (w : World) {ops : Array Oper} {rest : List Oper} {o : Oper} {a : Act} {Q : Exit → Act → World → Prop} (hgd : o.guard = none) (x : Operand) (ho : o.op = .buildSlice 22 1 #[(0, x)]) (f1 f2 : Int) (xb : Bool) (s : ByteArray) (ad : Option Addr) (k c : Nat)
    (hx : a.eval x = .agg #[.int .i64 f1, .int .i64 f2, .bool xb, .string s, .slice ad k c])
    (h : wpListIn F n prog ops Q rest (a.put o.dst (.slice (some ⟨w.heap.size, 0, none⟩) 1 1)) (w.alloc (.cells #[.int .i64 f1, .int .i64 f2, .bool xb, .string s, .slice ad k c] 27))) : wpListIn F n prog ops Q (o :: rest) a w := by
  refine wpListIn_plain hgd fun K' hK' => ?_
  unfold Oper.wpIn
  refine ⟨?_, ?_⟩
  · simp [Oper.about, ho]
  · rw [Oper.semAt_plain F _ _ (by rw [ho]; intro c hc'; cases hc')]
    simp only [execOp, ho, List.map_toArray, List.map_cons, List.map_nil, hx, Sem.run_bind, run_sliceM, Result.andThen_ok, Sem.run_pure]
    exact hK' _ _ h
end Go.Proofs.Tryz

namespace Go.Proofs.Tryz
open Go Go.Am Go.RowKit Go.Dr
set_option maxRecDepth 100000

theorem F2.get {α β : Type} {R : α → β → Prop} {l : List α} {m : List β} (h : F2 R l m) : ∀ {i : Nat} {a : α} {b : β}, l[i]? = some a → m[i]? = some b → R a b := by
  induction h with
  | nil => intro i a b h1; simp at h1
  | cons h _ ih =>
    intro i a b h1 h2
    cases i with
    | zero =>
      simp only [List.getElem?_cons_zero, Option.some.injEq] at h1 h2
      rw [← h1, ← h2]; exact h
    | succ i => simp only [List.getElem?_cons_succ] at h1 h2; exact ih h1 h2
theorem OwnMoves.below {w W : World} {base : Nat} {v : Value} {d : Nat → MvD} {n : Nat} (h : OwnMoves w base v d n) (hb : Below w.heap.size w W) : OwnMoves W base v d n := by
  obtain ⟨vs, h1, h2, h3⟩ := h
  refine ⟨vs, owns_below h1 hb, h2, fun j hj => ?_⟩
  obtain ⟨sv, bv, e0, e1, e2, e3, e4, hs, ho, h0⟩ := h3 j hj
  exact ⟨sv, bv, e0, e1, e2, e3, e4, hs, owns_below ho hb, h0⟩
theorem LsR.own {w : World} {base : Nat} {L : List MvD} {v : Value} (h : LsR w base L v) : OwnMoves w base v (dOf L) L.length := by
  obtain ⟨lk, h1, h2⟩ := h
  have hl := h2.len
  refine ⟨flat lk, by rw [← hl]; exact h1, by rw [length_flat, hl], fun j hj => ?_⟩
  have hj' : j < lk.length := by omega
  obtain ⟨e0, e1, e2, e3, e4⟩ := flat_get (List.getElem?_eq_getElem hj')
  have hm := h2.get (List.getElem?_eq_getElem hj') (show L[j]? = some (dOf L j) by unfold dOf; rw [List.getElem?_eq_getElem hj]; rfl)
  obtain ⟨m1, m2, m3, m4, m5, m6⟩ := hm
  rw [m1] at e0
  rw [m2] at e1
  rw [m3] at e2
  exact ⟨_, _, e0, e1, e2, e3, e4, m4, m5, m6⟩

theorem zero_own (w : World) (base : Nat) : OwnMoves w base (.slice none 0 0) (dOf zeroP.L) zeroP.L.length := ⟨[], World.ownsRow_nil _ _ _ _, rfl, fun _ hj => absurd hj (Nat.not_lt_zero _)⟩
end Go.Proofs.Tryz
