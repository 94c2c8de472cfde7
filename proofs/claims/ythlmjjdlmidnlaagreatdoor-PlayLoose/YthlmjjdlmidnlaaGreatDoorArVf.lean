/- The copy of a play: CopyPlay and copied. moveOf, MoveOf, and what two moves or two lists are compared with, by the kit's walk. Putouts of both sides, the reference's MoveOf, and the comparisons of moves and lists, by the kit's walk. -/
import Derived.Test.YthlmjjdlmidnlaaGreatDoorArVa
import Derived.Maps.AppendAt
namespace Go.Proofs.Tryz
open Go Go.Am Go.RowKit Go.Dr
set_option maxRecDepth 100000

/-- The four cells of a play's block. -/
theorem box4 {w : World} {b : Nat} {v0 v1 v2 v3 : Value} {e : TypeId} (h : w.heap[b]? = some (.cells #[v0, v1, v2, v3] e (0, 0))) :
    (w.cell? ⟨b, 0, none⟩ = some v0 ∧ w.cell? ⟨b, 1, none⟩ = some v1 ∧ w.cell? ⟨b, 2, none⟩ = some v2 ∧ w.cell? ⟨b, 3, none⟩ = some v3) ∧ w.frozen? ⟨b, 0, none⟩ = false ∧ w.frozen? ⟨b, 1, none⟩ = false ∧ w.frozen? ⟨b, 2, none⟩ = false ∧ w.frozen? ⟨b, 3, none⟩ = false := by
  refine ⟨⟨?_, ?_, ?_, ?_⟩, ?_, ?_, ?_, ?_⟩ <;> simp [World.cell?, World.frozen?, h]

section
variable {w : World} {lx : Bool} {d : Nat → MvD} {n : Nat} {s1 s2 : ByteArray} {mv : Value}
theorem copyPlay_w (hm : IsMoves w mv d n) (hn : n ≤ 6) (hb : ∀ i, i < n → (d i).bn ≤ 40) :
    Calls prog 73 #[.agg #[.string s1, .string s2, .bool lx, mv]] w fun e w' => ∃ v, e = .returned (.agg #[.string s1, .string s2, .bool lx, v]) ∧ OwnMoves w' w.heap.size v d n ∧ Below w.heap.size w w' := by
  obtain ⟨a0, c0, rfl, hnc, hM0⟩ := hm
  have hB : Below w.heap.size w ((w.alloc (.cells #[.string s1, .string s2, .bool lx, .slice a0 n c0] 24)).alloc (.cells #[.string ⟨#[]⟩, .string ⟨#[]⟩, .bool false, .slice none 0 0] 24)) := ((Below.refl _ _).alloc (Nat.le_refl _) _).alloc (by simp) _
  have cM := copyMoves_w (IsMoves.below ⟨a0, c0, rfl, hnc, hM0⟩ hB) hn hb
  clear hM0
  go_enter func73, ntmps73
  go_wp2_with (first
    | (go_at_call 19; refine cM.mono ?_; rintro e w2 ⟨v, rfl, hv, hk2⟩; obtain ⟨a1, k1, c1, rfl⟩ := hv.slice; obtain ⟨⟨x0, x1, x2, x3⟩, f0, f1, f2, f3⟩ := box4 ((hk2.block w.heap.size (by rw [size2]; omega)).trans (al2_0 _ _ _)); obtain ⟨⟨z0, z1, z2, z3⟩, g0, g1, g2, g3⟩ := box4 ((hk2.block (w.heap.size + 1) (by rw [size2]; omega)).trans (al2_1 _ _ _)))
    | go_in)
  have hB2 : Below w.heap.size w w2 := hB.trans (hk2.mono (by rw [size2]; omega))
  have hsz : w.heap.size + 2 ≤ w2.heap.size := by have := hk2.size; rw [size2] at this; exact this
  rw [size2] at hv
  have hv' := ((((hv.setCell (a := ⟨w.heap.size, 3, none⟩) (by simp) (.slice a1 k1 c1)).setCell (a := ⟨w.heap.size + 1, 0, none⟩) (by simp) (.string s1)).setCell (a := ⟨w.heap.size + 1, 1, none⟩) (by simp) (.string s2)).setCell (a := ⟨w.heap.size + 1, 2, none⟩) (by simp) (.bool lx)).setCell (a := ⟨w.heap.size + 1, 3, none⟩) (by simp) (.slice a1 k1 c1)
  refine bodyPost_ret (v := .agg #[.string s1, .string s2, .bool lx, .slice a1 k1 c1]) (by simp [results, results73, go_sem, World.cell?_setCell_same, z0, z1, z2, z3]) rfl ⟨_, rfl, hv'.mono (by omega), ((((hB2.setCell (p := ⟨w.heap.size, 3, none⟩) (by simp) _).setCell (p := ⟨w.heap.size + 1, 0, none⟩) (by simp) _).setCell (p := ⟨w.heap.size + 1, 1, none⟩) (by simp) _).setCell (p := ⟨w.heap.size + 1, 2, none⟩) (by simp) _).setCell (p := ⟨w.heap.size + 1, 3, none⟩) (by simp) _⟩

theorem copied_w (hm : IsMoves w mv d n) (hn : n ≤ 6) (hb : ∀ i, i < n → (d i).bn ≤ 40) :
    Calls prog 16 #[.agg #[.string s1, .string s2, .bool lx, mv]] w fun e w' => ∃ v, e = .returned (.agg #[.string s1, .string s2, .bool lx, v]) ∧ IsMoves w' v d n ∧ Below w.heap.size w w' := by
  obtain ⟨a0, c0, rfl, hnc, hM0⟩ := hm
  have hB : Below w.heap.size w ((w.alloc (.cells #[.string s1, .string s2, .bool lx, .slice a0 n c0] 24)).alloc (.cells #[.string ⟨#[]⟩, .string ⟨#[]⟩, .bool false, .slice none 0 0] 24)) := ((Below.refl _ _).alloc (Nat.le_refl _) _).alloc (by simp) _
  have cM := copyPlay_w (s1 := s1) (s2 := s2) (lx := lx) (IsMoves.below ⟨a0, c0, rfl, hnc, hM0⟩ hB) hn hb
  clear hM0
  go_enter func16, ntmps16
  go_wp2_with (first
    | (go_at_call 73; refine cM.mono ?_; rintro e w2 ⟨v, rfl, hv, hk2⟩; obtain ⟨a1, k1, c1, rfl⟩ := hv.slice; obtain ⟨⟨x0, x1, x2, x3⟩, f0, f1, f2, f3⟩ := box4 ((hk2.block w.heap.size (by rw [size2]; omega)).trans (al2_0 _ _ _)); obtain ⟨⟨z0, z1, z2, z3⟩, g0, g1, g2, g3⟩ := box4 ((hk2.block (w.heap.size + 1) (by rw [size2]; omega)).trans (al2_1 _ _ _)))
    | go_in)
  have hB2 : Below w.heap.size w w2 := hB.trans (hk2.mono (by rw [size2]; omega))
  rw [size2] at hv
  have hv' := (((hv.setCell (a := ⟨w.heap.size + 1, 0, none⟩) (by simp) (.string s1)).setCell (a := ⟨w.heap.size + 1, 1, none⟩) (by simp) (.string s2)).setCell (a := ⟨w.heap.size + 1, 2, none⟩) (by simp) (.bool lx)).setCell (a := ⟨w.heap.size + 1, 3, none⟩) (by simp) (.slice a1 k1 c1)
  refine bodyPost_ret (v := .agg #[.string s1, .string s2, .bool lx, .slice a1 k1 c1]) (by simp [results, results16, go_sem, World.cell?_setCell_same, z0, z1, z2, z3]) rfl ⟨_, rfl, hv'.is, (((hB2.setCell (p := ⟨w.heap.size + 1, 0, none⟩) (by simp) _).setCell (p := ⟨w.heap.size + 1, 1, none⟩) (by simp) _).setCell (p := ⟨w.heap.size + 1, 2, none⟩) (by simp) _).setCell (p := ⟨w.heap.size + 1, 3, none⟩) (by simp) _⟩
end
end Go.Proofs.Tryz

namespace Go.Proofs.Tryz
open Go Go.Am Go.RowKit Go.Dr
set_option maxRecDepth 100000

/-- slices.Clone of whatever integers. -/
theorem clone_any {w : World} {v : Value} {t : Int → Int} {o n : Int} (h : IsInts w v t o n) (hn : n ≤ 1000000) :
    Calls prog 133 #[v] w fun e w' => ∃ v', e = .returned v' ∧ w'.ownsRow w.heap.size 3 1 v' n.toNat (vsOf (intsL t o n.toNat)) ∧ Below w.heap.size w w' := by
  obtain ⟨ad, m, c, rfl, h1, rfl, h3⟩ := h
  have em : ((m : Int)).toNat = m := by omega
  rw [em]
  cases ad with
  | none =>
    have hm : m = 0 := by
      by_cases h0 : m = 0
      · exact h0
      · obtain ⟨b, off, e, _⟩ := h3 h0; cases e
    subst hm
    refine (clone_nil c w).mono ?_
    rintro e w' ⟨rfl, hb⟩
    exact ⟨_, rfl, World.ownsRow_nil _ _ _ _, hb⟩
  | some ad =>
    have q25 : ∀ (w : World) (a : Option Addr) (n c n' c' : Nat), (binOp .eql 25 (.slice a n c) (.slice none n' c')).run prog w = .ok (.bool a.isNone) w := fun w a n c n' c' => Lib.run_eql_slice_nil w _ _ a n c n' c' underlying25
    have hown0 : (w.alloc (.cells #[] 3)).ownsRow w.heap.size 3 1 (.slice (some ⟨w.heap.size, 0, none⟩) 0 0) 0 [] := World.ownsRow_lit w #[] 0 (Nat.le_refl _) (Nat.zero_le _) rfl
    have hrow : m ≠ 0 → ∃ b2 o2, some ad = some ⟨b2, o2, none⟩ ∧ ∀ j, j < m → (w.alloc (.cells #[] 3)).cell? ⟨b2, o2 + j, none⟩ = some (.int .i64 (t (o + (j : Int)))) := fun q => by
      obtain ⟨b2, o2, e, f⟩ := h3 q
      refine ⟨b2, o2, e, fun j hj => ?_⟩
      have := f j hj
      rw [World.cell?_alloc_past _ _ _ (cell_under this)]; exact this
    clear h3
    go_enter func133, ntmps133
    go_wp2_with (first
      | (at_builtin; refine wpList_append0 _ rfl (.tmp 5) (.tmp 6) rfl w.heap.size w.heap.size rfl hown0 t o (some ad) m c rfl hrow (by omega) (by simp) ?_)
      | go_in)
    intro v' w1 hown' hgrow
    have hb1 : Below w.heap.size w w1 := ((Below.refl _ _).alloc (Nat.le_refl _) _).grown hgrow (by simp) (fun q hq => by cases hq; exact Nat.le_refl _)
    clear hgrow hown0 hrow
    go_wp2
    go_ret
    exact ⟨_, rfl, hown', hb1⟩

/-- A block as it lies. -/
def At (w : World) (b : Nat) (cs : Array Value) (e : TypeId) : Prop := w.heap[b]? = some (.cells cs e (0, 0))
theorem At.below {w W : World} {b : Nat} {cs : Array Value} {e : TypeId} (h : At w b cs e) {B : Nat} (hb : Below B w W) (hB : b < B) : At W b cs e := (hb.block b hB).trans h
theorem At.alloc {w : World} {b : Nat} {cs : Array Value} {e : TypeId} (h : At w b cs e) (o : Obj) : At (w.alloc o) b cs e := old1 h o
theorem At.lt {w : World} {b : Nat} {cs : Array Value} {e : TypeId} (h : At w b cs e) : b < w.heap.size := lt_of_block h
theorem at2_0 (w : World) (A Z : Array Value) (e f : TypeId) : At ((w.alloc (.cells A e)).alloc (.cells Z f)) w.heap.size A e := al2_0 _ _ _
theorem at2_1 (w : World) (A Z : Array Value) (e f : TypeId) : At ((w.alloc (.cells A e)).alloc (.cells Z f)) (w.heap.size + 1) Z f := al2_1 _ _ _
theorem at_new (w : World) (A : Array Value) (e : TypeId) : At (w.alloc (.cells A e)) w.heap.size A e := heap_alloc_new _ _
theorem At.setCell {w : World} {b : Nat} {cs : Array Value} {e : TypeId} (h : At w b cs e) {a : Addr} (ha : b ≠ a.block) (u : Value) : At (w.setCell a u) b cs e := (Below.heap_setCell _ _ _ _ ha).trans h
theorem grown_setCells (b : Nat) : ∀ (vs : List Value) (o : Nat) (w : World), w.grownBy (w.setCells b o vs) (some b)
  | [], _, w => World.grownBy.refl _ _
  | v :: r, o, w => by
    have h1 : w.grownBy (w.setCell ⟨b, o, none⟩ v) (some b) := ⟨rfl, rfl, rfl, by simp, fun k _ hk => Below.heap_setCell _ _ _ _ (fun e => hk (by rw [e]))⟩
    have h2 := grown_setCells b r (o + 1) (w.setCell ⟨b, o, none⟩ v)
    exact ⟨h2.os.trans h1.os, h2.tape.trans h1.tape, h2.output.trans h1.output, Nat.le_trans h1.size h2.size, fun k hk hne => (h2.block k (Nat.lt_of_lt_of_le hk h1.size) hne).trans (h1.block k hk hne)⟩
theorem At.setCells {w : World} {b : Nat} {cs : Array Value} {e : TypeId} (h : At w b cs e) {g : Nat} (hg : b ≠ g) (o : Nat) (vs : List Value) : At (w.setCells g o vs) b cs e := ((grown_setCells g vs o w).block b h.lt (fun q => hg (Option.some.inj q))).trans h
theorem below_setCells {B : Nat} {a w : World} (h : Below B a w) {g : Nat} (hg : B ≤ g) (o : Nat) (vs : List Value) (hB : B ≤ w.heap.size) : Below B a (w.setCells g o vs) := h.grown (grown_setCells g vs o w) hB (fun k e => by cases e; exact hg)
theorem At.drew {w : World} {b : Nat} {cs : Array Value} {e : TypeId} (h : At w b cs e) : At w.drew b cs e := h
theorem box2 {w : World} {b : Nat} {v0 v1 : Value} {e : TypeId} (h : At w b #[v0, v1] e) : w.cell? ⟨b, 0, none⟩ = some v0 ∧ w.cell? ⟨b, 1, none⟩ = some v1 := by
  unfold At at h
  exact ⟨by simp only [World.cell?, h]; rfl, by simp only [World.cell?, h]; rfl⟩
theorem box9 {w : World} {b : Nat} {v0 v1 v2 v3 v4 v5 v6 v7 v8 : Value} {e : TypeId} (h : At w b #[v0, v1, v2, v3, v4, v5, v6, v7, v8] e) :
    (w.cell? ⟨b, 0, none⟩ = some v0 ∧ w.cell? ⟨b, 1, none⟩ = some v1 ∧ w.cell? ⟨b, 2, none⟩ = some v2 ∧ w.cell? ⟨b, 3, none⟩ = some v3 ∧ w.cell? ⟨b, 4, none⟩ = some v4 ∧ w.cell? ⟨b, 5, none⟩ = some v5 ∧ w.cell? ⟨b, 6, none⟩ = some v6 ∧ w.cell? ⟨b, 7, none⟩ = some v7 ∧ w.cell? ⟨b, 8, none⟩ = some v8) ∧
    w.frozen? ⟨b, 0, none⟩ = false ∧ w.frozen? ⟨b, 1, none⟩ = false ∧ w.frozen? ⟨b, 2, none⟩ = false ∧ w.frozen? ⟨b, 3, none⟩ = false ∧ w.frozen? ⟨b, 4, none⟩ = false ∧ w.frozen? ⟨b, 5, none⟩ = false ∧ w.frozen? ⟨b, 6, none⟩ = false ∧ w.frozen? ⟨b, 7, none⟩ = false ∧ w.frozen? ⟨b, 8, none⟩ = false := by
  unfold At at h
  refine ⟨⟨?_, ?_, ?_, ?_, ?_, ?_, ?_, ?_, ?_⟩, ?_, ?_, ?_, ?_, ?_, ?_, ?_, ?_, ?_⟩ <;> simp only [World.cell?, World.frozen?, h] <;> rfl
theorem box5 {w : World} {b : Nat} {v0 v1 v2 v3 v4 : Value} {e : TypeId} (h : At w b #[v0, v1, v2, v3, v4] e) :
    (w.cell? ⟨b, 0, none⟩ = some v0 ∧ w.cell? ⟨b, 1, none⟩ = some v1 ∧ w.cell? ⟨b, 2, none⟩ = some v2 ∧ w.cell? ⟨b, 3, none⟩ = some v3 ∧ w.cell? ⟨b, 4, none⟩ = some v4) ∧ w.frozen? ⟨b, 0, none⟩ = false ∧ w.frozen? ⟨b, 1, none⟩ = false ∧ w.frozen? ⟨b, 2, none⟩ = false ∧ w.frozen? ⟨b, 3, none⟩ = false ∧ w.frozen? ⟨b, 4, none⟩ = false := by
  unfold At at h
  refine ⟨⟨?_, ?_, ?_, ?_, ?_⟩, ?_, ?_, ?_, ?_, ?_⟩ <;> simp [World.cell?, World.frozen?, h]

/-- Five cells of one block written. -/
theorem own_set5 {w : World} {base : Nat} {e : TypeId} {size n : Nat} {v : Value} {xs : List Value} (h : w.ownsRow base e size v n xs) {b : Nat} (hb : b < base) (v0 v1 v2 v3 v4 : Value) :
    (((((w.setCell ⟨b, 0, none⟩ v0).setCell ⟨b, 1, none⟩ v1).setCell ⟨b, 2, none⟩ v2).setCell ⟨b, 3, none⟩ v3).setCell ⟨b, 4, none⟩ v4).ownsRow base e size v n xs := by
  repeat (refine ownsRow_setCell_below ?_ (by exact hb) _)
  exact h
theorem below_set5 {B : Nat} {a w : World} (h : Below B a w) {b : Nat} (hb : B ≤ b) (v0 v1 v2 v3 v4 : Value) :
    Below B a (((((w.setCell ⟨b, 0, none⟩ v0).setCell ⟨b, 1, none⟩ v1).setCell ⟨b, 2, none⟩ v2).setCell ⟨b, 3, none⟩ v3).setCell ⟨b, 4, none⟩ v4) := by
  repeat (refine Below.setCell ?_ (by exact hb) _)
  exact h

theorem At.set {w : World} {b : Nat} {cs : Array Value} {e : TypeId} (h : At w b cs e) (i : Nat) (u : Value) : At (w.setCell ⟨b, i, none⟩ u) b (cs.setIfInBounds i u) e := by
  unfold At at h ⊢
  have hb := lt_of_block h
  simp only [World.setCell, Array.getElem?_modify, h]
  simp
theorem set9 {w : World} {b : Nat} {z0 z1 z2 z3 z4 z5 z6 z7 z8 : Value} {e : TypeId} (h : At w b #[z0, z1, z2, z3, z4, z5, z6, z7, z8] e) (v0 v1 v2 v3 v4 v5 v6 v7 v8 : Value) :
    At (((((((((w.setCell ⟨b, 0, none⟩ v0).setCell ⟨b, 1, none⟩ v1).setCell ⟨b, 2, none⟩ v2).setCell ⟨b, 3, none⟩ v3).setCell ⟨b, 4, none⟩ v4).setCell ⟨b, 5, none⟩ v5).setCell ⟨b, 6, none⟩ v6).setCell ⟨b, 7, none⟩ v7).setCell ⟨b, 8, none⟩ v8) b #[v0, v1, v2, v3, v4, v5, v6, v7, v8] e := by
  have h9 := ((((((((h.set 0 v0).set 1 v1).set 2 v2).set 3 v3).set 4 v4).set 5 v5).set 6 v6).set 7 v7).set 8 v8
  simp only [List.setIfInBounds_toArray, List.set_cons_zero, List.set_cons_succ] at h9
  exact h9
theorem set5 {w : World} {b : Nat} {z0 z1 z2 z3 z4 : Value} {e : TypeId} (h : At w b #[z0, z1, z2, z3, z4] e) (v0 v1 v2 v3 v4 : Value) :
    At (((((w.setCell ⟨b, 0, none⟩ v0).setCell ⟨b, 1, none⟩ v1).setCell ⟨b, 2, none⟩ v2).setCell ⟨b, 3, none⟩ v3).setCell ⟨b, 4, none⟩ v4) b #[v0, v1, v2, v3, v4] e := by
  have h5 := ((((h.set 0 v0).set 1 v1).set 2 v2).set 3 v3).set 4 v4
  simp only [List.setIfInBounds_toArray, List.set_cons_zero, List.set_cons_succ] at h5
  exact h5

/-- A play's check, in whatever later world. -/
def Chk (w : World) (p : Value) (pl : Int) : Prop := ∀ W, Below w.heap.size w W → Calls prog 15 #[p] W fun e w' => e = .returned (.int .i64 pl) ∧ Below W.heap.size W w'
theorem Chk.below {w W : World} {p : Value} {pl : Int} (h : Chk w p pl) (hb : Below w.heap.size w W) : Chk W p pl := fun W' h' => h W' (hb.trans (h'.mono hb.size))
theorem chk_of {w : World} {y0 y1 : Int → Int} {yo yn eo en lx : Int} {d : Nat → MvD} {n : Nat} {pvv ev mv : Value} (h : Laid w) (hp : IsStr pvv y0 yo yn) (he : IsStr ev y1 eo en) (hm : IsMoves w mv d n) :
    Chk w (.agg #[pvv, ev, .bool (decide (lx ≠ 0)), mv]) (plV y0 yo yn y1 eo en d n) := fun _ hb => chk_w (h.below hb) hp he (hm.below hb)

def oneV (pl x : Int) : Int := if pl = 0 then (if 0 ≤ x ∧ x ≤ 3 then 0 else 3) else pl

/-- A move as a value, its touches in a row of the call's own. -/
def OwnMvV (w : World) (base : Nat) (v : Value) (m : MvD) : Prop := ∃ s bv, v = .agg #[vi m.fr, vi m.to, .bool (decide (m.x ≠ 0)), .string s, bv] ∧ IsStr (.string s) m.y m.so m.sn ∧ w.ownsRow base 3 1 bv m.bn.toNat (vsOf (intsL m.t m.bo m.bn.toNat)) ∧ 0 ≤ m.bn
theorem OwnMvV.is {w : World} {base : Nat} {v : Value} {m : MvD} (h : OwnMvV w base v m) : IsMvV w v m := by
  obtain ⟨s, bv, e, hs, ho, h0⟩ := h
  refine ⟨_, _, e, hs, ?_⟩
  have := intsOf ho
  rw [Int.toNat_of_nonneg h0] at this
  exact this
theorem OwnMvV.parts {w : World} {base : Nat} {v : Value} {m : MvD} (h : OwnMvV w base v m) : ∃ f1 f2 xb s a k c, v = .agg #[.int .i64 f1, .int .i64 f2, .bool xb, .string s, .slice a k c] ∧ m.fr = f1 ∧ m.to = f2 ∧ decide (m.x ≠ 0) = xb ∧ IsStr (.string s) m.y m.so m.sn ∧
    w.ownsRow base 3 1 (.slice a k c) m.bn.toNat (vsOf (intsL m.t m.bo m.bn.toNat)) ∧ 0 ≤ m.bn := by
  obtain ⟨s, bv, rfl, hs, ho, h0⟩ := h
  obtain ⟨a, k, c, rfl⟩ := owns_slice ho
  exact ⟨_, _, _, s, a, k, c, rfl, rfl, rfl, rfl, hs, ho, h0⟩
theorem noM_own (w : World) (base : Nat) : OwnMvV w base noV noM := ⟨_, _, rfl, ⟨[], rfl, rfl, fun j b h => by cases h⟩, World.ownsRow_nil _ _ _ _, Int.le_refl _⟩
theorem OwnMvV.mono {w : World} {base b2 : Nat} {v : Value} {m : MvD} (h : OwnMvV w base v m) (hb : b2 ≤ base) : OwnMvV w b2 v m := let ⟨s, bv, e, hs, ho, h0⟩ := h; ⟨s, bv, e, hs, owns_base ho hb, h0⟩
theorem OwnMvV.below {w W : World} {base : Nat} {v : Value} {m : MvD} (h : OwnMvV w base v m) (hb : Below w.heap.size w W) : OwnMvV W base v m := let ⟨s, bv, e, hs, ho, h0⟩ := h; ⟨s, bv, e, hs, owns_below ho hb, h0⟩
theorem OwnMvV.set5 {w : World} {base : Nat} {v : Value} {m : MvD} (h : OwnMvV w base v m) {b : Nat} (hb : b < base) (v0 v1 v2 v3 v4 : Value) :
    OwnMvV (((((w.setCell ⟨b, 0, none⟩ v0).setCell ⟨b, 1, none⟩ v1).setCell ⟨b, 2, none⟩ v2).setCell ⟨b, 3, none⟩ v3).setCell ⟨b, 4, none⟩ v4) base v m := let ⟨s, bv, e, hs, ho, h0⟩ := h; ⟨s, bv, e, hs, own_set5 ho hb v0 v1 v2 v3 v4, h0⟩
/-- What moveOf answers: its error and its move. -/
def Asked (pl x : Int) (d : Nat → MvD) (n : Nat) (k : Int) (m : MvD) : Prop :=
  (oneV pl x ≠ 0 ∧ k = oneV pl x ∧ m = noM) ∨ (oneV pl x = 0 ∧ k = 7 ∧ m = noM ∧ ∀ j, j < n → (d j).fr ≠ x) ∨ (oneV pl x = 0 ∧ k = 0 ∧ ∃ i, i < n ∧ m = d i ∧ (d i).fr = x ∧ ∀ j, j < i → (d j).fr ≠ x)
def AskedW (pl x : Int) (d : Nat → MvD) (n : Nat) (B : Nat) (e : Ending) (w' : World) : Prop := ∃ v k m, e = .returned (.tuple #[v, .int .i64 k]) ∧ OwnMvV w' B v m ∧ Asked pl x d n k m

section
variable {w : World} {pl x : Int} {lx : Bool} {pvv ev : Value} {ad0 : Option Addr} {n c : Nat}
theorem moveOf_bad (hc : Chk w (.agg #[pvv, ev, .bool lx, .slice ad0 n c]) pl) (hne : oneV pl x ≠ 0) :
    Calls prog 92 #[.agg #[pvv, ev, .bool lx, .slice ad0 n c], .int .i64 x] w fun e w' => e = .returned (.tuple #[noV, .int .i64 (oneV pl x)]) ∧ Below w.heap.size w w' := by
  have hB : Below w.heap.size w ((w.alloc (.cells #[pvv, ev, .bool lx, .slice ad0 n c] 24)).alloc (.cells #[.int .i64 0, .int .i64 0, .bool false, .string ⟨#[]⟩, .slice none 0 0] 27)) := ((Below.refl _ _).alloc (Nat.le_refl _) _).alloc (by simp) _
  have cC := hc _ hB
  unfold oneV at hne ⊢
  obtain ⟨r, hr⟩ : ∃ r : Int, (if 0 ≤ x ∧ x ≤ 3 then (0 : Int) else 3) = r := ⟨_, rfl⟩
  have cW : ∀ W : World, Calls prog 76 #[.int .i64 x, .int .i64 0, .int .i64 3] W fun e w' => e = .returned (.int .i64 r) ∧ w' = W := fun W => by rw [← hr]; exact within_w x 0 3 W
  rw [hr] at hne ⊢
  obtain ⟨v, hv⟩ : ∃ v : Int, (if pl = 0 then r else pl) = v := ⟨_, rfl⟩
  have cF : ∀ (b : Nat) (W : World), W.cell? ⟨b, 0, none⟩ = some (.int .i64 pl) → W.cell? ⟨b, 1, none⟩ = some (.int .i64 r) → Calls prog 70 #[.slice (some ⟨b, 0, none⟩) 2 2] W fun e w' => e = .returned (.int .i64 v) ∧ Below W.heap.size W w' := fun b W h0 h1 => by rw [← hv]; exact first_w b pl r W h0 h1
  rw [hv] at hne ⊢
  clear hv hr hc
  go_enter func92, ntmps92
  go_wp2_with (first
    | (go_at_call 15; refine cC.mono ?_; rintro e w2 ⟨rfl, hk2⟩)
    | (go_at_call 76; refine (cW _).mono ?_; rintro e w3 ⟨rfl, rfl⟩)
    | (go_at_call 70; refine (cF _ _ (by simp) (by simp)).mono ?_; rintro e w4 ⟨rfl, hk4⟩; have hr1 := (((at2_1 _ _ _ _ _).below hk2 (by rw [size2]; omega)).alloc _).below hk4 ((((at2_1 _ _ _ _ _).below hk2 (by rw [size2]; omega)).alloc _).lt); obtain ⟨⟨y0, y1, y2, y3, y4⟩, g0, g1, g2, g3, g4⟩ := box5 hr1)
    | go_in)
  have hsz : w.heap.size + 2 ≤ w3.heap.size := by have := hk2.size; rw [size2] at this; exact this
  have hb4 : Below w.heap.size w w4 := (hB.trans (hk2.mono (by rw [size2]; omega))).trans ((((Below.refl _ _).alloc (Nat.le_refl _) _).trans (hk4.mono (by simp))).mono (by omega))
  refine bodyPost_ret (v := .tuple #[noV, .int .i64 v]) (by simp [results, results92, go_sem, noV, World.cell?_setCell_same, y0, y1, y2, y3, y4]) rfl ⟨rfl, below_set5 hb4 (by omega) _ _ _ _ _⟩

/-- The move that a run of moves is asked for. -/
theorem moveOf_go (hc : Chk w (.agg #[pvv, ev, .bool lx, .slice ad0 n c]) 0) (h0 : 0 ≤ x) (h3 : x ≤ 3) {d : Nat → MvD} (hm : IsMoves w (.slice ad0 n c) d n) (hn : n ≤ 1000000) (hb : ∀ i, i < n → (d i).bn ≤ 1000000) :
    Calls prog 92 #[.agg #[pvv, ev, .bool lx, .slice ad0 n c], .int .i64 x] w fun e w' => AskedW 0 x d n w.heap.size e w' ∧ Below w.heap.size w w' := by
  have h1v : oneV 0 x = 0 := by unfold oneV; rw [if_pos rfl, if_pos ⟨h0, h3⟩]
  obtain ⟨a1, c1, e1, hnc, hM0⟩ := hm
  simp only [Value.slice.injEq, true_and] at e1
  obtain ⟨rfl, rfl⟩ := e1
  have hB : Below w.heap.size w ((w.alloc (.cells #[pvv, ev, .bool lx, .slice ad0 n c] 24)).alloc (.cells #[.int .i64 0, .int .i64 0, .bool false, .string ⟨#[]⟩, .slice none 0 0] 27)) := ((Below.refl _ _).alloc (Nat.le_refl _) _).alloc (by simp) _
  have cC := hc _ hB
  have cW : ∀ W : World, Calls prog 76 #[.int .i64 x, .int .i64 0, .int .i64 3] W fun e w' => e = .returned (.int .i64 0) ∧ w' = W := fun W => by have := within_w x 0 3 W; rw [if_pos ⟨h0, h3⟩] at this; exact this
  have cF : ∀ (b : Nat) (W : World), W.cell? ⟨b, 0, none⟩ = some (.int .i64 0) → W.cell? ⟨b, 1, none⟩ = some (.int .i64 0) → Calls prog 70 #[.slice (some ⟨b, 0, none⟩) 2 2] W fun e w' => e = .returned (.int .i64 0) ∧ Below W.heap.size W w' := fun b W h0 h1 => first_w b 0 0 W h0 h1
  clear hc
  go_enter func92, ntmps92
  go_wp2_with (first
    | (go_at_call 15; refine cC.mono ?_; rintro e w2 ⟨rfl, hk2⟩)
    | (go_at_call 76; refine (cW _).mono ?_; rintro e w3 ⟨rfl, rfl⟩)
    | (go_at_call 70; refine (cF _ _ (by simp) (by simp)).mono ?_; rintro e w4 ⟨rfl, hk4⟩; have hr0 := (((at2_0 _ _ _ _ _).below hk2 (by rw [size2]; omega)).alloc _).below hk4 ((((at2_0 _ _ _ _ _).below hk2 (by rw [size2]; omega)).alloc _).lt); have hr1 := (((at2_1 _ _ _ _ _).below hk2 (by rw [size2]; omega)).alloc _).below hk4 ((((at2_1 _ _ _ _ _).below hk2 (by rw [size2]; omega)).alloc _).lt); obtain ⟨⟨y0, y1, y2, y3⟩, g0, g1, g2, g3⟩ := box4 hr0)
    | go_in)
  have hsz : w.heap.size + 2 ≤ w3.heap.size := by have := hk2.size; rw [size2] at this; exact this
  have hb4 : Below w.heap.size w w4 := (hB.trans (hk2.mono (by rw [size2]; omega))).trans ((((Below.refl _ _).alloc (Nat.le_refl _) _).trans (hk4.mono (by simp))).mono (by omega))
  clear y0 y1 y2 y3 g0 g1 g2 g3 hr0
  go_loopw [22] (fun s wr => ∃ i : Nat, i ≤ n ∧ s = .int .i64 i ∧ (∀ j, j < i → (d j).fr ≠ x) ∧ At wr (w.heap.size + 1) #[.int .i64 0, .int .i64 0, .bool false, .string ⟨#[]⟩, .slice none 0 0] 27 ∧ Below w.heap.size w wr) (fun s _ => n - (numOf' s).toNat)
  case atStart => exact ⟨0, Nat.zero_le _, rfl, fun j hj => absurd hj (Nat.not_lt_zero _), hr1, hb4⟩
  case round =>
    clear hr1 hb4 hk4 hk2 hsz
    obtain ⟨i, hi, rfl, hno, hr1, hbel⟩ := hrel
    have hwr := hr1.lt
    by_cases hin : i < n
    · obtain ⟨b, off, rfl, hM⟩ := hM0 (by omega)
      obtain ⟨s, ad, m, cc, hmv⟩ := mv_at ((hM i hin).below hbel)
      have hb1 := hb i hin
      clear hM hM0 hb
      have hint := hmv.ints
      obtain ⟨p0, p1, p2, p3, p4, hstr, -, hbn, -⟩ := hmv
      obtain ⟨xb, hxb⟩ : ∃ xb : Bool, decide ((d i).x ≠ 0) = xb := ⟨_, rfl⟩
      rw [hxb] at p2
      obtain ⟨f1, hf1⟩ : ∃ f1, (d i).fr = f1 := ⟨_, rfl⟩
      obtain ⟨f2, hf2⟩ : ∃ f2, (d i).to = f2 := ⟨_, rfl⟩
      rw [hf1] at p0
      rw [hf2] at p1
      by_cases hx : f1 = x
      · subst hx
        have hBw : Below wr.heap.size wr (wr.alloc (.cells #[.int .i64 f1, .int .i64 f2, .bool xb, .string s, .slice ad m cc] 27)) := (Below.refl _ _).alloc (Nat.le_refl _) _
        have cL := clone_any (hint.below hBw) hb1
        clear hint
        go_wp2_with (first
          | (go_at_call 133; refine cL.mono ?_; rintro e w5 ⟨bv, rfl, hbv, hk5⟩; obtain ⟨a5, k5, c5, rfl⟩ := owns_slice hbv; have hx5 := (at_new _ _ _).below hk5 (At.lt (at_new _ _ _)); have hr5 := (hr1.alloc _).below hk5 (hr1.alloc _).lt; obtain ⟨⟨x0, x1, x2, x3, x4⟩, z0, z1, z2, z3, z4⟩ := box5 hx5; have hr6 := hr5.setCell (a := ⟨wr.heap.size, 4, none⟩) (by simp; omega) (.slice a5 k5 c5); obtain ⟨⟨y0, y1, y2, y3, y4⟩, g0, g1, g2, g3, g4⟩ := box5 hr6)
          | go_in)
        have hb5 : Below w.heap.size w w5 := (hbel.alloc hbel.size _).trans (hk5.mono (by have := hbel.size; simp; omega))
        have hs5 : wr.heap.size < w5.heap.size := by have := hk5.size; simp at this; omega
        have hb0 : 0 ≤ (d i).bn := by omega
        have own6 := own_set5 (ownsRow_setCell_below hbv (a := ⟨wr.heap.size, 4, none⟩) (by simp) (.slice a5 k5 c5)) (b := w.heap.size + 1) (by simp; omega) (.int .i64 f1) (.int .i64 f2) (.bool xb) (.string s) (.slice a5 k5 c5)
        refine bodyPost_ret (v := .tuple #[.agg #[.int .i64 f1, .int .i64 f2, .bool xb, .string s, .slice a5 k5 c5], .int .i64 0]) (by simp [results, results92, go_sem, World.cell?_setCell_same, y0, y1, y2, y3, y4]) rfl ⟨⟨_, _, d i, rfl, ?_, .inr (.inr ⟨h1v, rfl, i, hin, rfl, hf1, hno⟩)⟩, below_set5 (hb5.setCell (p := ⟨wr.heap.size, 4, none⟩) (by simp; omega) _) (by omega) _ _ _ _ _⟩
        exact ⟨s, _, by rw [hf1, hf2, hxb]; rfl, hstr, owns_base own6 (by simp; omega), hb0⟩
      · have hno' : ∀ j, j < i + 1 → (d j).fr ≠ x := fun j hj => by
          by_cases hji : j = i
          · subst hji; rw [hf1]; exact hx
          · exact hno j (by omega)
        clear hno hint hxb hf1 hf2
        go_wp2
        go_roundw
        case rel => exact ⟨i + 1, by omega, by go_num, hno', hr1.alloc _, hbel.alloc hbel.size _⟩
        case measure => simp [numOf'] <;> omega
    · obtain rfl : i = n := by omega
      clear hM0 hb
      obtain ⟨⟨y0, y1, y2, y3, y4⟩, g0, g1, g2, g3, g4⟩ := box5 hr1
      go_wp2
      refine bodyPost_ret (v := .tuple #[noV, .int .i64 7]) (by simp [results, results92, go_sem, noV, World.cell?_setCell_same, y0, y1, y2, y3, y4]) rfl ⟨⟨_, _, noM, rfl, noM_own _ _, .inr (.inl ⟨h1v, rfl, rfl, hno⟩)⟩, below_set5 hbel (by omega) _ _ _ _ _⟩
theorem moveOf_w (hc : Chk w (.agg #[pvv, ev, .bool lx, .slice ad0 n c]) pl) {d : Nat → MvD} (hm : IsMoves w (.slice ad0 n c) d n) (hn : n ≤ 1000000) (hb : ∀ i, i < n → (d i).bn ≤ 1000000) :
    Calls prog 92 #[.agg #[pvv, ev, .bool lx, .slice ad0 n c], .int .i64 x] w fun e w' => AskedW pl x d n w.heap.size e w' ∧ Below w.heap.size w w' := by
  by_cases h : oneV pl x = 0
  · have h' := h
    unfold oneV at h'
    by_cases hp : pl = 0
    · rw [if_pos hp] at h'
      by_cases hx : 0 ≤ x ∧ x ≤ 3
      · subst hp; exact moveOf_go hc hx.1 hx.2 hm hn hb
      · rw [if_neg hx] at h'; cases h'
    · rw [if_neg hp] at h'; exact absurd h' hp
  · refine (moveOf_bad hc h).mono ?_
    rintro e w' ⟨rfl, hB⟩
    exact ⟨⟨_, _, noM, rfl, noM_own _ _, .inl ⟨h, rfl, rfl⟩⟩, hB⟩

theorem moveOf26_w (hc : Chk w (.agg #[pvv, ev, .bool lx, .slice ad0 n c]) pl) {d : Nat → MvD} (hm : IsMoves w (.slice ad0 n c) d n) (hn : n ≤ 1000000) (hb : ∀ i, i < n → (d i).bn ≤ 1000000) :
    Calls prog 26 #[.agg #[pvv, ev, .bool lx, .slice ad0 n c], .int .i64 x] w fun e w' => AskedW pl x d n w.heap.size e w' ∧ Below w.heap.size w w' := by
  have hB : Below w.heap.size w ((w.alloc (.cells #[pvv, ev, .bool lx, .slice ad0 n c] 24)).alloc (.cells #[.int .i64 0, .int .i64 0, .bool false, .string ⟨#[]⟩, .slice none 0 0] 27)) := ((Below.refl _ _).alloc (Nat.le_refl _) _).alloc (by simp) _
  have cM := moveOf_w (x := x) (hc.below hB) (hm.below hB) hn hb
  clear hc hm hb
  go_enter func26, ntmps26
  go_wp2_with (first
    | (go_at_call 92; refine cM.mono ?_; rintro e w2 ⟨⟨v, k, m, rfl, hv, ha⟩, hk2⟩; obtain ⟨f1, f2, xb, s, a5, k5, c5, rfl, hf1, hf2, hxb, hs, ho, h0⟩ := hv.parts; have hr1 := (at2_1 _ _ _ _ _).below hk2 (by rw [size2]; omega); obtain ⟨⟨y0, y1, y2, y3, y4⟩, g0, g1, g2, g3, g4⟩ := box5 hr1)
    | go_in)
  have hb2 : Below w.heap.size w w2 := hB.trans (hk2.mono (by rw [size2]; omega))
  rw [size2] at ho
  refine bodyPost_ret (v := .tuple #[.agg #[.int .i64 f1, .int .i64 f2, .bool xb, .string s, .slice a5 k5 c5], .int .i64 k]) (by simp [results, results26, go_sem, World.cell?_setCell_same, y0, y1, y2, y3, y4]) rfl ⟨⟨_, _, m, rfl, ⟨s, _, by rw [hf1, hf2, hxb]; rfl, hs, owns_base (own_set5 ho (by omega) _ _ _ _ _) (by omega), h0⟩, ha⟩, below_set5 hb2 (by omega) _ _ _ _ _⟩
end
end Go.Proofs.Tryz

namespace Go.Proofs.Tryz
open Go Go.Am Go.RowKit Go.Dr
set_option maxRecDepth 100000

/-- Who made the putouts of the first moves. -/
def lastT (m : MvD) : Int := m.t (m.bo + ((m.bn.toNat - 1 : Nat) : Int))
def putK (d : Nat → MvD) : Nat → List Int
  | 0 => []
  | i + 1 => putK d i ++ (if (d i).x = 0 then [] else [lastT (d i)])
theorem length_putK (d : Nat → MvD) : ∀ i, (putK d i).length ≤ i
  | 0 => Nat.le_refl _
  | i + 1 => by
    have := length_putK d i
    rw [putK, List.length_append]
    split <;> simp <;> omega

/-- What Putouts answers. -/
def PutsW (pl : Int) (d : Nat → MvD) (n B : Nat) (e : Ending) (w' : World) : Prop := ∃ v, e = .returned (.tuple #[v, .int .i64 pl]) ∧ w'.ownsRow B 3 1 v (if pl = 0 then putK d n else []).length (vsOf (if pl = 0 then putK d n else []))
def PutsR (d : Nat → MvD) (n B : Nat) (e : Ending) (w' : World) : Prop := ∃ v, e = .returned v ∧ w'.ownsRow B 3 1 v (putK d n).length (vsOf (putK d n))

section
variable {w : World} {pl x : Int} {lx : Bool} {pvv ev : Value} {ad0 : Option Addr} {n c : Nat}
theorem puts_bad (hc : Chk w (.agg #[pvv, ev, .bool lx, .slice ad0 n c]) pl) (hne : ¬ pl = 0) :
    Calls prog 28 #[.agg #[pvv, ev, .bool lx, .slice ad0 n c]] w fun e w' => e = .returned (.tuple #[.slice none 0 0, .int .i64 pl]) ∧ Below w.heap.size w w' := by
  have hB : Below w.heap.size w (w.alloc (.cells #[pvv, ev, .bool lx, .slice ad0 n c] 24)) := (Below.refl _ _).alloc (Nat.le_refl _) _
  have cC := hc _ hB
  clear hc
  go_enter func28, ntmps28
  go_wp2_with (first
    | (go_at_call 15; refine cC.mono ?_; rintro e w2 ⟨rfl, hk2⟩)
    | go_in)
  go_ret2
  exact ⟨rfl, hB.trans (hk2.mono (by simp))⟩

set_option maxHeartbeats 1600000 in
theorem puts_go (hc : Chk w (.agg #[pvv, ev, .bool lx, .slice ad0 n c]) 0) {d : Nat → MvD} (hm : IsMoves w (.slice ad0 n c) d n) (hv : Val d n) :
    Calls prog 28 #[.agg #[pvv, ev, .bool lx, .slice ad0 n c]] w fun e w' => PutsW 0 d n w.heap.size e w' ∧ Below w.heap.size w w' := by
  obtain ⟨a1, c1, e1, hnc, hM0⟩ := hm
  simp only [Value.slice.injEq, true_and] at e1
  obtain ⟨rfl, rfl⟩ := e1
  obtain ⟨i0, hi0, hz0, hz1, hz2⟩ := info_parts info3
  have hB : Below w.heap.size w (w.alloc (.cells #[pvv, ev, .bool lx, .slice ad0 n c] 24)) := (Below.refl _ _).alloc (Nat.le_refl _) _
  have cC := hc _ hB
  clear hc
  go_enter func28, ntmps28
  go_wp2_with (first
    | (go_at_call 15; refine cC.mono ?_; rintro e w2 ⟨rfl, hk2⟩; have hr0 := (at_new _ _ _).below hk2 (At.lt (at_new _ _ _)); obtain ⟨⟨y0, y1, y2, y3⟩, g0, g1, g2, g3⟩ := box4 hr0)
    | go_in)
  have hb2 : Below w.heap.size w w2 := hB.trans (hk2.mono (by simp))
  have hs2 := hb2.size
  clear y0 y1 y2 y3 g0 g1 g2 g3 hr0
  go_loopw [5, 16] (fun r s wr => ∃ (i : Nat) (v : Value), i ≤ n ∧ s = .int .i64 i ∧ v = r ∧ wr.ownsRow w.heap.size 3 1 v (putK d i).length (vsOf (putK d i)) ∧ Below w.heap.size w wr) (fun _ s _ => n - (numOf' s).toNat)
  case atStart => exact ⟨0, _, Nat.zero_le _, rfl, rfl, World.ownsRow_nil _ _ _ _, hb2⟩
  case round =>
    clear hb2 hs2 hk2
    obtain ⟨i, v, hi, rfl, rfl, hown, hbel⟩ := hrel
    by_cases hin : i < n
    · obtain ⟨b, off, rfl, hM⟩ := hM0 (by omega)
      obtain ⟨s, ad, m, cc, hmv⟩ := mv_at ((hM i hin).below hbel)
      have hn4 := hv.n4
      have hout := hv.out i hin
      have hbn9 := hv.bn i hin
      clear hM hM0 hv
      have hlen := length_putK d i
      obtain ⟨p0, p1, p2, p3, p4, hstr, -, hbn, hrow⟩ := hmv
      obtain ⟨f1, hf1⟩ : ∃ f1, (d i).fr = f1 := ⟨_, rfl⟩
      obtain ⟨f2, hf2⟩ : ∃ f2, (d i).to = f2 := ⟨_, rfl⟩
      rw [hf1] at p0
      rw [hf2] at p1
      clear hf1 hf2
      by_cases hx : (d i).x = 0
      · have eK : putK d (i + 1) = putK d i := by rw [putK, if_pos hx, List.append_nil]
        have hxb : decide ((d i).x ≠ 0) = false := by simp [hx]
        rw [hxb] at p2
        have hown' : (wr.alloc (.cells #[.int .i64 f1, .int .i64 f2, .bool false, .string s, .slice ad m cc] 27)).ownsRow w.heap.size 3 1 v (putK d (i + 1)).length (vsOf (putK d (i + 1))) := by rw [eK]; exact hown.alloc _
        clear hown hrow hx hxb hout eK
        go_wp2
        go_roundw
        case rel => exact ⟨i + 1, _, by omega, by go_num, rfl, hown', hbel.alloc hbel.size _⟩
        case measure => simp [numOf'] <;> omega
      · have eK : putK d (i + 1) = putK d i ++ [lastT (d i)] := by rw [putK, if_neg hx]
        have hxb : decide ((d i).x ≠ 0) = true := by simp [hx]
        rw [hxb] at p2
        have h1 := hout hx
        obtain ⟨b2, o2, rfl, hj⟩ := hrow (by omega)
        have hl := hj (m - 1) (by omega)
        have el : (d i).t ((d i).bo + ((m - 1 : Nat) : Int)) = lastT (d i) := by unfold lastT; rw [← hbn]; simp
        rw [el] at hl
        obtain ⟨z, hz⟩ : ∃ z, lastT (d i) = z := ⟨_, rfl⟩
        rw [hz] at hl
        rw [hz] at eK
        have hm1 : 1 ≤ m := by omega
        have hm9 : m ≤ 9 := by omega
        clear hj hrow el hx hout hxb hz hbn h1 hbn9
        have hl := (World.cell?_alloc_past (w := wr) (.cells #[.int .i64 f1, .int .i64 f2, .bool true, .string s, .slice (some ⟨b2, o2, none⟩) m cc] 27) b2 _ (cell_under hl)).trans hl
        have hbelA : Below w.heap.size w (wr.alloc (.cells #[.int .i64 f1, .int .i64 f2, .bool true, .string s, .slice (some ⟨b2, o2, none⟩) m cc] 27)) := hbel.alloc hbel.size _
        go_wp2_with (first
          | (at_builtin; refine wpList_append_own _ rfl _ _ 25 rfl w.heap.size 3 i0 (.int .i64 0) 1 8 underlying25 hi0 hz0 hz1 hz2 rfl (by decide) _ _ _ rfl ((hown.alloc _).alloc _) ⟨wr.heap.size + 1, 0, none⟩ 1 1 [.int .i64 z] rfl rfl ?c1 ?c2 ?c3 ?c4 ?c5 ?_)
          | go_in)
        case c1 =>
          intro j u hj
          match j, hj with
          | 0, hj => simp at hj; subst hj; simp [Addr.add]
        case c2 => intro u hu; simp at hu; subst hu; rfl
        case c3 => unfold maxLen; omega
        case c4 => omega
        case c5 => have := hbel.size; simp; omega
        intro v' w3 hown3 hgrow _
        have hb3 : Below w.heap.size w w3 := (hbelA.alloc hbelA.size _).grown hgrow (by have := hbelA.size; simp at this ⊢; omega) (fun q hq => by have := (hown.lt q hq).1; omega)
        have ho3 : w3.ownsRow w.heap.size 3 1 v' (putK d (i + 1)).length (vsOf (putK d (i + 1))) := by
          rw [eK]; simpa [vsOf] using hown3
        clear hown3 hgrow hown eK
        go_wp2
        go_roundw
        case rel => exact ⟨i + 1, _, by omega, by go_num, rfl, ho3, hb3⟩
        case measure => simp [numOf'] <;> omega
    · obtain rfl : i = n := by omega
      clear hM0 hv
      go_wp2
      go_ret2
      exact ⟨⟨_, rfl, by rw [if_pos rfl]; exact hown⟩, hbel⟩
theorem puts_w (hc : Chk w (.agg #[pvv, ev, .bool lx, .slice ad0 n c]) pl) {d : Nat → MvD} (hm : IsMoves w (.slice ad0 n c) d n) (hv : pl = 0 → Val d n) :
    Calls prog 28 #[.agg #[pvv, ev, .bool lx, .slice ad0 n c]] w fun e w' => PutsW pl d n w.heap.size e w' ∧ Below w.heap.size w w' := by
  by_cases h : pl = 0
  · subst h; exact puts_go hc hm (hv rfl)
  · refine (puts_bad hc h).mono ?_
    rintro e w' ⟨rfl, hB⟩
    exact ⟨⟨_, rfl, by rw [if_neg h]; exact World.ownsRow_nil _ _ _ _⟩, hB⟩

set_option maxHeartbeats 1600000 in
theorem putsR_w {d : Nat → MvD} (hm : IsMoves w (.slice ad0 n c) d n) (hv : Val d n) :
    Calls prog 33 #[.agg #[pvv, ev, .bool lx, .slice ad0 n c]] w fun e w' => PutsR d n w.heap.size e w' ∧ Below w.heap.size w w' := by
  obtain ⟨a1, c1, e1, hnc, hM0⟩ := hm
  simp only [Value.slice.injEq, true_and] at e1
  obtain ⟨rfl, rfl⟩ := e1
  obtain ⟨i0, hi0, hz0, hz1, hz2⟩ := info_parts info3
  have hb2 : Below w.heap.size w (w.alloc (.cells #[pvv, ev, .bool lx, .slice ad0 n c] 24)) := (Below.refl _ _).alloc (Nat.le_refl _) _
  go_enter func33, ntmps33
  go_wp2
  go_loopw [3, 4] (fun r s wr => ∃ (i : Nat) (v : Value), i ≤ n ∧ s = .int .i64 i ∧ v = r ∧ wr.ownsRow (w.heap.size + 1) 3 1 v (putK d i).length (vsOf (putK d i)) ∧ At wr w.heap.size #[pvv, ev, .bool lx, .slice ad0 n c] 24 ∧ Below w.heap.size w wr) (fun _ s _ => n - (numOf' s).toNat)
  case atStart => exact ⟨0, _, Nat.zero_le _, rfl, rfl, World.ownsRow_nil _ _ _ _, at_new _ _ _, hb2⟩
  case round =>
    clear hb2
    obtain ⟨i, v, hi, rfl, rfl, hown, hbox, hbel⟩ := hrel
    have hc3 : wr.cell? ⟨w.heap.size, 3, none⟩ = some (.slice ad0 n c) := (box4 hbox).1.2.2.2
    by_cases hin : i < n
    · obtain ⟨b, off, rfl, hM⟩ := hM0 (by omega)
      obtain ⟨s, ad, m, cc, hmv⟩ := mv_at ((hM i hin).below hbel)
      have hn4 := hv.n4
      have hout := hv.out i hin
      have hbn9 := hv.bn i hin
      clear hM hM0 hv
      have hlen := length_putK d i
      obtain ⟨p0, p1, p2, p3, p4, hstr, -, hbn, hrow⟩ := hmv
      obtain ⟨f1, hf1⟩ : ∃ f1, (d i).fr = f1 := ⟨_, rfl⟩
      obtain ⟨f2, hf2⟩ : ∃ f2, (d i).to = f2 := ⟨_, rfl⟩
      rw [hf1] at p0
      rw [hf2] at p1
      clear hf1 hf2
      by_cases hx : (d i).x = 0
      · have eK : putK d (i + 1) = putK d i := by rw [putK, if_pos hx, List.append_nil]
        have hxb : decide ((d i).x ≠ 0) = false := by simp [hx]
        rw [hxb] at p2
        have hown' : (wr.alloc (.cells #[.int .i64 f1, .int .i64 f2, .bool false, .string s, .slice ad m cc] 27)).ownsRow (w.heap.size + 1) 3 1 v (putK d (i + 1)).length (vsOf (putK d (i + 1))) := by rw [eK]; exact hown.alloc _
        clear hown hrow hx hxb hout eK
        go_wp2
        go_roundw
        case rel => exact ⟨i + 1, _, by omega, by go_num, rfl, hown', hbox.alloc _, hbel.alloc hbel.size _⟩
        case measure => simp [numOf'] <;> omega
      · have eK : putK d (i + 1) = putK d i ++ [lastT (d i)] := by rw [putK, if_neg hx]
        have hxb : decide ((d i).x ≠ 0) = true := by simp [hx]
        rw [hxb] at p2
        have h1 := hout hx
        obtain ⟨b2, o2, rfl, hj⟩ := hrow (by omega)
        have hl := hj (m - 1) (by omega)
        have el : (d i).t ((d i).bo + ((m - 1 : Nat) : Int)) = lastT (d i) := by unfold lastT; rw [← hbn]; simp
        rw [el] at hl
        obtain ⟨z, hz⟩ : ∃ z, lastT (d i) = z := ⟨_, rfl⟩
        rw [hz] at hl
        rw [hz] at eK
        have hm1 : 1 ≤ m := by omega
        have hm9 : m ≤ 9 := by omega
        clear hj hrow el hx hout hxb hz hbn h1 hbn9
        have hl := (World.cell?_alloc_past (w := wr) (.cells #[.int .i64 f1, .int .i64 f2, .bool true, .string s, .slice (some ⟨b2, o2, none⟩) m cc] 27) b2 _ (cell_under hl)).trans hl
        have hbelA : Below w.heap.size w (wr.alloc (.cells #[.int .i64 f1, .int .i64 f2, .bool true, .string s, .slice (some ⟨b2, o2, none⟩) m cc] 27)) := hbel.alloc hbel.size _
        go_wp2_with (first
          | (at_builtin; refine wpList_append_own _ rfl _ _ 25 rfl (w.heap.size + 1) 3 i0 (.int .i64 0) 1 8 underlying25 hi0 hz0 hz1 hz2 rfl (by decide) _ _ _ rfl ((hown.alloc _).alloc _) ⟨wr.heap.size + 1, 0, none⟩ 1 1 [.int .i64 z] rfl rfl ?c1 ?c2 ?c3 ?c4 ?c5 ?_)
          | go_in)
        case c1 =>
          intro j u hj
          match j, hj with
          | 0, hj => simp at hj; subst hj; simp [Addr.add]
        case c2 => intro u hu; simp at hu; subst hu; rfl
        case c3 => unfold maxLen; omega
        case c4 => omega
        case c5 => have := hbox.lt; simp; omega
        intro v' w3 hown3 hgrow _
        have hb3 : Below w.heap.size w w3 := (hbelA.alloc hbelA.size _).grown hgrow (by have := hbelA.size; simp at this ⊢; omega) (fun q hq => by have := (hown.lt q hq).1; omega)
        have ho3 : w3.ownsRow (w.heap.size + 1) 3 1 v' (putK d (i + 1)).length (vsOf (putK d (i + 1))) := by
          rw [eK]; simpa [vsOf] using hown3
        have hx3 : At w3 w.heap.size #[pvv, ev, .bool lx, .slice (some ⟨b, off, none⟩) n c] 24 := (hgrow.block _ ((hbox.alloc _).alloc _).lt (fun e => by have := (hown.lt _ e.symm).1; omega)).trans ((hbox.alloc _).alloc _)
        clear hown3 hgrow hown eK
        go_wp2
        go_roundw
        case rel => exact ⟨i + 1, _, by omega, by go_num, rfl, ho3, hx3, hb3⟩
        case measure => simp [numOf'] <;> omega
    · obtain rfl : i = n := by omega
      clear hM0 hv
      go_wp2
      go_ret
      exact ⟨⟨_, rfl, owns_base hown (Nat.le_succ _)⟩, hbel⟩

/-- The first move of a runner, among those from a place on; -1 if there is none. -/
def IdxOf (d : Nat → MvD) (n : Nat) (x k : Int) : Prop := (k = -1 ∧ ∀ j, j < n → (d j).fr ≠ x) ∨ ∃ i : Nat, k = i ∧ i < n ∧ (d i).fr = x ∧ ∀ j, j < i → (d j).fr ≠ x
def IdxW (d : Nat → MvD) (n : Nat) (x : Int) (e : Ending) : Prop := ∃ k, e = .returned (.int .i64 k) ∧ IdxOf d n x k
theorem moveOfR_w {d : Nat → MvD} (hm : IsMoves w (.slice ad0 n c) d n) (hn : n ≤ 1000000) :
    Calls prog 34 #[.agg #[pvv, ev, .bool lx, .slice ad0 n c], .int .i64 x] w fun e w' => IdxW d n x e ∧ Below w.heap.size w w' := by
  obtain ⟨a1, c1, e1, hnc, hM0⟩ := hm
  simp only [Value.slice.injEq, true_and] at e1
  obtain ⟨rfl, rfl⟩ := e1
  have hb2 : Below w.heap.size w (w.alloc (.cells #[pvv, ev, .bool lx, .slice ad0 n c] 24)) := (Below.refl _ _).alloc (Nat.le_refl _) _
  go_enter func34, ntmps34
  go_wp2
  go_loopw [4, 5] (fun r s wr => ∃ (i : Nat), i ≤ n ∧ s = .int .i64 i ∧ r = .int .i64 0 ∧ (∀ j, j < i → (d j).fr ≠ x) ∧ At wr w.heap.size #[pvv, ev, .bool lx, .slice ad0 n c] 24 ∧ Below w.heap.size w wr) (fun _ s _ => n - (numOf' s).toNat)
  case atStart => exact ⟨0, Nat.zero_le _, rfl, rfl, fun j hj => absurd hj (Nat.not_lt_zero _), at_new _ _ _, hb2⟩
  case round =>
    clear hb2
    obtain ⟨i, hi, rfl, rfl, hno, hbox, hbel⟩ := hrel
    have hc3 : wr.cell? ⟨w.heap.size, 3, none⟩ = some (.slice ad0 n c) := (box4 hbox).1.2.2.2
    by_cases hin : i < n
    · obtain ⟨b, off, rfl, hM⟩ := hM0 (by omega)
      obtain ⟨s, ad, m, cc, hmv⟩ := mv_at ((hM i hin).below hbel)
      clear hM hM0
      obtain ⟨p0, p1, p2, p3, p4, -, -, -, -⟩ := hmv
      obtain ⟨f1, hf1⟩ : ∃ f1, (d i).fr = f1 := ⟨_, rfl⟩
      rw [hf1] at p0
      clear p1 p2 p3 p4
      by_cases hx : f1 = x
      · subst hx
        go_wp2
        go_ret
        exact ⟨⟨_, rfl, .inr ⟨i, rfl, hin, hf1, hno⟩⟩, hbel⟩
      · have hno' : ∀ j, j < i + 1 → (d j).fr ≠ x := fun j hj => by
          by_cases hji : j = i
          · subst hji; rw [hf1]; exact hx
          · exact hno j (by omega)
        clear hno hf1
        go_wp2
        go_roundw
        case rel => exact ⟨i + 1, by omega, by go_num, rfl, hno', hbox, hbel⟩
        case measure => simp [numOf'] <;> omega
    · obtain rfl : i = n := by omega
      clear hM0
      go_wp2
      go_ret
      exact ⟨⟨_, rfl, .inl ⟨rfl, hno⟩⟩, hbel⟩
end

theorem sameMove_w {a b : Value} {m : MvD} {w : World} (h1 : IsMvV w a m) (h2 : IsMvV w b m) (hn : m.bn ≤ 1000000) : Calls prog 36 #[a, b] w fun e w' => e = .returned (.bool true) ∧ Below w.heap.size w w' := by
  obtain ⟨s1, b1, rfl, hs1, hi1⟩ := h1
  obtain ⟨s2, b2, rfl, hs2, hi2⟩ := h2
  obtain rfl := str_eq hs1 hs2
  obtain ⟨l, rfl, -, -⟩ := hs1
  obtain ⟨s, hs⟩ : ∃ s : ByteArray, (⟨l.toArray⟩ : ByteArray) = s := ⟨_, rfl⟩
  rw [hs]
  unfold vi
  obtain ⟨xb, hxb⟩ : ∃ xb : Bool, decide (m.x ≠ 0) = xb := ⟨_, rfl⟩
  obtain ⟨f1, hf1⟩ : ∃ f1, m.fr = f1 := ⟨_, rfl⟩
  obtain ⟨f2, hf2⟩ : ∃ f2, m.to = f2 := ⟨_, rfl⟩
  rw [hxb, hf1, hf2]
  have hB : Below w.heap.size w ((w.alloc (.cells #[.int .i64 f1, .int .i64 f2, .bool xb, .string s, b1] 27)).alloc (.cells #[.int .i64 f1, .int .i64 f2, .bool xb, .string s, b2] 27)) := ((Below.refl _ _).alloc (Nat.le_refl _) _).alloc (by simp) _
  have cS := same_w (hi1.below hB) (hi2.below hB) hn
  obtain ⟨a1, m1, c1, rfl, -, -, -⟩ := hi1
  obtain ⟨a2, m2, c2, rfl, -, -, -⟩ := hi2
  clear hs hxb hf1 hf2 hs2 hn
  go_enter func36, ntmps36
  go_wp2_with (first
    | (go_at_call 66; refine cS.mono ?_; rintro e w2 ⟨rfl, hk2⟩)
    | go_in)
  go_ret
  exact ⟨rfl, hB.trans (hk2.mono (by rw [size2]; omega))⟩

theorem list_bad (k : Int) (hk : ¬ k = 0) (v : Value) (w : World) : Calls prog 37 #[.slice none 0 0, .int .i64 k, .int .i64 k, v] w fun e w' => e = .returned (.bool true) ∧ Below w.heap.size w w' := by
  go_enter func37, ntmps37
  go_wp2
  go_ret
  exact ⟨rfl, Below.refl _ _⟩
theorem list_ok {a b : Value} {t : Int → Int} {o n : Int} {w : World} (h1 : IsInts w a t o n) (h2 : IsInts w b t o n) (hn : n ≤ 1000000) : Calls prog 37 #[a, .int .i64 0, .int .i64 0, b] w fun e w' => e = .returned (.bool true) ∧ Below w.heap.size w w' := by
  have cS := same_w h1 h2 hn
  obtain ⟨a1, m1, c1, rfl, -, -, -⟩ := h1
  obtain ⟨a2, m2, c2, rfl, -, -, -⟩ := h2
  go_enter func37, ntmps37
  go_wp2_with (first
    | (go_at_call 66; refine cS.mono ?_; rintro e w2 ⟨rfl, hk2⟩)
    | go_in)
  go_ret
  exact ⟨rfl, hk2⟩
end Go.Proofs.Tryz
